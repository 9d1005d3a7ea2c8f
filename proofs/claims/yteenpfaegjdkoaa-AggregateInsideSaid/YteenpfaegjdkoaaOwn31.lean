/- An interpreter of function bodies without memory, proved sound for the model. No conditions. -/
import Derived.Lib.JoinLaws
import Derived.Test.YteenpfaegjdkoaaOwn26
import Derived.Test.YteenpfaegjdkoaaOwn29
set_option linter.all false
namespace Go.Own
open Go.Lib Go.RowKit
structure CloneOK (P:Program) (f e k by_:Nat) (z:Value):Prop where
 some_:∀ (b off n c:Nat) (news:List Value) (w:World),news.length=n*k→0<n→n≤maxLen→n*by_≤140737488355328→(∀ j u,news[j]? = some u→w.cell? ⟨b,off+j,none⟩=some u) →
  Calls P f #[.slice (some ⟨b,off,none⟩) n c] w fun q w'=>∃ g cap,q=.returned (.slice (some ⟨g,0,none⟩) n cap)∧w.heap.size≤g∧n≤cap∧cap≤maxLen∧w'.heap[g]? = some (.cells (news.toArray++Builtin.zeroCells z.cells (cap-n)) e (0,0))∧Below w.heap.size w w'
 nil:∀ (n c:Nat) (w:World),Calls P f #[.slice none n c] w fun q w'=>q=.returned (.slice none 0 0)∧w'=w
 zero:∀ (a:Addr) (c:Nat) (w:World),Calls P f #[.slice (some a) 0 c] w fun q w'=>q=.returned (.slice (some ⟨w.heap.size,0,none⟩) 0 0)∧w'.heap[w.heap.size]? = some (.cells #[] e (0,0))∧Below w.heap.size w w'
 zk:z.cells.size=k
 z1:∀ u∈z.cells.toList,u.oneCell'=true
 kp:0<k
end Go.Own
