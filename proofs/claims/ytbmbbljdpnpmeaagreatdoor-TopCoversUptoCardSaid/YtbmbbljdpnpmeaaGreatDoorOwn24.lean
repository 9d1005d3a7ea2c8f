/- No conditions. -/
import Derived.Test.YtbmbbljdpnpmeaaGreatDoorOwn23
set_option linter.all false
namespace Go.Own
open D
section
variable {F F2:Fr} {α:Type} {e:Enc α} {l:List α} {a b:α} {s n c:Nat} {ps:Path} {cs:List D} {d d':D}
end
end Go.Own
namespace Go.Own
open D
section
variable {E:Env} {f:Nat} {V:List Nat} {Q:Ex->Fr->Prop} {m:Mc} {A B:Prop} {c:Prop} [Decidable c]
theorem mBiA (n:Nat) {op:BinOp} {t:Nat} {d1 d2:D} {b:Bool} (h:if c then A else B) (tp:b=true->c) (fp:b=false->¬ c) (hd:binD E op t d1 d2=some (lit (.bool b)))
  (k1:A->Mh E f V Q (mVal (runM E f V n m) (lit (.bool true)))) (k2:B->Mh E f V Q (mVal (runM E f V n m) (lit (.bool false))))
  (K:(valM (runM E f V n m),biB E (mF (runM E f V n m)) (mO (runM E f V n m)))=(true,some (op,t,d1,d2)):=by kernel_rfl):Mh E f V Q m:=by
 cases b with
 | true=>rw [if_pos (tp rfl)] at h;exact mBi n hd (k1 h) K
 | false=>rw [if_neg (fp rfl)] at h;exact mBi n hd (k2 h) K
end
end Go.Own
