/- An interpreter of function bodies, sound. No conditions. -/
set_option linter.all false
namespace Go.Own
inductive KT (α:Type) where
 | nil
 | node (k:Nat) (v:α) (l r:KT α)
def KT.find {α:Type}:KT α->Nat->Option α
 | .nil,_=>none
 | .node k v l r,i=>bif Nat.blt i k then l.find i else bif Nat.beq i k then some v else r.find i
def KT.all {α:Type} (p:α->Bool):KT α->Bool
 | .nil=>true
 | .node _ v l r=>p v&&l.all p&&r.all p
def KT.under {α:Type} (n:Nat):KT α->Bool
 | .nil=>true
 | .node k _ l r=>Nat.blt k n&&l.under n&&r.under n
theorem KT.find_under {α:Type} {n:Nat}:∀ {t:KT α} {i:Nat} {v:α},t.under n=true->t.find i=some v->i<n
 | .nil,_,_,_,h=>by simp [KT.find] at h
 | .node k w l r,i,v,ha,h=>by
  simp only [KT.under,Bool.and_eq_true] at ha;simp only [KT.find] at h;cases h1:Nat.blt i k with
  | true=>rw [h1] at h;exact find_under ha.1.2 h
  | false=>
   rw [h1] at h;simp only [cond_false] at h;cases h2:Nat.beq i k with
   | true=>have:=Nat.eq_of_beq_eq_true h2;subst this;exact Nat.le_of_ble_eq_true ha.1.1
   | false=>rw [h2] at h;exact find_under ha.2 h
end Go.Own
