/- An interpreter of function bodies without memory, proved sound for the model. No conditions. -/
import Derived.Test.YteenpfaegjdkoaaGreatOwn22
set_option linter.all false
namespace Go.Own
open D
section
variable {F F2:Fr} {α:Type} {e:Enc α} {l:List α} {a b:α} {s n c:Nat} {ps:Path} {cs:List D} {d d':D}
theorem hole_get (h:l[n]? = some a):((l.map e).set n cs)[n]? = some cs:=by
 have:=(List.getElem?_eq_some_iff.1 h).1
 rw [List.getElem?_set_self (by simpa using this)]
theorem getAt_hole (hg:getAt F s ps=some (.own ((l.map e).set n cs))) (h:l[n]? = some a) (hc:cs[c]? = some d):getAt F s (ps++[(n,c)])=some d:=by
 unfold getAt at hg ⊢
 rw [getP_app,hg]
 simp only [Option.bind_some,D.getP,D.elem,hole_get h,hc]
theorem setAt_hole (hg:getAt F s ps=some (.own ((l.map e).set n cs))) (h:l[n]? = some a) (hc:Nat.blt c cs.length=true) (hset:setAt F s ps (.own ((l.map e).set n (cs.set c d')))=some F2):setAt F s (ps++[(n,c)]) d'=some F2:=by
 have hc:c<cs.length:=blt_lt hc
 unfold setAt at hset ⊢
 unfold getAt at hg
 rw [setP_app,hg]
 simp only [Option.bind_some,D.setP,D.elem,hole_get h]
 rw [List.getElem?_eq_getElem hc]
 simp only [D.setElem,Option.bind_some,List.set_set]
 exact hset
theorem setAt_inn (hg:getAt F s ps=some (.own (l.map e))) (h:l[n]? = some a) (hc:Nat.blt c (e a).length=true) (hb:(e a).set c d'=e b) (hset:setAt F s ps (.own ((l.set n b).map e))=some F2):setAt F s (ps++[(n,c)]) d'=some F2:=
 setAt_el hg h hc (by rw [hb,← map_set];exact hset)
theorem setAt_fill (hg:getAt F s ps=some (.own ((l.map e).set n cs))) (h:l[n]? = some a) (hc:Nat.blt c cs.length=true) (hb:cs.set c d'=e b) (hset:setAt F s ps (.own ((l.set n b).map e))=some F2):setAt F s (ps++[(n,c)]) d'=some F2:=
 setAt_hole hg h hc (by rw [hb,← map_set];exact hset)
end
end Go.Own
namespace Go.Own
open D
section
variable {E:Env} {f:Nat} {V:List Nat} {Q:Ex→Fr→Prop} {m:Mc} {A B:Prop} {c:Prop} [Decidable c]
theorem mBiA (n:Nat) {op:BinOp} {t:Nat} {d1 d2:D} {b:Bool} (h:if c then A else B) (tp:b=true→c) (fp:b=false→¬ c) (hd:binD E op t d1 d2=some (lit (.bool b)))
  (k1:A→Mh E f V Q (mVal (runM E f V n m) (lit (.bool true)))) (k2:B→Mh E f V Q (mVal (runM E f V n m) (lit (.bool false))))
  (K:(valM (runM E f V n m),biB E (mF (runM E f V n m)) (mO (runM E f V n m)))=(true,some (op,t,d1,d2)):=by kernel_rfl):Mh E f V Q m:=by
 cases b with
 | true=>rw [if_pos (tp rfl)] at h;exact mBi n hd (k1 h) K
 | false=>rw [if_neg (fp rfl)] at h;exact mBi n hd (k2 h) K
theorem mBiAN (n:Nat) {op:BinOp} {t:Nat} {d1 d2:D} {b:Bool} (h:if c then A else B) (tp:b=true→¬ c) (fp:b=false→c) (hd:binD E op t d1 d2=some (lit (.bool b)))
  (k1:B→Mh E f V Q (mVal (runM E f V n m) (lit (.bool true)))) (k2:A→Mh E f V Q (mVal (runM E f V n m) (lit (.bool false))))
  (K:(valM (runM E f V n m),biB E (mF (runM E f V n m)) (mO (runM E f V n m)))=(true,some (op,t,d1,d2)):=by kernel_rfl):Mh E f V Q m:=by
 cases b with
 | true=>rw [if_neg (tp rfl)] at h;exact mBi n hd (k1 h) K
 | false=>rw [if_pos (fp rfl)] at h;exact mBi n hd (k2 h) K
end
end Go.Own
