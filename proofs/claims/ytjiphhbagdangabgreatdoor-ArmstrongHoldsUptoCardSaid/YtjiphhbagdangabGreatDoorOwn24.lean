/- An interpreter of function bodies without memory, proved sound for the model. No conditions. -/
import Derived.Test.YtjiphhbagdangabGreatDoorOwn23
set_option linter.all false
namespace Go.Own
open D
section
variable {E : Env} {f : Nat} {V : List Nat} {Q : Ex → Fr → Prop} {m : Mc} {α : Type}
def lstX (E : Env) (F : Fr) (o : Oper) : Option (D × Nat × Nat × Nat × List (List D) × Nat) := match o.op with
 | .store t x y => match o.dst with
  | some _ => none
  | none => match givenC E F y with
   | none => none
   | some d => match opd E F x with
    | some (place s [] i c) => match get F s with
     | own es => bif (E.P.info? t).isSome && Nat.beq d.cells.length (sizeT E.P t) then some (d, s, i, c, es, sizeT E.P t) else none
     | _ => none
    | _ => none
 | _ => none
def lstR : Option (D × Nat × Nat × Nat × List (List D) × Nat) → Option (List (List D) × Nat)
 | some (_, _, i, _, es, _) => some (es, i)
 | none => none
def lstS : Option (D × Nat × Nat × Nat × List (List D) × Nat) → Nat
 | some (_, s, _, _, _, _) => s
 | none => 0
def lstC (cs : List D) : Option (D × Nat × Nat × Nat × List (List D) × Nat) → Option (List D)
 | some (d, _, _, c, _, k) => bif Nat.ble (c + k) cs.length && !((cs.drop c).take k).any node1 then some (cs.take c ++ d.cells ++ cs.drop (c + k)) else none
 | none => none
theorem lst_store {F : Fr} {o : Oper} {es : List (List D)} {i : Nat} {cs cs' : List D} (h : lstR (lstX E F o) = some (es, i)) (ha : es[i]? = some cs) (hc : lstC cs (lstX E F o) = some cs') : storeP E F o = some (lstS (lstX E F o), own (es.set i cs')) := by
 cases hx : lstX E F o with
 | none => rw [hx] at h; cases h
 | some z =>
  obtain ⟨d, s, i', c, es', k⟩ := z
  rw [hx] at h hc
  simp only [lstR, Option.some.injEq, Prod.mk.injEq] at h
  obtain ⟨rfl, rfl⟩ := h
  simp only [lstC] at hc
  cases hb : (Nat.ble (c + k) cs.length && !((cs.drop c).take k).any node1) with
  | false => rw [hb] at hc; cases hc
  | true =>
   rw [hb] at hc
   simp only [cond_true, Option.some.injEq] at hc
   subst hc
   rw [Bool.and_eq_true] at hb
   have hb1 := Nat.le_of_ble_eq_true hb.1
   have hb2 : ((cs.drop c).take k).any node1 = false := by simpa using hb.2
   unfold lstX at hx
   unfold storeP
   split at hx
   ·rename_i t x y hq
    split at hx
    ·cases hx
    ·rename_i hdst
     split at hx
     ·cases hx
     ·rename_i d' hy
      split at hx
      ·rename_i s' i2 c' hxx
       split at hx
       ·rename_i es2 hg
        cases hi : ((E.P.info? t).isSome && Nat.beq d'.cells.length (sizeT E.P t)) with
        | false => rw [hi] at hx; cases hx
        | true =>
         rw [hi] at hx
         simp only [cond_true, Option.some.injEq, Prod.mk.injEq] at hx
         obtain ⟨rfl, rfl, rfl, rfl, rfl, rfl⟩ := hx
         rw [Bool.and_eq_true] at hi
         have h1 := hi.1
         have h2 := Nat.eq_of_beq_eq_true hi.2
         simp only [hq, hdst, hy, hxx, hg, ha, lstS]
         rw [if_pos ⟨h1, h2, hb1, hb2⟩]
       ·cases hx
      ·cases hx
   ·cases hx
def mPutL (E : Env) : Mc → D → Mc
 | .op id ops draw ks j s, d => .op id ops draw ks (j + 1) (lateOf ops s.1 j, put0 s.2 (lstS (lstX E (mF (.op id ops draw ks j s)) (mO (.op id ops draw ks j s)))) d)
 | _, _ => .bad
def looL (E : Env) : Mc → Bool
 | .op id ops draw ks j s => match ops[j]? with
  | some o => draw && !anchored ops j && isTrue (wantedD ops (frd draw ops j s) o) && (semi ops j && seesAll ops (frd draw ops j s) o && (lateOf ops s.1 j).all (blindAt ops) && (lateOf ops s.1 j).all (noDst ops (lstS (lstX E (mF (.op id ops draw ks j s)) (mO (.op id ops draw ks j s))))))
  | none => false
 | _ => false
theorem m_stoL {es : List (List D)} {i : Nat} {cs cs' : List D} (hok : looL E m = true) (h : lstR (lstX E (mF m) (mO m)) = some (es, i)) (ha : es[i]? = some cs) (hc : lstC cs (lstX E (mF m) (mO m)) = some cs') (k : MhD E f V Q (mPutL E m (own (es.set i cs')))) : MhD E f V Q m := by
 cases m with
 | pt c F => cases hok
 | bad => cases hok
 | op id ops draw ks j s =>
  refine MhD.op_step ⟨0, fun n _ => ?_⟩ k
  have hst := lst_store h ha hc
  simp only [looL] at hok
  split at hok
  ·rename_i o ho
   simp only [Bool.and_eq_true] at hok
   obtain ⟨⟨⟨hd, han⟩, hw⟩, ⟨⟨h1, h2⟩, h3⟩, h4⟩ := hok
   have hw := isTrue_eq hw
   have han : anchored ops j = false := by simpa using han
   cases draw with
   | false => cases hd
   | true =>
    simp only [mF, mO, ho, frd, han, Bool.not_false, Bool.and_self, cond_true] at hst hw h2 h4 ⊢
    have hl : looseC E ops s.1 j s.2 o = some (lateOf ops s.1 j, put0 s.2 (lstS (lstX E (maskF (hiddenOf ops s.1 j) s.2) o)) (own (es.set i cs'))) := by
     unfold looseC
     simp only [hw, hst]
     rw [h1, h2, h3, h4]
     rfl
    unfold stepS
    simp only [ho, cond_true, han, cond_false, pureC_loose hl, hl]
  ·cases hok
theorem mStoL (n : Nat) (e : Enc α) {l : List α} {i : Int} {a : α} (b : α) (h : lget l i = some a)
  (k : Mh E f V Q (mPutL E (runM E f V n m) (.own ((lset l i b).map e))))
  (K : (looL E (runM E f V n m), lstR (lstX E (mF (runM E f V n m)) (mO (runM E f V n m))), lstC (e a) (lstX E (mF (runM E f V n m)) (mO (runM E f V n m)))) = (true, some (l.map e, i.toNat), some (e b)) := by kernel_rfl) : Mh E f V Q m := by
 simp only [Prod.mk.injEq] at K
 obtain ⟨h1, h2, h3⟩ := K
 refine runK n m ⟨m_stoL h1 h2 (cs := e a) ?_ h3 ?_⟩
 ·rw [List.getElem?_map, (lget_some h).2]; rfl
 ·have : (l.map e).set i.toNat (e b) = (lset l i b).map e := by unfold lset; rw [List.map_set]
  rw [this]; exact k.out
end
end Go.Own
