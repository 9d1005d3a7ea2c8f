/- An interpreter of function bodies without memory, proved sound for the model. No conditions. -/
import Derived.Test.YtjiphhbagdangabGreatDoorOwn3
set_option linter.all false
namespace Go.Own
open D
abbrev Caller := Nat → List D → Option (D × List D)
def CallLe (c c' : Caller) : Prop := ∀ f ds x, c f ds = some x → c' f ds = some x
theorem callC_le {E : Env} {c c' : Caller} (h : CallLe c c') {F : Fr} {f : Nat} {x : Operand} {bs : List Arg} {r : D × Fr} (hc : callC E c F f x bs = some r) : callC E c' F f x bs = some r := by
 unfold callC at hc ⊢
 split at hc
 ·cases hc
 ·split at hc
  ·cases hc
  ·split at hc
   ·cases hc
   ·split at hc
    ·cases hc
    ·rename_i h4 _ _ h3 _ h2 _ _ _ h1
     split at hc
     ·cases hc
     ·rename_i r outs hcl
      simp only [h _ _ _ hcl]
      exact hc
theorem opC_le {E : Env} {c c' : Caller} (h : CallLe c c') {f : Nat} {V : List Nat} {F F' : Fr} {o : Oper} (hc : opC E f V c F o = some F') : opC E f V c' F o = some F' := by
 unfold opC at hc ⊢
 cases hq : o.op with
 | call cl =>
  rw [hq] at hc
  simp only at hc ⊢
  cases hcl : cl.callee with
  | value x =>
   rw [hcl] at hc
   simp only at hc ⊢
   cases ho : opd E F x with
   | none => simp [ho] at hc
   | some d =>
    cases d with
    | fn g caps =>
     simp only [ho, Option.bind_eq_some_iff] at hc ⊢
     obtain ⟨r, hr, hc⟩ := hc
     exact ⟨r, callC_le h hr, hc⟩
    | _ => simp [ho] at hc
  | builtin b => rw [hcl] at hc; cases b <;> exact hc
  | invoke a b => rw [hcl] at hc; exact hc
 | makeFunc fn _ _ => rw [hq] at hc; cases fn <;> exact hc
 | makeMap _ r => rw [hq] at hc; cases r <;> exact hc
 | slice _ _ _ _ mx => rw [hq] at hc; cases mx <;> exact hc
 | extract x _ => rw [hq] at hc; cases x <;> exact hc
 | move x => rw [hq] at hc; cases x <;> exact hc
 | _ => rw [hq] at hc; exact hc
theorem valC_le {E : Env} {c c' : Caller} (h : CallLe c c') {f : Nat} {F : Fr} {o : Oper} {d : D} (hc : valC E f c F o = some d) : valC E f c' F o = some d := by
 unfold valC at hc ⊢
 cases hq : o.op with
 | call cl =>
  rw [hq] at hc
  simp only at hc ⊢
  cases hcl : cl.callee with
  | value x =>
   rw [hcl] at hc
   simp only at hc ⊢
   cases ho : opd E F x with
   | none => simp [ho] at hc
   | some d =>
    cases d with
    | fn g caps =>
     simp only [ho] at hc ⊢
     split at hc
     ·rename_i hs
      rw [if_pos hs]
      split at hc
      ·rename_i ds hp
       cases hcd : c g ds with
       | none => simp [hcd] at hc
       | some x =>
        rw [hcd] at hc
        simp only [h _ _ _ hcd]
        exact hc
      ·cases hc
     ·cases hc
    | _ => simp [ho] at hc
  | builtin b => rw [hcl] at hc; cases b <;> exact hc
  | invoke a b => rw [hcl] at hc; exact hc
 | makeFunc fn _ _ => rw [hq] at hc; cases fn <;> exact hc
 | makeMap _ r => rw [hq] at hc; cases r <;> exact hc
 | slice _ _ _ _ mx => rw [hq] at hc; cases mx <;> exact hc
 | extract x _ => rw [hq] at hc; cases x <;> exact hc
 | move x => rw [hq] at hc; cases x <;> exact hc
 | _ => rw [hq] at hc; exact hc
theorem pureC_le {E : Env} {c c' : Caller} (h : CallLe c c') {f : Nat} {ops : Array Oper} {F : Fr} {o : Oper} {d : D} (hc : pureC E f c ops F o = some d) : pureC E f c' ops F o = some d := by
 unfold pureC at hc ⊢
 split at hc
 ·exact valC_le h hc
 ·exact hc
 ·cases hc
theorem pureC_loose {E : Env} {c : Caller} {f : Nat} {ops : Array Oper} {blk : List Nat} {i : Nat} {F : Fr} {o : Oper} {b : List Nat × Fr} (h : looseC E ops blk i F o = some b) : pureC E f c ops (maskF (hiddenOf ops blk i) F) o = none := by
 unfold looseC at h
 split at h
 ·rename_i hw
  split at h
  ·rename_i r hr
   unfold storeP at hr
   split at hr
   ·rename_i t x y hq
    simp only [pureC, hw, valC, hq]
   ·cases hr
  ·cases h
 ·cases h
theorem opsC_le {E : Env} {c c' : Caller} (h : CallLe c c') {f : Nat} {V : List Nat} {ops : Array Oper} : ∀ {l : List Nat} {F F' : Fr}, opsC E f V c ops l F = some F' → opsC E f V c' ops l F = some F'
 | [], _, _, hc => hc
 | i :: l, F, F', hc => by
  simp only [opsC] at hc ⊢
  split at hc
  ·exact opsC_le h hc
  ·split at hc
   ·rename_i o _ _ _
    split at hc
    ·rename_i F1 h1
     simp only [opC_le h h1]
     exact opsC_le h hc
    ·cases hc
   ·exact opsC_le h hc
   ·cases hc
theorem drawC_le {E : Env} {c c' : Caller} (h : CallLe c c') {f : Nat} {V : List Nat} {ops : Array Oper} : ∀ {l : List Nat} {blk : List Nat} {F F' : Fr}, drawC E f V c ops l blk F = some F' → drawC E f V c' ops l blk F = some F'
 | [], _, _, _, hc => hc
 | i :: l, blk, F, F', hc => by
  simp only [drawC] at hc ⊢
  split at hc
  ·cases hc
  ·split at hc
   ·rename_i ha
    rw [if_pos ha]
    split at hc
    ·split at hc
     ·rename_i F1 h1
      simp only [opC_le h h1]
      exact drawC_le h hc
     ·cases hc
    ·exact drawC_le h hc
    ·cases hc
   ·rename_i ha
    rw [if_neg ha]
    split at hc
    ·rename_i d hp
     simp only [pureC_le h hp]
     split at hc
     ·rename_i hs
      rw [if_pos hs]
      exact drawC_le h hc
     ·cases hc
    ·rename_i hp
     split at hc
     ·rename_i b hb
      rw [pureC_loose hb (c := c')]
      simp only [hb]
      exact drawC_le h hc
     ·cases hc
theorem regC_le {E : Env} {c c' : Caller} (h : CallLe c c') {f : Nat} {V : List Nat} {ops : Array Oper} {draw : Bool} {F F' : Fr} (hc : regC E f V c ops draw F = some F') : regC E f V c' ops draw F = some F' := by
 unfold regC at hc ⊢
 split at hc
 ·rename_i hd
  rw [if_pos hd]
  split at hc
  ·rename_i hb
   rw [if_pos hb]
   simp only [Option.map_eq_some_iff] at hc ⊢
   obtain ⟨F1, h1, h2⟩ := hc
   exact ⟨F1, drawC_le h h1, h2⟩
  ·cases hc
 ·rename_i hd
  rw [if_neg hd]
  simp only [Option.map_eq_some_iff] at hc ⊢
  obtain ⟨F1, h1, h2⟩ := hc
  exact ⟨F1, opsC_le h h1, h2⟩
theorem iter_le {b b' : Fr → Option (Ex × Fr)} (h : ∀ F x, b F = some x → b' F = some x) : ∀ {n m : Nat} {F : Fr} {x : Ex × Fr}, n ≤ m → iter n b F = some x → iter m b' F = some x
 | 0, _, _, _, _, hc => by simp [iter] at hc
 | n + 1, 0, _, _, hm, _ => by omega
 | n + 1, m + 1, F, x, hm, hc => by
  simp only [iter] at hc ⊢
  cases hb : b F with
  | none => simp [hb] at hc
  | some q =>
   rw [hb] at hc
   rw [h _ _ hb]
   obtain ⟨e, F1⟩ := q
   cases e with
   | normal => exact iter_le h (by omega) hc
   | exit id => exact hc
   | ret => exact hc
theorem execC_le {E : Env} {c c' : Caller} (h : CallLe c c') {f : Nat} {V : List Nat} {n m : Nat} (hn : n ≤ m) : ∀ {cd : Code} {F : Fr} {x : Ex × Fr}, execC E f V c n cd F = some x → execC E f V c' m cd F = some x
 | .skip, _, _, hc => hc
 | .exit _, _, _, hc => hc
 | .ret, _, _, hc => hc
 | .region _ ops draw, F, x, hc => by
  simp only [execC, Option.map_eq_some_iff] at hc ⊢
  obtain ⟨F1, h1, h2⟩ := hc
  exact ⟨F1, regC_le h h1, h2⟩
 | .seq a b, F, x, hc => by
  simp only [execC] at hc ⊢
  cases hr : execC E f V c n a F with
  | none => simp [hr] at hc
  | some q =>
   rw [hr] at hc
   rw [execC_le h hn hr]
   obtain ⟨e, F1⟩ := q
   cases e with
   | normal => exact execC_le h hn hc
   | exit id => exact hc
   | ret => exact hc
 | .cond y a b, F, x, hc => by
  simp only [execC] at hc ⊢
  split at hc
  ·split at hc
   ·rename_i ht; rw [if_pos ht]; exact execC_le h hn hc
   ·rename_i ht; rw [if_neg ht]; exact execC_le h hn hc
  ·cases hc
 | .block id b, F, x, hc => by
  simp only [execC] at hc ⊢
  cases hr : execC E f V c n b F with
  | none => simp [hr] at hc
  | some q =>
   rw [hr] at hc
   rw [execC_le h hn hr]
   exact hc
 | .loop b, F, x, hc => by
  simp only [execC] at hc ⊢
  exact iter_le (fun F y hy => execC_le h hn hy) hn hc
 | .rangeFunc .., _, _, hc => by simp [execC] at hc
 | .scope _, _, _, hc => by simp [execC] at hc
 | .label _, _, _, hc => by simp [execC] at hc
 | .goto _, _, _, hc => by simp [execC] at hc
 | .refuse _, _, _, hc => by simp [execC] at hc
theorem callN_le {E : Env} : ∀ {n m : Nat}, n ≤ m → CallLe (callN E n) (callN E m)
 | 0, _, _ => fun f ds x hc => by simp [callN] at hc
 | n + 1, 0, hm => by omega
 | n + 1, m + 1, hm => fun f ds x hc => by
  have ih := callN_le (E := E) (n := n) (m := m) (by omega)
  simp only [callN] at hc ⊢
  split at hc
  ·exact hc
  ·split at hc
   ·cases hc
   ·split at hc
    ·cases hc
    ·split at hc
     ·rename_i hl
      rw [if_pos hl]
      cases hr : execC E f (E.vars f ++ lents E f 0 ds.length) (callN E n) n _ (norm (E.vars f ++ lents E f 0 ds.length) (begins E f 0 ds)) with
      | none => rw [hr] at hc; cases hc
      | some q =>
       rw [hr] at hc
       rw [execC_le ih (by omega) hr]
       exact hc
     ·cases hc
def Ret (E : Env) (f : Nat) (ds : List D) (r : D) (outs : List D) : Prop := ∃ n, ∀ m, n ≤ m → callN E m f ds = some (r, outs)
theorem Ret.of {E : Env} {n f : Nat} {ds : List D} {r : D} {outs : List D} (h : callN E n f ds = some (r, outs)) : Ret E f ds r outs := ⟨n, fun _ hm => callN_le hm f ds _ h⟩
end Go.Own
