/- An interpreter of function bodies without memory, proved sound for the model. No conditions. -/
import Derived.Test.YtjiphhbagdangaaGreatDoorOwn5
set_option linter.all false
namespace Go.Own
open D
abbrev Query := Nat × List D
def passQ (E : Env) (F : Fr) (f : Nat) (c : Operand) (args : List Arg) : Option (List D) :=
 match passMoves E f 0 F args with
 | none => none
 | some (ms, F1) => match lentFrom E f F1 c 0 args with
  | none => none
  | some l => match holeC F1 l with
   | none => none
   | some (ld, F2) => passRest E f F1 F2 c ld 0 args ms
def opQ (E : Env) (F : Fr) (o : Oper) : List Query := match o.op with
 | .call c => match c.callee with
  | .value x => match opd E F x with
   | some (fn g caps) => ((passQ E F g x (argsOf c.args.toList caps.length)).map fun ds => (g, ds)).toList
   | _ => []
  | _ => []
 | _ => []
def valQ (E : Env) (F : Fr) (o : Oper) : List Query := match o.op with
 | .call c => match c.callee with
  | .value x => match opd E F x with
   | some (fn g caps) => ((passRest E g F F x none 0 (argsOf c.args.toList caps.length) ((argsOf c.args.toList caps.length).map fun _ => none)).map fun ds => (g, ds)).toList
   | _ => []
  | _ => []
 | _ => []
def opsQ (E : Env) (f : Nat) (V : List Nat) (call : Caller) (ops : Array Oper) : List Nat → Fr → List Query
 | [], _ => []
 | i :: r, F => match ops[i]? with
  | none => opsQ E f V call ops r F
  | some o => match wantedD ops F o with
   | some true => opQ E F o ++ (match opC E f V call F o with
    | some F' => opsQ E f V call ops r F'
    | none => [])
   | some false => opsQ E f V call ops r (fin F o.dst (tup []))
   | none => []
def drawQ (E : Env) (f : Nat) (V : List Nat) (call : Caller) (ops : Array Oper) : List Nat → List Nat → Fr → List Query
 | [], _, _ => []
 | i :: r, blk, F => match ops[i]? with
  | none => []
  | some o => if anchored ops i then match wantedD ops F o with
    | some true => opQ E F o ++ (match opC E f V call F o with
     | some F' => drawQ E f V call ops r [] F'
     | none => [])
    | some false => drawQ E f V call ops r [] (fin F o.dst (tup []))
    | none => []
   else valQ E (maskF (hiddenOf ops blk i) F) o ++ (match pureC E f call ops (maskF (hiddenOf ops blk i) F) o with
    | some d => drawQ E f V call ops r (i :: blk) (set0 F o.dst d)
    | none => match looseC E ops blk i F o with
     | some b => drawQ E f V call ops r b.1 b.2
     | none => [])
def regQ (E : Env) (f : Nat) (V : List Nat) (call : Caller) (ops : Array Oper) (draw : Bool) (F : Fr) : List Query :=
 if draw then drawQ E f V call ops (List.range ops.size) [] (freshC F ops.toList) else opsQ E f V call ops (List.range ops.size) F
def Agree (c c' : Caller) (l : List Query) : Prop := ∀ q ∈ l, ∀ x, c q.1 q.2 = some x → c' q.1 q.2 = some x
theorem Agree.left {c c' : Caller} {l m : List Query} (h : Agree c c' (l ++ m)) : Agree c c' l := fun q hq => h q (List.mem_append_left _ hq)
theorem Agree.right {c c' : Caller} {l m : List Query} (h : Agree c c' (l ++ m)) : Agree c c' m := fun q hq => h q (List.mem_append_right _ hq)
theorem callC_q {E : Env} {c c' : Caller} {F : Fr} {f : Nat} {x : Operand} {bs : List Arg} {r : D × Fr} (h : ∀ ds, passQ E F f x bs = some ds → ∀ y, c f ds = some y → c' f ds = some y) (hc : callC E c F f x bs = some r) : callC E c' F f x bs = some r := by
 unfold callC at hc ⊢
 unfold passQ at h
 split at hc
 ·cases hc
 ·rename_i ms F1 h1
  simp only [h1] at h
  split at hc
  ·cases hc
  ·rename_i l h2
   simp only [h2] at h
   split at hc
   ·cases hc
   ·rename_i ld F2 h3
    simp only [h3] at h
    split at hc
    ·cases hc
    ·rename_i ds h4
     split at hc
     ·cases hc
     ·rename_i r outs hcl
      simp only [h ds h4 _ hcl]
      exact hc
theorem opC_q {E : Env} {c c' : Caller} {f : Nat} {V : List Nat} {F F' : Fr} {o : Oper} (h : Agree c c' (opQ E F o)) (hc : opC E f V c F o = some F') : opC E f V c' F o = some F' := by
 unfold opC at hc ⊢
 unfold opQ at h
 cases hq : o.op with
 | call cl =>
  rw [hq] at hc h
  simp only at hc h ⊢
  cases hcl : cl.callee with
  | value x =>
   rw [hcl] at hc h
   simp only at hc h ⊢
   cases ho : opd E F x with
   | none => simp [ho] at hc
   | some d =>
    cases d with
    | fn g caps =>
     simp only [ho, Option.bind_eq_some_iff] at hc h ⊢
     obtain ⟨r, hr, hc⟩ := hc
     refine ⟨r, callC_q (fun ds hds y hy => ?_) hr, hc⟩
     rw [hds] at h
     exact h (g, ds) (by simp) y hy
    | _ => simp [ho] at hc
  | builtin b => rw [hcl] at hc; cases b <;> exact hc
  | invoke a b => rw [hcl] at hc; exact hc
 | makeFunc fn _ _ => rw [hq] at hc; cases fn <;> exact hc
 | makeMap _ r => rw [hq] at hc; cases r <;> exact hc
 | slice _ _ _ _ mx => rw [hq] at hc; cases mx <;> exact hc
 | extract x _ => rw [hq] at hc; cases x <;> exact hc
 | move x => rw [hq] at hc; cases x <;> exact hc
 | _ => rw [hq] at hc; exact hc
theorem valC_q {E : Env} {c c' : Caller} {f : Nat} {F : Fr} {o : Oper} {d : D} (h : Agree c c' (valQ E F o)) (hc : valC E f c F o = some d) : valC E f c' F o = some d := by
 unfold valC at hc ⊢
 unfold valQ at h
 cases hq : o.op with
 | call cl =>
  rw [hq] at hc h
  simp only at hc h ⊢
  cases hcl : cl.callee with
  | value x =>
   rw [hcl] at hc h
   simp only at hc h ⊢
   cases ho : opd E F x with
   | none => simp [ho] at hc
   | some d =>
    cases d with
    | fn g caps =>
     simp only [ho] at hc h ⊢
     split at hc
     ·rename_i hs
      rw [if_pos hs]
      cases hp : passRest E g F F x none 0 (argsOf cl.args.toList caps.length) ((argsOf cl.args.toList caps.length).map fun _ => none) with
      | none => rw [hp] at hc; cases hc
      | some ds =>
       rw [hp] at hc h
       cases hcd : c g ds with
       | none => simp [hcd] at hc
       | some x =>
        simp only [hcd] at hc
        simp only [h (g, ds) (by simp) x hcd]
        exact hc
     ·cases hc
    | _ => simp [ho] at hc
  | builtin b => rw [hcl] at hc; cases b <;> exact hc
  | invoke a b => rw [hcl] at hc; exact hc
 | makeFunc fn _ _ => rw [hq] at hc; cases fn <;> exact hc
 | makeMap _ r => rw [hq] at hc; cases r <;> exact hc
 | slice _ _ _ _ mx => rw [hq] at hc; cases mx <;> exact hc
 | extract x _ => rw [hq] at hc; cases x <;> exact hc
 | move x => rw [hq] at hc; cases x <;> exact hc
 | _ => rw [hq] at hc; exact hc
theorem pureC_q {E : Env} {c c' : Caller} {f : Nat} {ops : Array Oper} {F : Fr} {o : Oper} {d : D} (h : Agree c c' (valQ E F o)) (hc : pureC E f c ops F o = some d) : pureC E f c' ops F o = some d := by
 unfold pureC at hc ⊢
 split at hc
 ·exact valC_q h hc
 ·exact hc
 ·cases hc
theorem opsC_q {E : Env} {c c' : Caller} {f : Nat} {V : List Nat} {ops : Array Oper} : ∀ {l : List Nat} {F F' : Fr}, Agree c c' (opsQ E f V c ops l F) → opsC E f V c ops l F = some F' → opsC E f V c' ops l F = some F'
 | [], _, _, _, hc => hc
 | i :: l, F, F', h, hc => by
  simp only [opsC] at hc ⊢
  simp only [opsQ] at h
  cases ho : ops[i]? with
  | none => simp only [ho] at hc h ⊢; exact opsC_q h hc
  | some o =>
   simp only [ho] at hc h ⊢
   cases hw : wantedD ops F o with
   | none => simp [hw] at hc
   | some b =>
    cases b with
    | true =>
     simp only [hw] at hc h ⊢
     cases h1 : opC E f V c F o with
     | none => simp [h1] at hc
     | some F1 =>
      simp only [h1] at hc h
      simp only [opC_q h.left h1]
      exact opsC_q h.right hc
    | false => simp only [hw] at hc h ⊢; exact opsC_q h hc
theorem drawC_q {E : Env} {c c' : Caller} {f : Nat} {V : List Nat} {ops : Array Oper} : ∀ {l : List Nat} {blk : List Nat} {F F' : Fr}, Agree c c' (drawQ E f V c ops l blk F) → drawC E f V c ops l blk F = some F' → drawC E f V c' ops l blk F = some F'
 | [], _, _, _, _, hc => hc
 | i :: l, blk, F, F', h, hc => by
  simp only [drawC] at hc ⊢
  simp only [drawQ] at h
  cases ho : ops[i]? with
  | none => simp [ho] at hc
  | some o =>
   simp only [ho] at hc h ⊢
   by_cases ha : anchored ops i = true
   ·simp only [if_pos ha] at hc h ⊢
    cases hw : wantedD ops F o with
    | none => simp [hw] at hc
    | some b =>
     cases b with
     | true =>
      simp only [hw] at hc h ⊢
      cases h1 : opC E f V c F o with
      | none => simp [h1] at hc
      | some F1 =>
       simp only [h1] at hc h
       simp only [opC_q h.left h1]
       exact drawC_q h.right hc
     | false => simp only [hw] at hc h ⊢; exact drawC_q h hc
   ·simp only [if_neg ha] at hc h ⊢
    cases hp : pureC E f c ops (maskF (hiddenOf ops blk i) F) o with
    | none =>
     simp only [hp] at hc h
     split at hc
     ·rename_i b hb
      simp only [hb] at h
      rw [pureC_loose hb (c := c')]
      simp only [hb]
      exact drawC_q h.right hc
     ·cases hc
    | some d =>
     simp only [hp] at hc h
     simp only [pureC_q h.left hp]
     split at hc
     ·rename_i hs
      rw [if_pos hs]
      exact drawC_q h.right hc
     ·cases hc
theorem regC_q {E : Env} {c c' : Caller} {f : Nat} {V : List Nat} {ops : Array Oper} {draw : Bool} {F F' : Fr} (h : Agree c c' (regQ E f V c ops draw F)) (hc : regC E f V c ops draw F = some F') : regC E f V c' ops draw F = some F' := by
 unfold regC at hc ⊢
 unfold regQ at h
 split at hc
 ·rename_i hd
  rw [if_pos hd] at h ⊢
  split at hc
  ·rename_i hb
   rw [if_pos hb]
   simp only [Option.map_eq_some_iff] at hc ⊢
   obtain ⟨F1, h1, h2⟩ := hc
   exact ⟨F1, drawC_q h h1, h2⟩
  ·cases hc
 ·rename_i hd
  rw [if_neg hd] at h ⊢
  simp only [Option.map_eq_some_iff] at hc ⊢
  obtain ⟨F1, h1, h2⟩ := hc
  exact ⟨F1, opsC_q h h1, h2⟩
def Answers (E : Env) (c : Caller) (l : List Query) : Prop := ∀ q ∈ l, ∃ r outs, c q.1 q.2 = some (r, outs) ∧ Ret E q.1 q.2 r outs
theorem Answers.nil {E : Env} {c : Caller} : Answers E c [] := fun q hq => by cases hq
theorem Answers.cons {E : Env} {c : Caller} {g : Nat} {ds : List D} {r : D} {outs : List D} {l : List Query} (h : c g ds = some (r, outs)) (k : Ret E g ds r outs) (m : Answers E c l) : Answers E c ((g, ds) :: l) := fun q hq => by
 rcases List.mem_cons.1 hq with rfl | hq
 ·exact ⟨r, outs, h, k⟩
 ·exact m q hq
end Go.Own
namespace Go.Own
open D
def Runs (E : Env) (f : Nat) (V : List Nat) (cd : Code) (F : Fr) (x : Ex × Fr) : Prop := ∃ N, ∀ n, N ≤ n → execC E f V (callN E n) n cd F = some x
def To (E : Env) (f : Nat) (V : List Nat) (cd : Code) (F : Fr) (Q : Ex → Fr → Prop) : Prop := ∃ e F', Runs E f V cd F (e, F') ∧ Q e F'
def noCall : Caller := fun _ _ => none
section
variable {E : Env} {f : Nat} {V : List Nat} {F F' : Fr} {Q : Ex → Fr → Prop}
theorem To.region {id : Nat} {ops : Array Oper} {d : Bool} (h : regC E f V noCall ops d F = some F') (k : Q .normal (trim E f V 0 id F')) : To E f V (.region id ops d) F Q :=
 ⟨_, _, ⟨0, fun n _ => by simp only [execC, regC_q (c' := callN E n) (fun q _ x hx => by cases hx) h, Option.map_some]⟩, k⟩
theorem To.skip (k : Q .normal F) : To E f V .skip F Q := ⟨_, _, ⟨0, fun _ _ => rfl⟩, k⟩
theorem To.exit {id : Nat} (k : Q (.exit id) (trim E f V 3 id F)) : To E f V (.exit id) F Q := ⟨_, _, ⟨0, fun _ _ => rfl⟩, k⟩
theorem To.ret (k : Q .ret F) : To E f V .ret F Q := ⟨_, _, ⟨0, fun _ _ => rfl⟩, k⟩
def thenTo (E : Env) (f : Nat) (V : List Nat) (b : Code) (Q : Ex → Fr → Prop) : Ex → Fr → Prop
 | .normal, F => To E f V b F Q
 | e, F => Q e F
theorem To.seq {a b : Code} (h : To E f V a F (thenTo E f V b Q)) : To E f V (.seq a b) F Q := by
 obtain ⟨e, F1, ⟨N, hN⟩, h2⟩ := h
 cases e with
 | normal =>
  obtain ⟨e2, F2, ⟨K, hK⟩, k2⟩ := h2
  exact ⟨e2, F2, ⟨max N K, fun n hn => by simp only [execC, hN n (by omega)]; exact hK n (by omega)⟩, k2⟩
 | exit i => exact ⟨_, _, ⟨N, fun n hn => by simp only [execC, hN n hn]⟩, h2⟩
 | ret => exact ⟨_, _, ⟨N, fun n hn => by simp only [execC, hN n hn]⟩, h2⟩
theorem To.cond {y : Operand} {a b : Code} {t : Bool} (hy : opd E F y = some (.lit (.bool t))) (h1 : t = true → To E f V a (trim E f V 1 (askKey y) F) Q) (h2 : t = false → To E f V b (trim E f V 2 (askKey y) F) Q) : To E f V (.cond y a b) F Q := by
 cases t with
 | true => obtain ⟨e, F1, ⟨N, hN⟩, k2⟩ := h1 rfl; exact ⟨e, F1, ⟨N, fun n hn => by simp only [execC, hy, if_true]; exact hN n hn⟩, k2⟩
 | false => obtain ⟨e, F1, ⟨N, hN⟩, k2⟩ := h2 rfl; exact ⟨e, F1, ⟨N, fun n hn => by simp only [execC, hy, Bool.false_eq_true, if_false]; exact hN n hn⟩, k2⟩
def blockTo (id : Nat) (Q : Ex → Fr → Prop) : Ex → Fr → Prop
 | .exit i, F => if i = id then Q .normal F else Q (.exit i) F
 | e, F => Q e F
theorem To.block {id : Nat} {b : Code} (h : To E f V b F (blockTo id Q)) : To E f V (.block id b) F Q := by
 obtain ⟨e, F1, ⟨N, hN⟩, h2⟩ := h
 cases e with
 | normal => exact ⟨_, F1, ⟨N, fun n hn => by simp only [execC, hN n hn]⟩, h2⟩
 | ret => exact ⟨_, F1, ⟨N, fun n hn => by simp only [execC, hN n hn]⟩, h2⟩
 | exit i =>
  simp only [blockTo] at h2
  by_cases hi : i = id
  ·rw [if_pos hi] at h2
   exact ⟨_, F1, ⟨N, fun n hn => by simp only [execC, hN n hn, if_pos hi]⟩, h2⟩
  ·rw [if_neg hi] at h2
   exact ⟨_, F1, ⟨N, fun n hn => by simp only [execC, hN n hn, if_neg hi]⟩, h2⟩
theorem To.loop {b : Code} (h : To E f V b F (thenTo E f V (.loop b) Q)) : To E f V (.loop b) F Q := by
 obtain ⟨e, F1, ⟨N, hN⟩, h2⟩ := h
 cases e with
 | normal =>
  obtain ⟨e2, F2, ⟨K, hK⟩, k2⟩ := h2
  refine ⟨e2, F2, ⟨max N K + 1, fun n hn => ?_⟩, k2⟩
  obtain ⟨m, rfl⟩ : ∃ m, n = m + 1 := ⟨n - 1, by omega⟩
  have hm := hK m (by omega)
  simp only [execC] at hm ⊢
  simp only [iter, hN (m + 1) (by omega)]
  exact iter_le (fun F y hy => execC_le (callN_le (Nat.le_succ m)) (Nat.le_succ m) hy) (Nat.le_refl m) hm
 | exit i =>
  refine ⟨_, _, ⟨N + 1, fun n hn => ?_⟩, h2⟩
  obtain ⟨m, rfl⟩ : ∃ m, n = m + 1 := ⟨n - 1, by omega⟩
  simp only [execC, iter, hN (m + 1) (by omega)]
 | ret =>
  refine ⟨_, _, ⟨N + 1, fun n hn => ?_⟩, h2⟩
  obtain ⟨m, rfl⟩ : ∃ m, n = m + 1 := ⟨n - 1, by omega⟩
  simp only [execC, iter, hN (m + 1) (by omega)]
theorem To.mono {cd : Code} {Q' : Ex → Fr → Prop} (h : To E f V cd F Q) (k : ∀ e F, Q e F → Q' e F) : To E f V cd F Q' := by
 obtain ⟨e, F1, h1, h2⟩ := h
 exact ⟨e, F1, h1, k _ _ h2⟩
end
def Leaves (E : Env) (f : Nat) (fd : Func) (n : Nat) (r : D) (outs : List D) : Ex → Fr → Prop
 | .exit _, _ => False
 | _, F => leaveC E f fd n F = some (r, outs)
theorem Ret.of_to {E : Env} {f : Nat} {fd : Func} {cd : Code} {ds : List D} {r : D} {outs : List D} {F0 : Fr} (hp : E.prim f = none) (hf : E.P.funcs[f]? = some fd) (hb : fd.body = some cd) (hl : ds.length ≤ fd.ntmps ∧ fd.ntmps < 1000000)
  (h0 : norm (E.vars f ++ lents E f 0 ds.length) (begins E f 0 ds) = F0) (hr : To E f (E.vars f ++ lents E f 0 ds.length) cd F0 (Leaves E f fd ds.length r outs)) : Ret E f ds r outs := by
 obtain ⟨e, F, ⟨N, hN⟩, h2⟩ := hr
 subst h0
 refine Ret.of (n := N + 1) ?_
 simp only [callN, hp, hf, hb, if_pos hl, hN N (Nat.le_refl N)]
 cases e with
 | exit i => exact h2.elim
 | normal => exact h2
 | ret => exact h2
end Go.Own
namespace Go.Own
open D
inductive Kt | seq (b : Code) | block (id : Nat) | loop (b : Code)
def dn : Code → List Kt → Code × List Kt
 | .seq a b, ks => dn a (.seq b :: ks)
 | .block id b, ks => dn b (.block id :: ks)
 | c, ks => (c, ks)
def go : Code → List Nat → List Kt → Code × List Kt
 | .seq a b, i :: p, ks => match i with
  | 0 => go a p (.seq b :: ks)
  | _ => go b p ks
 | .cond _ a b, i :: p, ks => match i with
  | 0 => go a p ks
  | _ => go b p ks
 | .block id b, _ :: p, ks => go b p (.block id :: ks)
 | .loop b, _ :: p, ks => go b p (.loop b :: ks)
 | c, _, ks => (c, ks)
def nextK : List Kt → Option (Code × List Kt)
 | [] => none
 | .seq b :: ks => some (dn b ks)
 | .block _ :: ks => nextK ks
 | .loop b :: ks => some (.loop b, ks)
def exitK (id : Nat) : List Kt → Option (List Kt)
 | [] => none
 | .block i :: ks => if id = i then some ks else exitK id ks
 | .seq _ :: ks => exitK id ks
 | .loop _ :: ks => exitK id ks
section
variable {E : Env} {f : Nat} {V : List Nat} {F F' : Fr} {Q : Ex → Fr → Prop}
def kTo (E : Env) (f : Nat) (V : List Nat) : List Kt → (Ex → Fr → Prop) → Ex → Fr → Prop
 | [], Q => Q
 | .seq b :: ks, Q => thenTo E f V b (kTo E f V ks Q)
 | .block id :: ks, Q => blockTo id (kTo E f V ks Q)
 | .loop b :: ks, Q => thenTo E f V (.loop b) (kTo E f V ks Q)
def AtC (E : Env) (f : Nat) (V : List Nat) (c : Code × List Kt) (F : Fr) (Q : Ex → Fr → Prop) : Prop := To E f V c.1 F (kTo E f V c.2 Q)
theorem AtC_dn : ∀ (c : Code) (ks : List Kt) {F : Fr}, AtC E f V (dn c ks) F Q → AtC E f V (c, ks) F Q
 | .seq a b, ks, _, h => To.seq (AtC_dn a (.seq b :: ks) h)
 | .block id b, ks, _, h => To.block (AtC_dn b (.block id :: ks) h)
 | .skip, _, _, h => h
 | .region .., _, _, h => h
 | .cond .., _, _, h => h
 | .loop _, _, _, h => h
 | .exit _, _, _, h => h
 | .ret, _, _, h => h
 | .rangeFunc .., _, _, h => h
 | .scope _, _, _, h => h
 | .label _, _, _, h => h
 | .goto _, _, _, h => h
 | .refuse _, _, _, h => h
theorem kTo_next : ∀ {ks : List Kt} {c : Code × List Kt} {F : Fr}, nextK ks = some c → AtC E f V c F Q → kTo E f V ks Q .normal F
 | [], c, _, h, _ => by simp [nextK] at h
 | .seq b :: ks, c, F, h, k => by
  simp only [nextK, Option.some.injEq] at h
  subst h
  exact AtC_dn b ks k
 | .block id :: ks, c, F, h, k => kTo_next (ks := ks) h k
 | .loop b :: ks, c, F, h, k => by
  simp only [nextK, Option.some.injEq] at h
  subst h
  exact k
theorem kTo_exit {id : Nat} : ∀ {ks ks' : List Kt} {F : Fr}, exitK id ks = some ks' → kTo E f V ks' Q .normal F → kTo E f V ks Q (.exit id) F
 | [], _, _, h, _ => by simp [exitK] at h
 | .seq _ :: ks, ks', F, h, k => kTo_exit (ks := ks) h k
 | .loop _ :: ks, ks', F, h, k => kTo_exit (ks := ks) h k
 | .block i :: ks, ks', F, h, k => by
  simp only [exitK] at h
  simp only [kTo, blockTo]
  split at h
  ·rename_i hi
   simp only [Option.some.injEq] at h
   subst h
   rw [if_pos hi]; exact k
  ·rename_i hi
   rw [if_neg hi]; exact kTo_exit h k
theorem kTo_ret : ∀ {ks : List Kt} {F : Fr}, Q .ret F → kTo E f V ks Q .ret F
 | [], _, k => k
 | .seq _ :: ks, _, k => kTo_ret (ks := ks) k
 | .loop _ :: ks, _, k => kTo_ret (ks := ks) k
 | .block _ :: ks, _, k => kTo_ret (ks := ks) k
theorem kTo_end : ∀ {ks : List Kt} {F : Fr}, nextK ks = none → Q .normal F → kTo E f V ks Q .normal F
 | [], _, _, k => k
 | .seq _ :: ks, _, h, _ => by simp [nextK] at h
 | .loop _ :: ks, _, h, _ => by simp [nextK] at h
 | .block _ :: ks, _, h, k => kTo_end (ks := ks) h k
abbrev St := List Nat × Fr
def frd (draw : Bool) (ops : Array Oper) (i : Nat) (s : St) : Fr := bif draw && !anchored ops i then maskF (hiddenOf ops s.1 i) s.2 else s.2
def pts (draw : Bool) (ops : Array Oper) (i : Nat) (s : St) (dst : Option Nat) (d : D) : St :=
 bif draw then (bif anchored ops i then ([], fin s.2 dst d) else (i :: s.1, set0 s.2 dst d)) else (s.1, fin s.2 dst d)
def stepS (E : Env) (f : Nat) (V : List Nat) (call : Caller) (ops : Array Oper) (draw : Bool) (i : Nat) (s : St) : Option St := match ops[i]? with
 | none => none
 | some o =>
  bif draw then
   bif anchored ops i then match wantedD ops s.2 o with
    | some true => (opC E f V call s.2 o).map fun F' => ([], F')
    | some false => some ([], fin s.2 o.dst (tup []))
    | none => none
   else match pureC E f call ops (maskF (hiddenOf ops s.1 i) s.2) o with
    | some d => bif seesAll ops (maskF (hiddenOf ops s.1 i) s.2) o && freeDst s.2 o && newDst ops s.1 o then some (i :: s.1, set0 s.2 o.dst d) else none
    | none => looseC E ops s.1 i s.2 o
  else match wantedD ops s.2 o with
   | some true => (opC E f V call s.2 o).map fun F' => (s.1, F')
   | some false => some (s.1, fin s.2 o.dst (tup []))
   | none => none
def restS (E : Env) (f : Nat) (V : List Nat) (call : Caller) (ops : Array Oper) (draw : Bool) (l : List Nat) (s : St) : Option Fr :=
 if draw then drawC E f V call ops l s.1 s.2 else opsC E f V call ops l s.2
theorem rest_step {call : Caller} {ops : Array Oper} {draw : Bool} {i : Nat} {l : List Nat} {s s' : St} (h : stepS E f V call ops draw i s = some s') : restS E f V call ops draw (i :: l) s = restS E f V call ops draw l s' := by
 obtain ⟨blk, F⟩ := s
 unfold stepS at h
 cases ho : ops[i]? with
 | none => simp [ho] at h
 | some o =>
  simp only [ho] at h
  cases draw with
  | true =>
   simp only [cond_true] at h
   simp only [restS, if_true, drawC, ho]
   cases ha : anchored ops i with
   | true =>
    simp only [ha, cond_true] at h
    simp only [if_true]
    cases hw : wantedD ops F o with
    | none => simp [hw] at h
    | some b =>
     cases b with
     | true =>
      simp only [hw, Option.map_eq_some_iff] at h
      obtain ⟨F', h1, rfl⟩ := h
      simp only [h1]
     | false =>
      simp only [hw, Option.some.injEq] at h
      subst h
      rfl
   | false =>
    simp only [ha, cond_false] at h
    simp only [Bool.false_eq_true, if_false]
    split at h
    ·rename_i d hp
     cases hc : (seesAll ops (maskF (hiddenOf ops blk i) F) o && freeDst F o && newDst ops blk o) with
     | false => rw [hc] at h; simp at h
     | true =>
      rw [hc] at h
      simp only [cond_true, Option.some.injEq] at h
      subst h
      simp only [hp, if_true]
    ·rename_i hp
     simp only [hp, h]
  | false =>
   simp only [cond_false] at h
   simp only [restS, Bool.false_eq_true, if_false, opsC, ho]
   cases hw : wantedD ops F o with
   | none => simp [hw] at h
   | some b =>
    cases b with
    | true =>
     simp only [hw, Option.map_eq_some_iff] at h
     obtain ⟨F', h1, rfl⟩ := h
     simp only [h1]
    | false =>
     simp only [hw, Option.some.injEq] at h
     subst h
     rfl
theorem stepS_le {c c' : Caller} (h : CallLe c c') {ops : Array Oper} {draw : Bool} {i : Nat} {s s' : St} (hc : stepS E f V c ops draw i s = some s') : stepS E f V c' ops draw i s = some s' := by
 unfold stepS at hc ⊢
 split at hc
 ·cases hc
 ·rename_i o ho
  cases draw with
  | true =>
   simp only [cond_true] at hc ⊢
   cases ha : anchored ops i with
   | true =>
    simp only [ha, cond_true] at hc ⊢
    split at hc
    ·simp only [Option.map_eq_some_iff] at hc ⊢
     obtain ⟨F', h1, h2⟩ := hc
     exact ⟨F', opC_le h h1, h2⟩
    ·exact hc
    ·cases hc
   | false =>
    simp only [ha, cond_false] at hc ⊢
    split at hc
    ·rename_i d hp
     rw [pureC_le h hp]; exact hc
    ·rw [pureC_loose hc (c := c')]; exact hc
  | false =>
   simp only [cond_false] at hc ⊢
   split at hc
   ·simp only [Option.map_eq_some_iff] at hc ⊢
    obtain ⟨F', h1, h2⟩ := hc
    exact ⟨F', opC_le h h1, h2⟩
   ·exact hc
   ·cases hc
def Pt (E : Env) (f : Nat) (V : List Nat) (body : Code) (p : List Nat) (F : Fr) (Q : Ex → Fr → Prop) : Prop := AtC E f V (go body p []) F Q
def opsAt (body : Code) (p : List Nat) : Array Oper := match (go body p []).1 with
 | .region _ ops _ => ops
 | _ => #[]
def drawAt (body : Code) (p : List Nat) : Bool := match (go body p []).1 with
 | .region _ _ d => d
 | _ => false
def idAt (body : Code) (p : List Nat) : Nat := match (go body p []).1 with
 | .region id _ _ => id
 | .exit id => id
 | _ => 0
variable {body : Code} {p p' : List Nat}
def AtO (E : Env) (f : Nat) (V : List Nat) (body : Code) (p : List Nat) (j : Nat) (s : St) (Q : Ex → Fr → Prop) : Prop :=
 ∃ F1, (∃ N, ∀ n, N ≤ n → restS E f V (callN E n) (opsAt body p) (drawAt body p) ((List.range (opsAt body p).size).drop j) s = some F1) ∧ kTo E f V (go body p []).2 Q .normal (trim E f V 0 (idAt body p) (norm V F1))
variable {j : Nat} {s s' : St}
theorem drop_range {n j : Nat} (h : j < n) : (List.range n).drop j = j :: (List.range n).drop (j + 1) := by
 rw [List.drop_eq_getElem_cons (by simpa using h)]
 simp
theorem AtO.step (hs : ∃ N, ∀ n, N ≤ n → stepS E f V (callN E n) (opsAt body p) (drawAt body p) j s = some s') (k : AtO E f V body p (j + 1) s' Q) : AtO E f V body p j s Q := by
 obtain ⟨N, hN⟩ := hs
 obtain ⟨F1, ⟨M, hM⟩, k⟩ := k
 have hj : j < (opsAt body p).size := by
  have := hN N (Nat.le_refl N)
  unfold stepS at this
  cases ho : (opsAt body p)[j]? with
  | none => simp [ho] at this
  | some o => exact (Array.getElem?_eq_some_iff.1 ho).1
 refine ⟨F1, ⟨max N M, fun n hn => ?_⟩, k⟩
 rw [drop_range hj, rest_step (hN n (by omega))]
 exact hM n (by omega)
theorem noCall_le {c : Caller} : CallLe noCall c := fun f ds x h => by cases h
def segS (E : Env) (f : Nat) (V : List Nat) (ops : Array Oper) (draw : Bool) : Nat → Nat → St → Option St
 | 0, _, s => some s
 | k + 1, j, s => match stepS E f V noCall ops draw j s with
  | some s' => segS E f V ops draw k (j + 1) s'
  | none => none
theorem AtO.seg_ : ∀ (k : Nat) {j : Nat} {s s' : St}, segS E f V (opsAt body p) (drawAt body p) k j s = some s' → AtO E f V body p (j + k) s' Q → AtO E f V body p j s Q
 | 0, j, s, s', h, k => by
  simp only [segS, Option.some.injEq] at h
  subst h; exact k
 | n + 1, j, s, s', h, k => by
  simp only [segS] at h
  split at h
  ·rename_i s1 h1
   refine AtO.step ⟨0, fun m _ => stepS_le noCall_le h1⟩ (AtO.seg_ n h ?_)
   rw [Nat.add_assoc, Nat.add_comm 1 n]; exact k
  ·cases h
def segG (E : Env) (f : Nat) (V : List Nat) (body : Code) (p : List Nat) (k j : Nat) (s : St) : St := (segS E f V (opsAt body p) (drawAt body p) k j s).getD ([], [])
def okS (E : Env) (f : Nat) (V : List Nat) (body : Code) (p : List Nat) (k j : Nat) (s : St) : Bool := (segS E f V (opsAt body p) (drawAt body p) k j s).isSome
theorem AtO.seg (k : Nat) (h : okS E f V body p k j s = true) (r : AtO E f V body p (j + k) (segG E f V body p k j s) Q) : AtO E f V body p j s Q := by
 unfold okS at h
 obtain ⟨s', hs⟩ := Option.isSome_iff_exists.1 h
 refine AtO.seg_ k hs ?_
 unfold segG at r
 rw [hs] at r
 exact r
theorem AtO.done (hj : (opsAt body p).size = j) (hk : nextK (go body p []).2 = some (go body p' [])) (hF : trim E f V 0 (idAt body p) (norm V s.2) = F') (k : Pt E f V body p' F' Q) : AtO E f V body p j s Q := by
 refine ⟨s.2, ⟨0, fun n _ => ?_⟩, ?_⟩
 ·rw [List.drop_eq_nil_iff.2 (by simp [hj])]
  simp only [restS, drawC, opsC, ite_self]
 ·rw [hF]
  exact kTo_next hk k
theorem AtO.fall (hj : (opsAt body p).size = j) (hk : nextK (go body p []).2 = none) (hF : trim E f V 0 (idAt body p) (norm V s.2) = F') (k : Q .normal F') : AtO E f V body p j s Q := by
 refine ⟨s.2, ⟨0, fun n _ => ?_⟩, ?_⟩
 ·rw [List.drop_eq_nil_iff.2 (by simp [hj])]
  simp only [restS, drawC, opsC, ite_self]
 ·rw [hF]
  exact kTo_end hk k
def operAt (body : Code) (p : List Nat) (j : Nat) : Oper := match (opsAt body p)[j]? with
 | some o => o
 | none => { op := .move (.const undef), dst := none, type := 0, after := #[], guard := none, pos := "" }
end
end Go.Own
