/- An interpreter of function bodies without memory, proved sound for the model. No conditions. -/
import Derived.Test.YtjiphhbagdangabGreatDoorOwn15
set_option linter.all false
namespace Go.Own
open D
def Less (A B : Fr) : Prop := ∀ s, isUndef (get A s) = true ∨ get B s = get A s
def Seen (A : Fr) (x : Operand) : Prop := ∀ t, x = .tmp t → isUndef (get A t) = false
theorem isUndef_iff {d : D} : isUndef d = true ↔ d = .undef := by cases d <;> simp [isUndef]
section
variable {E : Env} {A B : Fr}
theorem Less.seen (h : Less A B) {x : Operand} (hx : Seen A x) {t : Nat} (ht : x = .tmp t) : get B t = get A t := by
 rcases h t with h | h
 ·rw [hx t ht] at h; cases h
 ·exact h
theorem opd_mono (h : Less A B) {x : Operand} (hx : Seen A x) : opd E B x = opd E A x := by
 cases x with
 | tmp t => simp only [opd, h.seen hx rfl]
 | _ => rfl
theorem getAt_mono (h : Less A B) {s : Nat} {ps : Path} {c : D} (hc : getAt A s ps = some c) (hn : c ≠ .undef) : getAt B s ps = some c := by
 unfold getAt at hc ⊢
 rcases h s with h | h
 ·rw [isUndef_iff] at h
  rw [h] at hc
  cases ps with
  | nil => simp only [D.getP, Option.some.injEq] at hc; exact absurd hc.symm hn
  | cons p ps => obtain ⟨i, o⟩ := p; simp [D.getP, D.elem] at hc
 ·rw [h]; exact hc
theorem ptrOf_mono (h : Less A B) {d : D} {p : Ptr} (hp : ptrOf A d = some p) : ptrOf B d = some p := by
 cases d with
 | alias s ps =>
  simp only [ptrOf] at hp ⊢
  split at hp
  ·rename_i hg; rw [getAt_mono h hg (by simp)]; exact hp
  ·rename_i hg; rw [getAt_mono h hg (by simp)]; exact hp
  ·cases hp
 | _ => exact hp
theorem elemsOf_mono (h : Less A B) {d : D} {es : List (List D)} (hp : elemsOf A d = some es) : elemsOf B d = some es := by
 cases d with
 | alias s ps =>
  simp only [elemsOf] at hp ⊢
  split at hp
  ·rename_i hg; rw [getAt_mono h hg (by simp)]; exact hp
  ·rename_i hg; rw [getAt_mono h hg (by simp)]; exact hp
  ·cases hp
 | sub s ps i k =>
  simp only [elemsOf] at hp ⊢
  split at hp
  ·rename_i hg; rw [getAt_mono h hg (by simp)]; exact hp
  ·rename_i hg; rw [getAt_mono h hg (by simp)]; exact hp
  ·cases hp
 | _ => exact hp
theorem loadD_mono (h : Less A B) {t : Nat} {x d : D} (hp : loadD E A t x = some d) : loadD E B t x = some d := by
 unfold loadD at hp ⊢
 split at hp
 ·cases hp
 ·rename_i hu
  rw [if_neg hu]
  split at hp
  ·rename_i cs hq; rw [ptrOf_mono h hq]; exact hp
  ·rename_i s ps i o hq
   rw [ptrOf_mono h hq]
   try simp only
   split at hp
   ·rename_i nd hg
    rw [getAt_mono h hg (by rintro rfl; simp [D.elem] at hp)]
    exact hp
   ·cases hp
  ·cases hp
theorem indexAddrD_mono (h : Less A B) {t : Nat} {x i d : D} (hp : indexAddrD E A t x i = some d) : indexAddrD E B t x i = some d := by
 unfold indexAddrD at hp ⊢
 split at hp
 ·cases hp
 ·rename_i k hk
  try simp only
  split at hp
  ·rename_i e he
   try simp only
   split at hp
   ·exact hp
   ·rename_i s ps
    try simp only
    split at hp
    ·rename_i es hg; rw [getAt_mono h hg (by simp)]; exact hp
    ·rename_i es hg; rw [getAt_mono h hg (by simp)]; exact hp
    ·cases hp
   ·rename_i s ps off len
    try simp only
    split at hp
    ·rename_i hl
     rw [if_pos hl]
     split at hp
     ·rename_i es hg; rw [getAt_mono h hg (by simp)]; exact hp
     ·rename_i es hg; rw [getAt_mono h hg (by simp)]; exact hp
     ·cases hp
    ·cases hp
   ·cases hp
  ·rename_i he
   try simp only
   split at hp
   ·rename_i m e ha
    try simp only
    split at hp
    ·rename_i hm
     rw [if_pos hm]
     split at hp
     ·cases hp
     ·rename_i hz
      rw [if_neg hz]
      split at hp
      ·rename_i hq; rw [ptrOf_mono h hq]; exact hp
      ·rename_i hq; rw [ptrOf_mono h hq]; exact hp
      ·cases hp
    ·cases hp
   ·cases hp
theorem lenD_mono (h : Less A B) {t : Nat} {x d : D} (hp : lenD E A t x = some d) : lenD E B t x = some d := by
 unfold lenD at hp ⊢
 split at hp
 ·exact hp
 ·exact hp
 ·simp only [Option.map_eq_some_iff] at hp ⊢
  obtain ⟨es, he, hh⟩ := hp
  exact ⟨es, elemsOf_mono h he, hh⟩
 ·rename_i s ps
  try simp only
  split at hp
  ·rename_i hg; rw [getAt_mono h hg (by simp)]; exact hp
  ·cases hp
 ·cases hp
theorem convertD_mono (h : Less A B) {s t : Nat} {x d : D} (hp : convertD E A s t x = some d) : convertD E B s t x = some d := by
 unfold convertD at hp ⊢
 split at hp
 ·exact hp
 ·exact hp
 ·exact hp
 ·exact hp
 ·rename_i e _ _
  try simp only
  split at hp
  ·rename_i es he hes; rw [elemsOf_mono h hes, he]; exact hp
  ·cases hp
 ·cases hp
theorem sliceD_mono (h : Less A B) {t : Nat} {x d : D} {l hh : Option Nat} (hp : sliceD E A t x l hh = some d) : sliceD E B t x l hh = some d := by
 unfold sliceD at hp ⊢
 split at hp
 ·exact hp
 ·exact hp
 ·try simp only
  split at hp
  ·rename_i e es he hes; rw [elemsOf_mono h hes, he]; exact hp
  ·cases hp
 ·try simp only
  split at hp
  ·rename_i e es he hes; rw [elemsOf_mono h hes, he]; exact hp
  ·cases hp
 ·cases hp
theorem lookupD_mono (h : Less A B) {t : Nat} {x k d : D} {ok : Bool} (hp : lookupD E A t x k ok = some d) : lookupD E B t x k ok = some d := by
 unfold lookupD at hp ⊢
 split at hp
 ·try simp only
  split at hp
  ·rename_i es z hg hz; rw [getAt_mono h hg (by simp), hz]; exact hp
  ·cases hp
 ·cases hp
theorem capsD_mono (h : Less A B) : ∀ {xs : List Operand}, (∀ x ∈ xs, Seen A x) → capsD E B xs = capsD E A xs
 | [], _ => rfl
 | x :: xs, hs => by
  simp only [capsD]
  rw [opd_mono h (hs x (by simp)), capsD_mono h (fun y hy => hs y (by simp [hy]))]
theorem freezeAt_mono (h : Less A B) {s : Nat} {ps : Path} {d : D} (hp : freezeAt A s ps = some d) : freezeAt B s ps = some d := by
 unfold freezeAt at hp ⊢
 split at hp
 ·rename_i c hg
  rw [getAt_mono h hg (by rintro rfl; simp [D.freeze] at hp)]; exact hp
 ·cases hp
theorem snap1_mono (h : Less A B) {d d' : D} (hp : snap1 A d = some d') : snap1 B d = some d' := by
 cases d with
 | alias s ps => exact freezeAt_mono h hp
 | sub s ps i k =>
  simp only [snap1] at hp ⊢
  cases hf : freezeAt A s ps with
  | none => simp [hf] at hp
  | some x => rw [hf] at hp; rw [freezeAt_mono h hf]; exact hp
 | place s ps i k =>
  simp only [snap1] at hp ⊢
  cases hf : freezeAt A s ps with
  | none => simp [hf] at hp
  | some x => rw [hf] at hp; rw [freezeAt_mono h hf]; exact hp
 | _ => exact hp
theorem snaps1_mono (h : Less A B) : ∀ {cs ds : List D}, snaps1 A cs = some ds → snaps1 B cs = some ds
 | [], _, hp => hp
 | c :: cs, ds, hp => by
  simp only [snaps1] at hp ⊢
  split at hp
  ·rename_i c' cs' h1 h2
   rw [snap1_mono h h1, snaps1_mono h h2]; exact hp
  ·cases hp
theorem snapD_mono (h : Less A B) {d d' : D} (hp : snapD A d = some d') : snapD B d = some d' := by
 have one : ∀ c, (∀ F, snapD F c = snap1 F c) → snapD A c = some d' → snapD B c = some d' := fun c e hc => by
  rw [e] at hc ⊢; exact snap1_mono h hc
 cases d with
 | agg cs =>
  simp only [snapD, Option.map_eq_some_iff] at hp ⊢
  obtain ⟨cs', h1, h2⟩ := hp
  exact ⟨cs', snaps1_mono h h1, h2⟩
 | fn f cs =>
  simp only [snapD, Option.map_eq_some_iff] at hp ⊢
  obtain ⟨cs', h1, h2⟩ := hp
  exact ⟨cs', snaps1_mono h h1, h2⟩
 | _ => exact one _ (fun _ => rfl) hp
theorem imm1_mono (h : Less A B) {d : D} (hp : imm1 A d = true) : imm1 B d = true := by
 cases d with
 | alias s ps =>
  simp only [imm1] at hp ⊢
  split at hp
  ·rename_i hg; rw [getAt_mono h hg (by simp)]
  ·rename_i hg; rw [getAt_mono h hg (by simp)]
  ·cases hp
 | sub s ps i k =>
  simp only [imm1] at hp ⊢
  split at hp
  ·rename_i hg; rw [getAt_mono h hg (by simp)]
  ·rename_i hg; rw [getAt_mono h hg (by simp)]
  ·cases hp
 | _ => exact hp
theorem immD_mono (h : Less A B) {d : D} (hp : immD A d = true) : immD B d = true := by
 have l : ∀ {cs : List D}, cs.all (imm1 A) = true → cs.all (imm1 B) = true := fun hc => by
  rw [List.all_eq_true] at hc ⊢
  exact fun x hx => imm1_mono h (hc x hx)
 have one : ∀ c, (∀ F, immD F c = imm1 F c) → immD A c = true → immD B c = true := fun c e hc => by
  rw [e] at hc ⊢; exact imm1_mono h hc
 cases d with
 | agg cs => exact l hp
 | fn f cs => exact l hp
 | _ => exact one _ (fun _ => rfl) hp
theorem givenC_mono (h : Less A B) {x : Operand} (hx : Seen A x) {d : D} (hp : givenC E A x = some d) : givenC E B x = some d := by
 cases x with
 | tmp t =>
  simp only [givenC, h.seen hx rfl] at hp ⊢
  split at hp
  ·exact hp
  ·exact hp
  ·exact hp
  ·exact hp
  ·exact hp
  ·rename_i s ps hg
   try simp only
   split at hp
   ·rename_i hg; rw [getAt_mono h hg (by simp)]; exact hp
   ·rename_i hg; rw [getAt_mono h hg (by simp)]; exact hp
   ·cases hp
  ·cases hp
 | _ => exact hp
theorem givenParts_mono (h : Less A B) : ∀ {ps : List (Nat × Operand)} {ds : List (Nat × D)}, (∀ p ∈ ps, Seen A p.2) → givenParts E A ps = some ds → givenParts E B ps = some ds
 | [], _, _, hp => hp
 | (i, x) :: ps, ds, hs, hp => by
  simp only [givenParts] at hp ⊢
  split at hp
  ·rename_i d ds' h1 h2
   rw [givenC_mono h (hs (i, x) (by simp)) h1, givenParts_mono h (fun p hp => hs p (by simp [hp])) h2]; exact hp
  ·cases hp
theorem argD_mono (h : Less A B) {c : Operand} (hc : Seen A c) {b : Arg} (hb : ∀ x, b = .opn x → Seen A x) : argD E B c b = argD E A c b := by
 cases b with
 | opn x => exact opd_mono (E := E) h (hb x rfl)
 | cap j => simp only [argD, capsOf, opd_mono h hc]
theorem passRest_mono (h : Less A B) {f : Nat} {c : Operand} (hc : Seen A c) {l : Option D} : ∀ {bs : List Arg} {i : Nat} {ms : List (Option D)} {ds : List D}, (∀ b ∈ bs, ∀ x, b = .opn x → Seen A x) → passRest E f A A c l i bs ms = some ds → passRest E f B B c l i bs ms = some ds
 | [], i, ms, ds, _, hp => by cases ms <;> exact hp
 | b :: bs, i, [], ds, _, hp => by simp [passRest] at hp
 | b :: bs, i, m :: ms, ds, hb, hp => by
  simp only [passRest] at hp ⊢
  rw [argD_mono h hc (hb b (by simp))]
  split at hp
  ·rename_i d ds' h1 h2
   rw [passRest_mono h hc (fun y hy => hb y (by simp [hy])) h2]
   have : restOne m (E.mode f i) l ((argD E A c b).bind (snapD B)) = some d := by
    cases m with
    | some x => exact h1
    | none =>
     cases hm : E.mode f i with
     | inout => rw [hm] at h1; exact h1
     | move => rw [hm] at h1; exact h1
     | snap =>
      rw [hm] at h1
      simp only [restOne] at h1 ⊢
      cases ha : argD E A c b with
      | none => simp [ha] at h1
      | some x => rw [ha] at h1; exact snapD_mono h h1
   rw [this]; exact hp
  ·cases hp
theorem snapSrcs_mono (h : Less A B) {f : Nat} {c : Operand} (hc : Seen A c) : ∀ {bs : List Arg} {i : Nat}, (∀ b ∈ bs, ∀ x, b = .opn x → Seen A x) → snapSrcs E f B c i bs = snapSrcs E f A c i bs
 | [], _, _ => rfl
 | b :: bs, i, hb => by
  simp only [snapSrcs]
  rw [argD_mono h hc (hb b (by simp)), snapSrcs_mono h hc (fun y hy => hb y (by simp [hy]))]
theorem valC_mono {f : Nat} {call : Nat → List D → Option (D × List D)} (h : Less A B) {o : Oper} (hs : ∀ x ∈ o.op.operands.toList, Seen A x) {d : D} (hv : valC E f call A o = some d) : valC E f call B o = some d := by
 unfold valC at hv ⊢
 cases hq : o.op with
 | move x =>
  rw [hq] at hv hs
  have hx := hs x (by simp [Op.operands])
  simp only at hv ⊢
  cases x with
  | tmp t => simp only [h.seen hx rfl, opd] at hv ⊢; exact hv
  | _ => exact hv
 | assign x =>
  rw [hq] at hv hs
  have hx := hs x (by simp [Op.operands])
  simp only at hv ⊢
  cases x with
  | tmp t => simp only [h.seen hx rfl] at hv ⊢; exact hv
  | _ => exact hv
 | pick c x y =>
  rw [hq] at hv hs
  simp only [opd_mono h (hs c (by simp [Op.operands])), opd_mono h (hs x (by simp [Op.operands])), opd_mono h (hs y (by simp [Op.operands]))] at hv ⊢
  split at hv
  ·rename_i t ht
   cases t
   ·simp only [Bool.false_eq_true, if_false] at hv ⊢; rw [opd_mono h (hs y (by simp [Op.operands]))]; exact hv
   ·simp only [if_true] at hv ⊢; rw [opd_mono h (hs x (by simp [Op.operands]))]; exact hv
  ·cases hv
 | alloc t => rw [hq] at hv; exact hv
 | box t x =>
  rw [hq] at hv hs
  simp only at hv ⊢
  cases hg : givenC E A x with
  | none => simp [hg] at hv
  | some d' => rw [hg] at hv; rw [givenC_mono h (hs x (by simp [Op.operands])) hg]; exact hv
 | build t ps =>
  rw [hq] at hv hs
  simp only at hv ⊢
  have hsp : ∀ p ∈ ps.toList, Seen A p.2 := fun p hp => hs p.2 (by simp only [Op.operands, List.toList_toArray]; exact List.mem_map.2 ⟨p, hp, rfl⟩)
  cases hz : zeroT E.P t with
  | none => simp [hz] at hv
  | some z =>
   cases hp : givenParts E A ps.toList with
   | none => simp [hz, hp] at hv
   | some ds => rw [hz, hp] at hv; rw [givenParts_mono h hsp hp]; exact hv
 | buildSlice t m ps =>
  rw [hq] at hv hs
  simp only at hv ⊢
  have hsp : ∀ p ∈ ps.toList, Seen A p.2 := fun p hp => hs p.2 (by simp only [Op.operands, List.toList_toArray]; exact List.mem_map.2 ⟨p, hp, rfl⟩)
  cases hsl : sliceT E.P t with
  | none => simp [hsl] at hv
  | some e =>
   simp only [hsl] at hv ⊢
   cases hz : zeroT E.P e with
   | none => simp [hz] at hv
   | some z =>
    cases hp : givenParts E A ps.toList with
    | none => simp [hz, hp] at hv
    | some ds => rw [hz, hp] at hv; rw [givenParts_mono h hsp hp]; exact hv
 | load t x =>
  rw [hq] at hv hs
  simp only [opd_mono h (hs x (by simp [Op.operands]))] at hv ⊢
  cases ho : opd E A x with
  | none => simp [ho] at hv
  | some d1 => simp only [ho] at hv ⊢; exact loadD_mono h hv
 | nilCheck x =>
  rw [hq] at hv hs
  simp only [opd_mono h (hs x (by simp [Op.operands]))] at hv ⊢
  split at hv
  ·try simp only
   split at hv
   ·rename_i hg; rw [getAt_mono h hg (by simp)]; exact hv
   ·rename_i hg; rw [getAt_mono h hg (by simp)]; exact hv
   ·cases hv
  ·exact hv
  ·exact hv
  ·cases hv
 | binOp op t x y yt =>
  rw [hq] at hv hs
  simp only [opd_mono h (hs x (by simp [Op.operands])), opd_mono h (hs y (by simp [Op.operands]))] at hv ⊢
  exact hv
 | unOp op t x =>
  rw [hq] at hv hs
  simp only [opd_mono h (hs x (by simp [Op.operands]))] at hv ⊢
  exact hv
 | convert s t x =>
  rw [hq] at hv hs
  simp only [opd_mono h (hs x (by simp [Op.operands]))] at hv ⊢
  cases ho : opd E A x with
  | none => simp [ho] at hv
  | some d1 => simp only [ho] at hv ⊢; exact convertD_mono h hv
 | makeFunc fn first caps =>
  rw [hq] at hv hs
  cases fn with
  | func g =>
   simp only at hv ⊢
   rw [capsD_mono h (fun x hx => hs x (by simp [Op.operands]; right; simpa using hx))]; exact hv
  | _ => cases hv
 | makeMap t r => rw [hq] at hv; cases r <;> exact hv
 | makeSlice t l c =>
  rw [hq] at hv hs
  simp only [opd_mono h (hs l (by simp [Op.operands])), opd_mono h (hs c (by simp [Op.operands]))] at hv ⊢
  exact hv
 | slice t x lo hi mx =>
  rw [hq] at hv hs
  cases mx with
  | some m => cases hv
  | none =>
   have ol : optNat E B lo = optNat E A lo := by
    cases lo with
    | none => rfl
    | some y => simp only [optNat, opd_mono h (hs y (by simp [Op.operands]))]
   have oh : optNat E B hi = optNat E A hi := by
    cases hi with
    | none => rfl
    | some y => simp only [optNat, opd_mono h (hs y (by simp [Op.operands]))]
   simp only [opd_mono h (hs x (by simp [Op.operands])), ol, oh] at hv ⊢
   cases ho : opd E A x with
   | none => simp [ho] at hv
   | some d1 =>
    cases hl : optNat E A lo with
    | none => simp [ho, hl] at hv
    | some l =>
     cases hh : optNat E A hi with
     | none => simp [ho, hl, hh] at hv
     | some hi' => simp only [ho, hl, hh] at hv ⊢; exact sliceD_mono h hv
 | fieldAddr t x j =>
  rw [hq] at hv hs
  simp only [opd_mono h (hs x (by simp [Op.operands]))] at hv ⊢
  cases hf : fieldT E.P t j with
  | none => simp [hf] at hv
  | some fd =>
   cases ho : opd E A x with
   | none => simp [hf, ho] at hv
   | some d1 =>
    cases hp : ptrOf A d1 with
    | none => simp [hf, ho, hp] at hv
    | some p => simp only [hf, ho, Option.bind_some, hp, ptrOf_mono h hp] at hv ⊢; exact hv
 | field t x j =>
  rw [hq] at hv hs
  simp only [opd_mono h (hs x (by simp [Op.operands]))] at hv ⊢
  exact hv
 | indexAddr t x ix =>
  rw [hq] at hv hs
  simp only [opd_mono h (hs x (by simp [Op.operands])), opd_mono h (hs ix (by simp [Op.operands]))] at hv ⊢
  cases ho : opd E A x with
  | none => simp [ho] at hv
  | some d1 =>
   cases ho2 : opd E A ix with
   | none => simp [ho, ho2] at hv
   | some d2 => simp only [ho, ho2] at hv ⊢; exact indexAddrD_mono h hv
 | index t x ix =>
  rw [hq] at hv hs
  simp only [opd_mono h (hs x (by simp [Op.operands])), opd_mono h (hs ix (by simp [Op.operands]))] at hv ⊢
  exact hv
 | lookup t x k ok =>
  rw [hq] at hv hs
  simp only [opd_mono h (hs x (by simp [Op.operands])), opd_mono h (hs k (by simp [Op.operands]))] at hv ⊢
  cases ho : opd E A x with
  | none => simp [ho] at hv
  | some d1 =>
   cases ho2 : opd E A k with
   | none => simp [ho, ho2] at hv
   | some d2 => simp only [ho, ho2] at hv ⊢; exact lookupD_mono h hv
 | extract x i =>
  rw [hq] at hv hs
  have hx := hs x (by simp [Op.operands])
  cases x with
  | tmp t => simp only [h.seen hx rfl] at hv ⊢; exact hv
  | _ => cases hv
 | call c =>
  rw [hq] at hv hs
  simp only at hv ⊢
  have hargs : ∀ x ∈ c.args.toList, Seen A x := fun x hx' => hs x (by simp [Op.operands, Call.operands]; right; simpa using hx')
  cases hc : c.callee with
  | invoke => rw [hc] at hv; cases hv
  | value x =>
   rw [hc] at hv
   have hx : Seen A x := hs x (by simp [Op.operands, Call.operands, hc])
   simp only [opd_mono h hx] at hv ⊢
   cases ho : opd E A x with
   | none => simp [ho] at hv
   | some dx =>
    cases dx with
    | fn g caps =>
     simp only [ho] at hv ⊢
     split at hv
     ·rename_i hso
      simp only [hso, if_true]
      have hbs : ∀ b ∈ argsOf c.args.toList caps.length, ∀ y, b = .opn y → Seen A y := fun b hb y hy => by
       subst hy
       simp only [argsOf, List.mem_append, List.mem_map, Arg.opn.injEq, exists_eq_right, reduceCtorEq, and_false, exists_false, or_false] at hb
       exact hargs y hb
      cases hp : passRest E g A A x none 0 (argsOf c.args.toList caps.length) ((argsOf c.args.toList caps.length).map fun _ => none) with
      | none => simp [hp] at hv
      | some ds =>
       simp only [hp] at hv
       simp only [passRest_mono h hx hbs hp, snapSrcs_mono h hx hbs]
       split at hv
       ·rename_i r hcl
        split at hv
        ·rename_i hf
         have : (r.flatR || (snapSrcs E g A x 0 (argsOf c.args.toList caps.length)).all (immD B)) = true := by
          simp only [Bool.or_eq_true] at hf ⊢
          rcases hf with hf | hf
          ·exact .inl hf
          ·right
           rw [List.all_eq_true] at hf ⊢
           exact fun y hy => immD_mono h (hf y hy)
         simp only [this, if_true]; exact hv
        ·cases hv
       ·cases hv
     ·cases hv
    | _ => simp [ho] at hv
  | builtin b =>
   rw [hc] at hv
   try simp only at hv ⊢
   cases b with
   | len =>
    simp only at hv ⊢
    split at hv
    ·rename_i x t ts hb2 hb3
     simp only [opd_mono h (hargs x (by rw [hb2]; simp))] at hv ⊢
     cases ho : opd E A x with
     | none => simp [ho] at hv
     | some d1 => simp only [ho] at hv ⊢; exact lenD_mono h hv
    ·cases hv
   | max =>
    simp only at hv ⊢
    split at hv
    ·rename_i x y hb2
     simp only [opd_mono h (hargs x (by rw [hb2]; simp)), opd_mono h (hargs y (by rw [hb2]; simp))] at hv ⊢
     exact hv
    ·cases hv
   | min =>
    simp only at hv ⊢
    split at hv
    ·rename_i x y hb2
     simp only [opd_mono h (hargs x (by rw [hb2]; simp)), opd_mono h (hargs y (by rw [hb2]; simp))] at hv ⊢
     exact hv
    ·cases hv
   | _ => cases hv
 | _ => rw [hq] at hv; cases hv
theorem seesAll_spec {ops : Array Oper} {o : Oper} (h : seesAll ops A o = true) : (∀ x ∈ o.op.operands.toList, Seen A x) ∧ ∀ t ∈ guardTmp ops o, isUndef (get A t) = false := by
 unfold seesAll at h
 rw [List.all_eq_true] at h
 refine ⟨fun x hx t ht => ?_, fun t ht => ?_⟩
 ·have := h t (List.mem_append_left _ (by unfold tmpsOf; rw [List.mem_filterMap]; exact ⟨x, hx, by rw [ht]⟩))
  simpa using this
 ·have := h t (List.mem_append_right _ ht)
  simpa using this
theorem wantedD_mono (h : Less A B) {ops : Array Oper} {o : Oper} (hs : ∀ t ∈ guardTmp ops o, isUndef (get A t) = false) : wantedD ops B o = wantedD ops A o := by
 unfold wantedD
 cases hg : o.guard with
 | none => rfl
 | some q =>
  obtain ⟨j, b⟩ := q
  try simp only
  cases ht : (ops[j]?).bind (·.dst) with
  | none => rfl
  | some t =>
   have : get B t = get A t := by
    rcases h t with h | h
    ·rw [hs t (by unfold guardTmp; simp [hg, ht])] at h; cases h
    ·exact h
   simp only [this]
theorem pureC_mono {f : Nat} {call : Nat → List D → Option (D × List D)} (h : Less A B) {ops : Array Oper} {o : Oper} (hs : seesAll ops A o = true) {d : D} (hv : pureC E f call ops A o = some d) : pureC E f call ops B o = some d := by
 obtain ⟨h1, h2⟩ := seesAll_spec hs
 unfold pureC at hv ⊢
 rw [wantedD_mono h h2]
 split at hv
 ·exact valC_mono h h1 hv
 ·exact hv
 ·cases hv
end
end Go.Own
namespace Go.Own
open D
abbrev Rs := List (Nat × Option Nat × D)
def appL (L : Nat → Bool) : Rs → Fr → Fr
 | [], F => F
 | (i, t, d) :: r, F => appL L r (if L i then set0 F t d else F)
def hasKey (F : Fr) (t : Nat) : Bool := F.any fun x => x.1 == t
theorem hasKey_put0 (F : Fr) (s t : Nat) (d : D) (h : hasKey F t = true) : hasKey (put0 F s d) t = true := by
 induction F with
 | nil => simp [hasKey] at h
 | cons x r ih =>
  simp only [put0]
  split
  ·rename_i hk
   subst hk
   simpa [hasKey] using h
  ·simp only [hasKey, List.any_cons, Bool.or_eq_true] at h ⊢
   rcases h with h | h
   ·exact .inl h
   ·exact .inr (ih h)
theorem hasKey_set0 {F : Fr} {s : Option Nat} {t : Nat} {d : D} (h : hasKey F t = true) : hasKey (set0 F s d) t = true := by
 cases s with
 | none => exact h
 | some s => exact hasKey_put0 F s t d h
theorem put0_comm : ∀ (F : Fr) {s t : Nat} (d e : D), s ≠ t → hasKey F s = true → hasKey F t = true → put0 (put0 F s d) t e = put0 (put0 F t e) s d
 | [], s, t, d, e, _, h, _ => by simp [hasKey] at h
 | (k, x) :: r, s, t, d, e, hst, h1, h2 => by
  by_cases hs : k = s
  ·subst hs
   have ht : k ≠ t := hst
   simp [put0, ht]
  ·by_cases ht : k = t
   ·subst ht
    simp [put0, hs]
   ·have h1' : hasKey r s = true := by simpa [hasKey, hs] using h1
    have h2' : hasKey r t = true := by simpa [hasKey, ht] using h2
    simp only [put0, hs, ht, if_false, put0_comm r d e hst h1' h2']
theorem set0_comm {F : Fr} {s t : Option Nat} {d e : D} (h : ∀ a b, s = some a → t = some b → a ≠ b) (h1 : ∀ a, s = some a → hasKey F a = true) (h2 : ∀ b, t = some b → hasKey F b = true) : set0 (set0 F s d) t e = set0 (set0 F t e) s d := by
 cases s with
 | none => rfl
 | some s => cases t with
  | none => rfl
  | some t => exact put0_comm F d e (h s t rfl rfl) (h1 s rfl) (h2 t rfl)
theorem get_set0 {F : Fr} {t : Option Nat} {d : D} (s : Nat) : get (set0 F t d) s = if t = some s then d else get F s := by
 cases t with
 | none => simp [set0]
 | some t =>
  simp only [set0]
  by_cases h : t = s
  ·subst h; simp [get_put0_same]
  ·simp [h, get_put0_other F d (Ne.symm h)]
structure RsOK (F : Fr) (rs : Rs) : Prop where
 key : ∀ x ∈ rs, ∀ t, x.2.1 = some t → hasKey F t = true
 idx : (rs.map (·.1)).Nodup
 dst : ∀ x ∈ rs, ∀ y ∈ rs, x.1 ≠ y.1 → ∀ t, x.2.1 = some t → y.2.1 ≠ some t
theorem appL_hasKey {L : Nat → Bool} : ∀ {rs : Rs} {F : Fr} {t : Nat}, hasKey F t = true → hasKey (appL L rs F) t = true
 | [], _, _, h => h
 | (i, t', d) :: rs, F, t, h => by
  simp only [appL]
  refine appL_hasKey ?_
  split
  ·exact hasKey_set0 h
  ·exact h
theorem appL_put {L : Nat → Bool} : ∀ {rs : Rs} {F : Fr}, RsOK F rs → ∀ {i : Nat} {t : Option Nat} {d : D}, (i, t, d) ∈ rs → L i = false → appL (fun k => L k || k == i) rs F = set0 (appL L rs F) t d
 | [], _, _, _, _, _, h, _ => by cases h
 | (j, t', d') :: rs, F, hok, i, t, d, hm, hL => by
  have hok' : ∀ F', (∀ t, hasKey F t = true → hasKey F' t = true) → RsOK F' rs := fun F' hF => ⟨fun x hx s hs => hF s (hok.key x (by simp [hx]) s hs), by have := hok.idx; simp only [List.map_cons, List.nodup_cons] at this; exact this.2, fun x hx y hy => hok.dst x (by simp [hx]) y (by simp [hy])⟩
  have hnj : ∀ x ∈ rs, x.1 ≠ j := fun x hx he => by
   have := hok.idx
   simp only [List.map_cons, List.nodup_cons, List.mem_map, not_exists, not_and] at this
   exact this.1 x hx he
  simp only [appL]
  rcases List.mem_cons.1 hm with hm | hm
  ·obtain ⟨e1, e2, e3⟩ : j = i ∧ t' = t ∧ d' = d := by simp only [Prod.mk.injEq] at hm; exact ⟨hm.1.symm, hm.2.1.symm, hm.2.2.symm⟩
   subst e1 e2 e3
   simp only [hL, beq_self_eq_true, Bool.or_true, if_true, Bool.false_eq_true, if_false]
   have key : ∀ {rs : Rs} {F : Fr}, (∀ x ∈ rs, x.1 ≠ j) → (∀ x ∈ rs, ∀ a b, t' = some a → x.2.1 = some b → a ≠ b) → (∀ a, t' = some a → hasKey F a = true) → (∀ x ∈ rs, ∀ b, x.2.1 = some b → hasKey F b = true) → appL (fun k => L k || k == j) rs (set0 F t' d') = set0 (appL L rs F) t' d' := by
    intro rs
    induction rs with
    | nil => intro F _ _ _ _; rfl
    | cons y rs ih =>
     obtain ⟨k, t2, d2⟩ := y
     intro F h1 h2 h3 h4
     have hk : (k == j) = false := by simpa using h1 (k, t2, d2) (by simp)
     simp only [appL, hk, Bool.or_false]
     by_cases hLk : L k = true
     ·simp only [hLk, if_true]
      rw [set0_comm (h2 (k, t2, d2) (by simp)) h3 (h4 (k, t2, d2) (by simp))]
      exact ih (fun x hx => h1 x (by simp [hx])) (fun x hx => h2 x (by simp [hx])) (fun a ha => hasKey_set0 (h3 a ha)) (fun x hx b hb => hasKey_set0 (h4 x (by simp [hx]) b hb))
     ·have hLk' : L k = false := by simpa using hLk
      simp only [hLk', Bool.false_eq_true, if_false]
      exact ih (fun x hx => h1 x (by simp [hx])) (fun x hx => h2 x (by simp [hx])) h3 (fun x hx => h4 x (by simp [hx]))
   refine key hnj (fun x hx a b ha hb he => ?_) (fun a ha => hok.key (j, t', d') (by simp) a ha) (fun x hx => hok.key x (by simp [hx]))
   subst he
   exact hok.dst (j, t', d') (by simp) x (by simp [hx]) (fun he => hnj x hx he.symm) a ha hb
  ·have hij : (j == i) = false := by have := hnj _ hm; simpa using Ne.symm this
   simp only [hij, Bool.or_false]
   by_cases hLj : L j = true
   ·simp only [hLj, if_true]
    exact appL_put (hok' _ fun t ht => hasKey_set0 ht) hm hL
   ·have hLj' : L j = false := by simpa using hLj
    simp only [hLj', Bool.false_eq_true, if_false]
    exact appL_put (hok' _ fun t ht => ht) hm hL
theorem appL_get_other {L : Nat → Bool} : ∀ {rs : Rs} {F : Fr} {s : Nat}, (∀ x ∈ rs, x.2.1 = some s → L x.1 = false) → get (appL L rs F) s = get F s
 | [], _, _, _ => rfl
 | (i, t, d) :: rs, F, s, h => by
  simp only [appL]
  rw [appL_get_other (fun x hx => h x (by simp [hx]))]
  split
  ·rename_i hL
   rw [get_set0]
   split
   ·rename_i ht
    have := h (i, t, d) (by simp) ht
    rw [this] at hL; cases hL
   ·rfl
  ·rfl
theorem appL_get_same {L : Nat → Bool} : ∀ {rs : Rs} {F : Fr}, RsOK F rs → ∀ {i s : Nat} {d : D}, (i, some s, d) ∈ rs → L i = true → get (appL L rs F) s = d
 | [], _, _, _, _, _, h, _ => by cases h
 | (j, t', d') :: rs, F, hok, i, s, d, hm, hL => by
  have hnj : ∀ x ∈ rs, x.1 ≠ j := fun x hx he => by
   have := hok.idx
   simp only [List.map_cons, List.nodup_cons, List.mem_map, not_exists, not_and] at this
   exact this.1 x hx he
  simp only [appL]
  rcases List.mem_cons.1 hm with hm | hm
  ·obtain ⟨e1, e2, e3⟩ : j = i ∧ t' = some s ∧ d' = d := by simp only [Prod.mk.injEq] at hm; exact ⟨hm.1.symm, hm.2.1.symm, hm.2.2.symm⟩
   subst e1 e2 e3
   rw [appL_get_other (fun x hx hs => absurd hs (hok.dst (j, some s, d') (by simp) x (by simp [hx]) (fun he => hnj x hx he.symm) s rfl))]
   simp only [hL, if_true, get_set0]
  ·have hok' : ∀ F', (∀ t, hasKey F t = true → hasKey F' t = true) → RsOK F' rs := fun F' hF => ⟨fun x hx s hs => hF s (hok.key x (by simp [hx]) s hs), by have := hok.idx; simp only [List.map_cons, List.nodup_cons] at this; exact this.2, fun x hx y hy => hok.dst x (by simp [hx]) y (by simp [hy])⟩
   split
   ·exact appL_get_same (hok' _ fun t ht => hasKey_set0 ht) hm hL
   ·exact appL_get_same (hok' _ fun t ht => ht) hm hL
theorem appL_congr {L L' : Nat → Bool} : ∀ {rs : Rs} {F : Fr}, (∀ x ∈ rs, L x.1 = L' x.1) → appL L rs F = appL L' rs F
 | [], _, _ => rfl
 | (i, t, d) :: rs, F, h => by
  simp only [appL]
  rw [h (i, t, d) (by simp)]
  exact appL_congr fun x hx => h x (by simp [hx])
theorem appL_append {L : Nat → Bool} : ∀ {rs rs' : Rs} {F : Fr}, appL L (rs ++ rs') F = appL L rs' (appL L rs F)
 | [], _, _ => rfl
 | (i, t, d) :: rs, rs', F => by simp only [List.cons_append, appL]; exact appL_append
theorem get_maskF (hid : List Nat) : ∀ (F : Fr) (s : Nat), get (maskF hid F) s = if hid.contains s then .undef else get F s
 | [], s => by simp [maskF, get]
 | (k, d) :: r, s => by
  have ih := get_maskF hid r s
  simp only [maskF, List.map_cons] at ih ⊢
  by_cases hk : k = s
  ·subst hk
   split
   ·simp [get]
   ·simp [get]
  ·split <;> simp only [get, hk, if_false] <;> exact ih
def Fact (E : Env) (f : Nat) (call : Nat → List D → Option (D × List D)) (ops : Array Oper) (F : Fr) (rs : Rs) (x : Nat × Option Nat × D) : Prop :=
 ∃ o, ops[x.1]? = some o ∧ o.dst = x.2.1 ∧ (∀ t, o.dst = some t → get F t = .undef) ∧ ∃ A, pureC E f call ops A o = some x.2.2 ∧ seesAll ops A o = true ∧
  ∀ s, get A s = .undef ∨ ((∀ y ∈ rs, y.2.1 ≠ some s) ∧ get A s = get F s) ∨ ∃ y ∈ rs, y.2.1 = some s ∧ reach ops ops.size y.1 x.1 = true ∧ get A s = y.2.2
structure Stretch (E : Env) (f : Nat) (call : Nat → List D → Option (D × List D)) (ops : Array Oper) (F : Fr) (e : Nat) (rs : Rs) : Prop where
 lt : ∀ x ∈ rs, x.1 < e
 ok : RsOK F rs
 facts : ∀ x ∈ rs, Fact E f call ops F rs x
theorem appL_hasKey_of {L : Nat → Bool} {t : Nat} : ∀ {rs : Rs} {F : Fr}, hasKey (appL L rs F) t = true → (∀ x ∈ rs, x.2.1 ≠ some t) → hasKey F t = true
 | [], _, h, _ => h
 | (j, t2, d2) :: rs, F, h, hne => by
  simp only [appL] at h
  have h2 := appL_hasKey_of h (fun x hx => hne x (by simp [hx]))
  split at h2
  ·cases t2 with
   | none => exact h2
   | some s =>
    have hst : s ≠ t := fun he => hne (j, some s, d2) (by simp) (by rw [he])
    have : ∀ (F : Fr), hasKey (put0 F s d2) t = true → hasKey F t = true := by
     intro F
     induction F with
     | nil => intro h; simp [put0, hasKey, hst] at h
     | cons z r ih2 =>
      obtain ⟨kk, zz⟩ := z
      intro h
      simp only [put0] at h
      split at h
      ·rename_i hks; subst hks; simpa [hasKey] using h
      ·simp only [hasKey, List.any_cons, Bool.or_eq_true] at h ⊢
       rcases h with h | h
       ·exact .inl h
       ·exact .inr (ih2 h)
    exact this F h2
  ·exact h2
theorem mem_hidden {ops : Array Oper} {blk : List Nat} {i s : Nat} : (hiddenOf ops blk i).contains s = true ↔ ∃ j ∈ blk, reach ops ops.size j i = false ∧ (ops[j]?).bind (·.dst) = some s := by
 rw [List.contains_iff_mem]
 unfold hiddenOf
 rw [List.mem_filterMap]
 constructor
 ·rintro ⟨j, hj, h⟩
  rw [List.mem_filter] at hj
  exact ⟨j, hj.1, by simpa using hj.2, h⟩
 ·rintro ⟨j, hj, h1, h2⟩
  exact ⟨j, by rw [List.mem_filter]; exact ⟨hj, by simp [h1]⟩, h2⟩
theorem masked {E : Env} {f : Nat} {call : Nat → List D → Option (D × List D)} {ops : Array Oper} {F : Fr} {e : Nat} {rs : Rs} {blk : List Nat} (hs : Stretch E f call ops F e rs) (hb : ∀ j, j ∈ blk ↔ ∃ x ∈ rs, x.1 = j) (i s : Nat) :
  get (maskF (hiddenOf ops blk i) (appL (fun _ => true) rs F)) s = .undef ∨ ((∀ y ∈ rs, y.2.1 ≠ some s) ∧ get (maskF (hiddenOf ops blk i) (appL (fun _ => true) rs F)) s = get F s) ∨
   ∃ y ∈ rs, y.2.1 = some s ∧ reach ops ops.size y.1 i = true ∧ get (maskF (hiddenOf ops blk i) (appL (fun _ => true) rs F)) s = y.2.2 := by
 rw [get_maskF]
 by_cases hh : (hiddenOf ops blk i).contains s = true
 ·left; rw [if_pos hh]
 ·rw [if_neg hh]
  right
  by_cases hex : ∃ y ∈ rs, y.2.1 = some s
  ·right
   obtain ⟨⟨j, tj, dj⟩, hy, hys⟩ := hex
   simp only at hys
   subst hys
   refine ⟨_, hy, rfl, ?_, appL_get_same hs.ok hy rfl⟩
   cases hr : reach ops ops.size j i with
   | true => rfl
   | false =>
    exfalso
    apply hh
    obtain ⟨oj, hoj, hdj, _⟩ := hs.facts _ hy
    simp only at hoj hdj
    exact mem_hidden.2 ⟨j, (hb j).2 ⟨_, hy, rfl⟩, hr, by simp [hoj, hdj]⟩
  ·left
   have hno : ∀ y ∈ rs, y.2.1 ≠ some s := fun y hy hs => hex ⟨y, hy, hs⟩
   exact ⟨hno, appL_get_other (fun y hy hs => absurd hs (hno y hy))⟩
theorem drawC_stretch {E : Env} {f : Nat} {V : List Nat} {call : Nat → List D → Option (D × List D)} {ops : Array Oper} {F Fend : Fr} :
  ∀ (k i : Nat) {rs : Rs} {blk : List Nat}, i + k = ops.size → Stretch E f call ops F i rs → (∀ j, j ∈ blk ↔ ∃ x ∈ rs, x.1 = j) → drawC E f V call ops (List.range' i k) blk (appL (fun _ => true) rs F) = some Fend →
   ∃ e rs' blk', Stretch E f call ops F e rs' ∧ e ≤ ops.size ∧ (∀ j, j ∈ blk' ↔ ∃ x ∈ rs', x.1 = j) ∧ (∀ j, j < e → j < i ∨ ∃ x ∈ rs', x.1 = j) ∧ i ≤ e ∧ (∃ ext, rs' = rs ++ ext ∧ ∀ x ∈ ext, i ≤ x.1) ∧
    ((e = ops.size ∧ Fend = appL (fun _ => true) rs' F) ∨
     (∃ o, ops[e]? = some o ∧ anchored ops e = true ∧ ∃ x, wantedD ops (appL (fun _ => true) rs' F) o = some x ∧
      ∃ F', (if x then opC E f V call (appL (fun _ => true) rs' F) o else some (fin (appL (fun _ => true) rs' F) o.dst (.tup []))) = some F' ∧ drawC E f V call ops (List.range' (e + 1) (ops.size - (e + 1))) [] F' = some Fend) ∨
     ∃ o, ops[e]? = some o ∧ ∃ b, looseC E ops blk' e (appL (fun _ => true) rs' F) o = some b ∧ drawC E f V call ops (List.range' (e + 1) (ops.size - (e + 1))) b.1 b.2 = some Fend)
 | 0, i, rs, blk, hk, hs, hb, hd => by
  simp only [List.range'_zero, drawC, Option.some.injEq] at hd
  exact ⟨i, rs, blk, hs, by omega, hb, fun j hj => .inl hj, Nat.le_refl i, ⟨[], by simp, by simp⟩, .inl ⟨by omega, hd.symm⟩⟩
 | k + 1, i, rs, blk, hk, hs, hb, hd => by
  simp only [List.range'_succ, drawC] at hd
  have hkk : k = ops.size - (i + 1) := by omega
  cases ho : ops[i]? with
  | none => simp [ho] at hd
  | some o =>
   simp only [ho] at hd
   by_cases han : anchored ops i = true
   case neg =>
    rw [if_neg han] at hd
    cases hp : pureC E f call ops (maskF (hiddenOf ops blk i) (appL (fun _ => true) rs F)) o with
    | none =>
     simp only [hp] at hd
     split at hd
     ·rename_i b hlo
      exact ⟨i, rs, blk, hs, by omega, hb, fun j hj => .inl hj, Nat.le_refl i, ⟨[], by simp, by simp⟩, .inr (.inr ⟨o, ho, b, hlo, by rw [← hkk]; exact hd⟩)⟩
     ·cases hd
    | some d =>
    simp only [hp] at hd
    split at hd
    case isFalse => cases hd
    rename_i hc
    simp only [Bool.and_eq_true] at hc
    obtain ⟨⟨hc1, hc2⟩, hc3⟩ := hc
    have hdst : ∀ x ∈ rs, ∀ t, o.dst = some t → x.2.1 ≠ some t := fun x hx t ht hxt => by
     obtain ⟨o', ho', hdo', _⟩ := hs.facts x hx
     simp only [newDst, ht, List.all_eq_true] at hc3
     have := hc3 x.1 ((hb x.1).2 ⟨x, hx, rfl⟩)
     simp only [ho', Option.bind_some, hdo', hxt] at this
     simp at this
    have hfree : ∀ t, o.dst = some t → get (appL (fun _ => true) rs F) t = .undef ∧ hasKey (appL (fun _ => true) rs F) t = true := fun t ht => by
     simp only [freeDst, ht, Bool.and_eq_true] at hc2
     exact ⟨isUndef_iff.1 hc2.1, hc2.2⟩
    have hgF : ∀ t, o.dst = some t → get F t = .undef := fun t ht => by
     have := (hfree t ht).1
     rw [appL_get_other (fun x hx hxt => absurd hxt (hdst x hx t ht))] at this
     exact this
    have hkF : ∀ t, o.dst = some t → hasKey F t = true := fun t ht => appL_hasKey_of (hfree t ht).2 (fun x hx => hdst x hx t ht)
    have hs' : Stretch E f call ops F (i + 1) (rs ++ [(i, o.dst, d)]) := by
     refine ⟨?_, ⟨?_, ?_, ?_⟩, ?_⟩
     ·intro x hx
      rcases List.mem_append.1 hx with hx | hx
      ·have := hs.lt x hx; omega
      ·simp only [List.mem_singleton] at hx; subst hx; exact Nat.lt_succ_self i
     ·intro x hx t ht
      rcases List.mem_append.1 hx with hx | hx
      ·exact hs.ok.key x hx t ht
      ·simp only [List.mem_singleton] at hx; subst hx; exact hkF t ht
     ·rw [List.map_append, List.nodup_append]
      refine ⟨hs.ok.idx, by simp, ?_⟩
      rintro x hx y hy rfl
      simp only [List.map_cons, List.map_nil, List.mem_singleton] at hy
      obtain ⟨z, hz, rfl⟩ := List.mem_map.1 hx
      have := hs.lt z hz
      omega
     ·intro x hx y hy hne t hxt hyt
      rcases List.mem_append.1 hx with hx | hx
      ·rcases List.mem_append.1 hy with hy | hy
       ·exact hs.ok.dst x hx y hy hne t hxt hyt
       ·simp only [List.mem_singleton] at hy; subst hy
        exact hdst x hx t hyt hxt
      ·simp only [List.mem_singleton] at hx; subst hx
       rcases List.mem_append.1 hy with hy | hy
       ·exact hdst y hy t hxt hyt
       ·simp only [List.mem_singleton] at hy; subst hy; exact hne rfl
     ·intro x hx
      rcases List.mem_append.1 hx with hx | hx
      ·obtain ⟨o', e1, e2, e3, A, e4, e5, e6⟩ := hs.facts x hx
       refine ⟨o', e1, e2, e3, A, e4, e5, fun s => ?_⟩
       rcases e6 s with h | ⟨h1, h2⟩ | ⟨y, hy, h⟩
       ·exact .inl h
       ·by_cases hso : o.dst = some s
        ·exact .inl (by rw [h2]; exact hgF s hso)
        ·refine .inr (.inl ⟨fun y hy => ?_, h2⟩)
         rcases List.mem_append.1 hy with hy | hy
         ·exact h1 y hy
         ·simp only [List.mem_singleton] at hy; subst hy; exact hso
       ·exact .inr (.inr ⟨y, List.mem_append_left _ hy, h⟩)
      ·simp only [List.mem_singleton] at hx; subst hx
       refine ⟨o, ho, rfl, hgF, _, hp, hc1, fun s => ?_⟩
       rcases masked hs hb i s with h | ⟨h1, h2⟩ | ⟨y, hy, h⟩
       ·exact .inl h
       ·by_cases hso : o.dst = some s
        ·exact .inl (by rw [h2]; exact hgF s hso)
        ·refine .inr (.inl ⟨fun y hy => ?_, h2⟩)
         rcases List.mem_append.1 hy with hy | hy
         ·exact h1 y hy
         ·simp only [List.mem_singleton] at hy; subst hy; exact hso
       ·exact .inr (.inr ⟨y, List.mem_append_left _ hy, h⟩)
    have hfin : appL (fun _ => true) (rs ++ [(i, o.dst, d)]) F = set0 (appL (fun _ => true) rs F) o.dst d := by
     rw [appL_append]; simp [appL]
    have hb' : ∀ j, j ∈ i :: blk ↔ ∃ x ∈ rs ++ [(i, o.dst, d)], x.1 = j := fun j => by
     rw [List.mem_cons, hb]
     constructor
     ·rintro (rfl | ⟨x, hx, h⟩)
      ·exact ⟨_, List.mem_append_right _ (List.mem_singleton.2 rfl), rfl⟩
      ·exact ⟨x, List.mem_append_left _ hx, h⟩
     ·rintro ⟨x, hx, rfl⟩
      rcases List.mem_append.1 hx with hx | hx
      ·exact .inr ⟨x, hx, rfl⟩
      ·simp only [List.mem_singleton] at hx; subst hx; exact .inl rfl
    obtain ⟨e, rs', blk', r1, r2, r3, r4, r7, ⟨ext, r5, r8⟩, r6⟩ := drawC_stretch k (i + 1) (by omega) hs' hb' (by rw [hfin]; exact hd)
    refine ⟨e, rs', blk', r1, r2, r3, fun j hj => ?_, by omega, ⟨(i, o.dst, d) :: ext, by rw [r5, List.append_assoc]; rfl, fun x hx => ?_⟩, r6⟩
    rcases r4 j hj with h | h
    ·rcases Nat.lt_or_ge j i with h' | h'
     ·exact .inl h'
     ·have : j = i := by omega
      subst this
      exact .inr ⟨_, by rw [r5]; exact List.mem_append_left _ (List.mem_append_right _ (List.mem_singleton.2 rfl)), rfl⟩
    ·exact .inr h
    ·rcases List.mem_cons.1 hx with rfl | h
     ·exact Nat.le_refl _
     ·have := r8 x h; omega
   case pos =>
    rw [if_pos han] at hd
    refine ⟨i, rs, blk, hs, by omega, hb, fun j hj => .inl hj, Nat.le_refl i, ⟨[], by simp, by simp⟩, .inr (.inl ⟨o, ho, han, ?_⟩)⟩
    cases hw : wantedD ops (appL (fun _ => true) rs F) o with
    | none => simp [hw] at hd
    | some x =>
     refine ⟨x, rfl, ?_⟩
     rw [hw] at hd
     cases x with
     | true =>
      simp only at hd
      cases hc : opC E f V call (appL (fun _ => true) rs F) o with
      | none => simp [hc] at hd
      | some F1 =>
       simp only [hc] at hd
       exact ⟨F1, by simp, by rw [← hkk]; exact hd⟩
     | false => exact ⟨_, by simp; rfl, by rw [← hkk]; exact hd⟩
theorem storeP_opC {E : Env} {f : Nat} {V : List Nat} {call : Nat → List D → Option (D × List D)} {F : Fr} {o : Oper} {r : Nat × D} (h : storeP E F o = some r) : opC E f V call F o = some (put0 F r.1 r.2) := by
 unfold storeP at h
 split at h
 ·rename_i t x y hq
  split at h
  ·cases h
  ·rename_i hdst
   split at h
   ·cases h
   ·rename_i d hy
    split at h
    ·rename_i s i c hx
     split at h
     ·rename_i es hg
      split at h
      ·rename_i ec he
       split at h
       ·rename_i hc
        obtain ⟨c1, c2, c3, c4⟩ := hc
        simp only [Option.some.injEq] at h
        subst h
        have e2 : (own es).setElem i (ec.take c ++ d.cells ++ ec.drop (c + sizeT E.P t)) = some (own (es.set i (ec.take c ++ d.cells ++ ec.drop (c + sizeT E.P t)))) := rfl
        simp only [opC, hq, c1, if_true, givenC_take hy, hx, storeD, ptrOf, getAt, hg, D.getP, D.elem, he, c2, c3, and_self, e2, setAt, D.setP, Option.map_some, c4, Bool.false_eq_true, if_false, hdst, fin]
       ·cases h
      ·cases h
     ·cases h
    ·rename_i s hx
     split at h
     ·rename_i cs hg
      split at h
      ·rename_i hc
       obtain ⟨c1, c2, c3, c4⟩ := hc
       simp only [Option.some.injEq] at h
       subst h
       have e2 : (box cs).setElem 0 (d.cells ++ cs.drop (sizeT E.P t)) = some (box (d.cells ++ cs.drop (sizeT E.P t))) := rfl
       simp only [opC, hq, c1, if_true, givenC_take hy, hx, storeD, ptrOf, getAt, hg, D.getP, D.elem, c2, Nat.zero_add, c3, and_self, List.take_zero, List.nil_append, e2, setAt, D.setP, Option.map_some, List.drop_zero, c4, Bool.false_eq_true, if_false, hdst, fin]
      ·cases h
     ·cases h
    ·cases h
 ·cases h
def kin : D → D → Bool
 | own _, own _ => true
 | box _, box _ => true
 | _, _ => false
theorem kin_or {a b : D} (h : kin a b = true) : (∃ x y, a = own x ∧ b = own y) ∨ ∃ x y, a = box x ∧ b = box y := by
 unfold kin at h
 split at h
 ·exact .inl ⟨_, _, rfl, rfl⟩
 ·exact .inr ⟨_, _, rfl, rfl⟩
 ·cases h
theorem kin_undef {a b : D} (h : kin a b = true) : isUndef a = false ∧ isUndef b = false := by
 rcases kin_or h with ⟨_, _, rfl, rfl⟩ | ⟨_, _, rfl, rfl⟩ <;> exact ⟨rfl, rfl⟩
theorem storeP_kin {E : Env} {F : Fr} {o : Oper} {r : Nat × D} (h : storeP E F o = some r) : kin (get F r.1) r.2 = true ∧ o.dst = none := by
 unfold storeP at h
 split at h
 ·split at h
  ·cases h
  ·rename_i hdst
   split at h
   ·cases h
   ·split at h
    ·split at h
     ·rename_i es hg
      split at h
      ·split at h
       ·simp only [Option.some.injEq] at h
        subst h
        exact ⟨by rw [hg]; rfl, hdst⟩
       ·cases h
      ·cases h
     ·cases h
    ·split at h
     ·rename_i cs hg
      split at h
      ·simp only [Option.some.injEq] at h
       subst h
       exact ⟨by rw [hg]; rfl, hdst⟩
      ·cases h
     ·cases h
    ·cases h
 ·cases h
theorem storeP_mono {E : Env} {A B : Fr} (h : Less A B) {o : Oper} (hs : ∀ x ∈ o.op.operands.toList, Seen A x) {r : Nat × D} (hv : storeP E A o = some r) : storeP E B o = some r := by
 unfold storeP at hv ⊢
 split at hv
 ·rename_i t x y hq
  have hx : Seen A x := hs x (by rw [hq]; simp [Op.operands])
  have hy : Seen A y := hs y (by rw [hq]; simp [Op.operands])
  try simp only
  split at hv
  ·cases hv
  ·rename_i hdst
   split at hv
   ·cases hv
   ·rename_i d hg
    simp only [givenC_mono h hy hg, opd_mono h hx]
    split at hv
    ·rename_i s i c hxx
     try simp only
     split at hv
     ·rename_i es hg2
      have : get B s = own es := by
       rcases h s with h1 | h1
       ·rw [hg2] at h1; cases h1
       ·rw [h1, hg2]
      simp only [this]
      exact hv
     ·cases hv
    ·rename_i s hxx
     try simp only
     split at hv
     ·rename_i cs hg2
      have : get B s = box cs := by
       rcases h s with h1 | h1
       ·rw [hg2] at h1; cases h1
       ·rw [h1, hg2]
      simp only [this]
      exact hv
     ·cases hv
    ·cases hv
 ·cases hv
def Near (A B : Fr) : Prop := ∀ s, get B s = get A s ∨ kin (get A s) (get B s) = true
theorem view_kin {t : Nat} {a b : D} (h : kin a b = true) : view t [] b = view t [] a := by
 rcases kin_or h with ⟨_, _, rfl, rfl⟩ | ⟨_, _, rfl, rfl⟩ <;> rfl
theorem Near.opd {E : Env} {A B : Fr} (h : Near A B) (x : Operand) : opd E B x = opd E A x := by
 cases x with
 | tmp t =>
  simp only [Own.opd]
  rcases h t with h | h
  ·rw [h]
  ·rw [view_kin h]
 | _ => rfl
theorem Near.pure {E : Env} {A B : Fr} (h : Near A B) {f : Nat} {call : Nat → List D → Option (D × List D)} {ops : Array Oper} {o : Oper} (hb : blind o = true) {d : D} (hv : pureC E f call ops A o = some d) : pureC E f call ops B o = some d := by
 have hw : ∀ b, wantedD ops A o = some b → wantedD ops B o = some b := fun b hb => by
  unfold wantedD at hb ⊢
  split at hb
  ·exact hb
  ·rename_i j b' _
   split at hb
   ·rename_i t ht
    try simp only [ht]
    rcases h t with h | h
    ·rw [h]; exact hb
    ·rcases kin_or h with ⟨_, _, h1, _⟩ | ⟨_, _, h1, _⟩
     ·rw [h1] at hb; cases hb
     ·rw [h1] at hb; cases hb
   ·rename_i ht
    try simp only [ht]
    exact hb
 unfold pureC at hv ⊢
 split at hv
 ·rename_i hw1
  rw [hw _ hw1]
  simp only
  unfold valC at hv ⊢
  unfold blind at hb
  split at hb
  ·rename_i x hq
   rw [hq] at hv ⊢
   simp only at hv ⊢
   cases x with
   | tmp t =>
    simp only at hv ⊢
    rcases h t with h1 | h1
    ·rw [h1, h.opd]; exact hv
    ·rcases kin_or h1 with ⟨_, _, h1, h2⟩ | ⟨_, _, h1, h2⟩
     ·rw [h1] at hv; rw [h2]
      simp only at hv ⊢
      rw [h.opd]; exact hv
     ·rw [h1] at hv; rw [h2]
      simp only at hv ⊢
      rw [h.opd]; exact hv
   | _ => exact hv
  ·rename_i hq
   rw [hq] at hv ⊢
   simp only [h.opd] at hv ⊢
   exact hv
  ·rename_i hq
   rw [hq] at hv ⊢
   simp only [h.opd] at hv ⊢
   exact hv
  ·rename_i hq
   rw [hq] at hv ⊢
   simp only [h.opd] at hv ⊢
   exact hv
  ·rename_i x i hq
   rw [hq] at hv ⊢
   cases x with
   | tmp t =>
    simp only at hv ⊢
    rcases h t with h1 | h1
    ·rw [h1]; exact hv
    ·rcases kin_or h1 with ⟨_, _, h1, h2⟩ | ⟨_, _, h1, h2⟩
     ·rw [h1] at hv; cases hv
     ·rw [h1] at hv; cases hv
   | _ => exact hv
  ·cases hb
 ·rename_i hw1
  rw [hw _ hw1]; exact hv
 ·cases hv
theorem get_put0_if {F : Fr} {s : Nat} {d : D} (q : Nat) : get (put0 F s d) q = if s = q then d else get F q := by
 have := get_set0 (F := F) (t := some s) (d := d) q
 simpa [set0] using this
theorem hasKey_get {F : Fr} {s : Nat} (h : get F s ≠ .undef) : hasKey F s = true := by
 induction F with
 | nil => exact absurd rfl h
 | cons x r ih =>
  obtain ⟨k, d⟩ := x
  simp only [get] at h
  simp only [hasKey, List.any_cons, Bool.or_eq_true, beq_iff_eq]
  split at h
  ·rename_i hk; exact .inl hk
  ·exact .inr (ih h)
theorem appL_put0 {L : Nat → Bool} {s : Nat} {r : D} : ∀ {rs : Rs} {F : Fr}, (∀ x ∈ rs, ∀ t, x.2.1 = some t → hasKey F t = true) → hasKey F s = true → (∀ x ∈ rs, x.2.1 ≠ some s) → appL L rs (put0 F s r) = put0 (appL L rs F) s r
 | [], _, _, _, _ => rfl
 | (i, t, d) :: rs, F, hk, hs, hn => by
  simp only [appL]
  split
  ·have e : set0 (put0 F s r) t d = put0 (set0 F t d) s r := by
    have := set0_comm (F := F) (s := some s) (t := t) (d := r) (e := d) (fun a b ha hb he => by cases ha; subst he; exact hn _ List.mem_cons_self hb) (fun a ha => by cases ha; exact hs) (fun b hb => hk _ List.mem_cons_self b hb)
    simpa [set0] using this
   rw [e]
   exact appL_put0 (fun x hx t ht => hasKey_set0 (hk x (by simp [hx]) t ht)) (hasKey_set0 hs) (fun x hx => hn x (by simp [hx]))
  ·exact appL_put0 (fun x hx => hk x (by simp [hx])) hs (fun x hx => hn x (by simp [hx]))
theorem appL_split {L : Nat → Bool} (p : Nat → Bool) : ∀ {rs : Rs} {F : Fr}, RsOK F rs → appL L rs F = appL L (rs.filter fun x => p x.1) (appL L (rs.filter fun x => !p x.1) F)
 | [], _, _ => rfl
 | (i, t, d) :: rs, F, hok => by
  have hok' : ∀ F', (∀ t, hasKey F t = true → hasKey F' t = true) → RsOK F' rs := fun F' hF => ⟨fun x hx s hs => hF s (hok.key x (by simp [hx]) s hs), by have := hok.idx; simp only [List.map_cons, List.nodup_cons] at this; exact this.2, fun x hx y hy => hok.dst x (by simp [hx]) y (by simp [hy])⟩
  have hnj : ∀ x ∈ rs, x.1 ≠ i := fun x hx he => by
   have := hok.idx
   simp only [List.map_cons, List.nodup_cons, List.mem_map, not_exists, not_and] at this
   exact this.1 x hx he
  simp only [appL]
  cases hp : p i with
  | false =>
   rw [List.filter_cons_of_neg (by simp [hp]), List.filter_cons_of_pos (by simp [hp])]
   simp only [appL]
   split
   ·exact appL_split p (hok' _ fun t ht => hasKey_set0 ht)
   ·exact appL_split p (hok' _ fun t ht => ht)
  | true =>
   rw [List.filter_cons_of_pos (by simp [hp]), List.filter_cons_of_neg (by simp [hp])]
   simp only [appL]
   split
   ·rw [appL_split p (hok' _ fun t ht => hasKey_set0 ht)]
    congr 1
    cases t with
    | none => rfl
    | some t =>
     refine appL_put0 (fun x hx s hs => hok.key x (by simp [(List.mem_filter.1 hx).1]) s hs) (hok.key (i, some t, d) List.mem_cons_self t rfl) (fun x hx hs => ?_)
     have hx := (List.mem_filter.1 hx).1
     exact hok.dst (i, some t, d) List.mem_cons_self x (by simp [hx]) (fun he => hnj x hx he.symm) t rfl hs
   ·exact appL_split p (hok' _ fun t ht => ht)
end Go.Own
namespace Go.Own
open D
def inL (listed : Array Bool) (i : Nat) : Bool := listed.getD i false
def ClosedL (ops : Array Oper) (listed : Array Bool) : Prop := ∀ i o, ops[i]? = some o → inL listed i = true → ∀ e ∈ o.after, Region.binds .any e = true → inL listed e.on = true
theorem reach_listed {ops : Array Oper} {listed : Array Bool} (hc : ClosedL ops listed) : ∀ (n j i : Nat) (o : Oper), ops[i]? = some o → (∀ e ∈ o.after, Region.binds .any e = true → inL listed e.on = true) → reach ops n j i = true → inL listed j = true
 | 0, j, i, o, _, _, h => by simp [reach] at h
 | n + 1, j, i, o, ho, hp, h => by
  simp only [reach, ho, List.any_eq_true] at h
  obtain ⟨ed, hk, h⟩ := h
  simp only [Bool.and_eq_true, Bool.or_eq_true, beq_iff_eq, decide_eq_true_eq] at h
  obtain ⟨⟨hb, _⟩, h⟩ := h
  have hin := hp ed (by simpa using hk) hb
  rcases h with h | ⟨_, h⟩
  ·rw [← h]; exact hin
  ·cases hq : ops[ed.on]? with
   | none => cases n <;> simp [reach, hq] at h
   | some o' => exact reach_listed hc n j _ o' hq (hc _ o' hq hin) h
theorem mem_ready {ops : Array Oper} {listed : Array Bool} (hsz : listed.size = ops.size) {i : Nat} : i ∈ Region.ready .any ops listed ↔ ∃ o, ops[i]? = some o ∧ inL listed i = false ∧ ∀ e ∈ o.after, Region.binds .any e = true → inL listed e.on = true := by
 unfold Region.ready
 simp only [List.mem_filter, List.mem_range, Bool.and_eq_true, Bool.not_eq_true']
 constructor
 ·rintro ⟨hi, h1, h2⟩
  rw [Array.getElem?_eq_getElem hi] at h2
  simp only [Option.map_some, Option.getD_some, Array.all_eq_true, Bool.or_eq_true, Bool.not_eq_true'] at h2
  refine ⟨ops[i], Array.getElem?_eq_getElem hi, ?_, fun e he hb => ?_⟩
  ·have hl : i < listed.size := by omega
   unfold inL
   simp only [Array.getD_eq_getD_getElem?, Array.getElem?_eq_getElem hl, Option.getD_some] at h1 ⊢
   exact h1
  ·obtain ⟨k, hk, rfl⟩ := Array.getElem_of_mem he
   rcases h2 k hk with h3 | h3
   ·rw [h3] at hb; cases hb
   ·exact h3
 ·rintro ⟨o, ho, h1, h2⟩
  have hi := (Array.getElem?_eq_some_iff.1 ho).1
  refine ⟨hi, ?_, ?_⟩
  ·have hl : i < listed.size := by omega
   unfold inL at h1
   simp only [Array.getD_eq_getD_getElem?, Array.getElem?_eq_getElem hl, Option.getD_some] at h1 ⊢
   exact h1
  ·rw [ho]
   simp only [Option.map_some, Option.getD_some, Array.all_eq_true, Bool.or_eq_true, Bool.not_eq_true']
   intro k hk
   by_cases hb : Region.binds .any o.after[k] = true
   ·exact .inr (h2 _ (Array.getElem_mem hk) hb)
   ·exact .inl (by simpa using hb)
theorem inL_set {listed : Array Bool} {i : Nat} (hi : i < listed.size) (k : Nat) : inL (listed.setIfInBounds i true) k = (inL listed k || k == i) := by
 unfold inL
 simp only [Array.getD_eq_getD_getElem?, Array.getElem?_setIfInBounds]
 by_cases h : i = k
 ·subst h; simp [hi]
 ·have : (k == i) = false := by simpa using Ne.symm h
  simp [h, this]
def left (ops : Array Oper) (listed : Array Bool) : Nat := ((List.range ops.size).filter fun i => !inL listed i).length
theorem left_set {ops : Array Oper} {listed : Array Bool} {i : Nat} (hs : listed.size = ops.size) (hi : i < ops.size) (hn : inL listed i = false) : left ops (listed.setIfInBounds i true) < left ops listed := by
 unfold left
 have : (fun k => !inL (listed.setIfInBounds i true) k) = fun k => (!inL listed k) && !(k == i) := by
  funext k; rw [inL_set (by omega)]; simp
 rw [this]
 rw [show ((List.range ops.size).filter fun k => (!inL listed k) && !(k == i)) = ((List.range ops.size).filter fun k => !inL listed k).filter fun k => !(k == i) by rw [List.filter_filter]; congr 1; funext k; rw [Bool.and_comm]]
 refine List.length_filter_lt_length_iff_exists.2 ⟨i, ?_, by simp⟩
 rw [List.mem_filter, List.mem_range]
 exact ⟨hi, by simp [hn]⟩
section
variable {n : Nat} {R : Nat → Value} {M : Mem} {G : FT} {H : Blks} {w0 : World} {B : List Nat}
theorem fin_free {F : Fr} {dst : Option Nat} {d : D} (h : ∀ t, dst = some t → get F t = .undef) : fin F dst d = set0 F dst d := by
 cases dst with
 | none => rfl
 | some t => simp only [fin, put, h t rfl, D.quiet, if_true, set0]
theorem act_ok {E : Env} {f : Nat} {V : List Nat} {call : Nat → List D → Option (D × List D)} (hcall : CallsOK E call) (hgd : Good E M) {ops : Array Oper} (hfit : OpsFit n ops) {Q : Exit → Act → World → Prop} {F F' : Fr} {a : Act} {w : World} (h : Post n R M B w0 F a w) {i : Nat} {o : Oper} (ho : ops[i]? = some o) {x : Bool} (hw : wantedD ops F o = some x)
  (hop : (if x then opC E f V call F o else some (fin F o.dst (.tup []))) = some F') {K : Act → World → Prop} (hK : ∀ a' w', Post n R M B w0 F' a' w' → K a' w') : wpOp E.P ops Q i K a w := by
 obtain ⟨M1, G1, h1, e1⟩ := h
 unfold wpOp
 simp only [ho]
 rw [wantedD_ok h1 hfit.guard hw]
 cases x with
 | true =>
  simp only [if_true] at hop ⊢
  exact .inl (opC_ok hcall (hgd.mono e1.memle) h1 (hfit i o ho) hop fun a' w' hp => hK _ _ (hp.trans e1))
 | false =>
  simp only [Bool.false_eq_true, if_false, Option.some.injEq] at hop ⊢
  subst hop
  exact hK _ _ ((finish_unit h1 o.dst (hfit i o ho).2 (Evo.refl M1 _ _)).trans e1)
theorem drawn_any {E : Env} {f : Nat} {V : List Nat} {call : Nat → List D → Option (D × List D)} (hcall : CallsOK E call) (hgd : Good E M) {ops : Array Oper} (hfit : OpsFit n ops) (hback : edgesBack ops = true) {Q : Exit → Act → World → Prop} {Fend : Fr} (hQ : ∀ a' w', Post n R M B w0 Fend a' w' → Q .normal a' w') :
  ∀ (fuel : Nat) {listed : Array Bool} {F : Fr} {a : Act} {w : World} {e : Nat} {rs : Rs} {blk : List Nat}, listed.size = ops.size → left ops listed ≤ fuel → ClosedL ops listed → (∀ j, j < e → inL listed j = true ∨ ∃ x ∈ rs, x.1 = j) →
   Stretch E f call ops F e rs → (∀ j, j ∈ blk ↔ ∃ x ∈ rs, x.1 = j) → e ≤ ops.size → (∀ i, inL listed i = true → i < e) →
   ((e = ops.size ∧ Fend = appL (fun _ => true) rs F) ∨
     (∃ o, ops[e]? = some o ∧ anchored ops e = true ∧ ∃ x, wantedD ops (appL (fun _ => true) rs F) o = some x ∧
      ∃ F', (if x then opC E f V call (appL (fun _ => true) rs F) o else some (fin (appL (fun _ => true) rs F) o.dst (.tup []))) = some F' ∧ drawC E f V call ops (List.range' (e + 1) (ops.size - (e + 1))) [] F' = some Fend) ∨
     ∃ o, ops[e]? = some o ∧ ∃ b, looseC E ops blk e (appL (fun _ => true) rs F) o = some b ∧ drawC E f V call ops (List.range' (e + 1) (ops.size - (e + 1))) b.1 b.2 = some Fend) →
   Post n R M B w0 (appL (inL listed) rs F) a w → wpAny E.P .any ops Q fuel listed a w := by
 intro fuel
 induction fuel with
 | zero =>
  intro listed F a w e rs blk hsz hleft hcl hset hst hblk he hhigh hend hpost
  have hall : ∀ i, i < ops.size → inL listed i = true := fun i hi => by
   cases hin : inL listed i with
   | true => rfl
   | false =>
    have : i ∈ (List.range ops.size).filter fun i => !inL listed i := by rw [List.mem_filter, List.mem_range]; exact ⟨hi, by simp [hin]⟩
    have h0 := List.length_pos_of_mem this
    unfold left at hleft
    omega
  have hee : e = ops.size := by
   by_cases hz : ops.size = 0
   ·omega
   ·have := hhigh (ops.size - 1) (hall _ (by omega))
    omega
  have hF : Fend = appL (inL listed) rs F := by
   rcases hend with ⟨_, h⟩ | ⟨o, ho, _⟩ | ⟨o, ho, _⟩
   ·rw [h]
    exact appL_congr fun x hx => (hall x.1 (by have := hst.lt x hx; omega)).symm
   ·have := (Array.getElem?_eq_some_iff.1 ho).1
    omega
   ·have := (Array.getElem?_eq_some_iff.1 ho).1
    omega
  refine ⟨?_, ?_⟩
  ·rw [List.eq_nil_iff_forall_not_mem]
   intro i hi
   obtain ⟨o, ho, h1, _⟩ := (mem_ready hsz).1 hi
   rw [hall i (Array.getElem?_eq_some_iff.1 ho).1] at h1
   cases h1
  ·rw [← hF] at hpost; exact hQ _ _ hpost
 | succ fuel ih =>
  intro listed F a w e rs blk hsz hleft hcl hset hst hblk he hhigh hend hpost
  have first : ∀ m, m < ops.size → inL listed m = false → (∀ i, i < m → inL listed i = true) → m ∈ Region.ready .any ops listed := fun m hm hn hlt => by
   rw [mem_ready hsz]
   refine ⟨ops[m], Array.getElem?_eq_getElem hm, hn, fun ed hed hbd => ?_⟩
   have hbk := List.all_eq_true.1 hback m (List.mem_range.2 hm)
   rw [Array.getElem?_eq_getElem hm] at hbk
   simp only [List.all_eq_true] at hbk
   have := hbk ed (by simpa using hed)
   simp only [hbd, Bool.not_true, Bool.false_or, decide_eq_true_eq] at this
   exact hlt _ this
  have full : (∀ i, i < e → inL listed i = true) → appL (inL listed) rs F = appL (fun _ => true) rs F := fun hh => appL_congr fun x hx => hh x.1 (hst.lt x hx)
  constructor
  ·intro hnil
   have hall : ∀ i, i < ops.size → inL listed i = true := by
    intro i
    induction i using Nat.strongRecOn with
    | ind i ihh =>
     intro hi
     cases hin : inL listed i with
     | true => rfl
     | false =>
      have := first i hi hin (fun k hk => ihh k hk (by omega))
      rw [hnil] at this; cases this
   have hee : e = ops.size := by
    by_cases hz : ops.size = 0
    ·omega
    ·have := hhigh (ops.size - 1) (hall _ (by omega))
     omega
   rcases hend with ⟨_, h⟩ | ⟨o, ho, _⟩ | ⟨o, ho, _⟩
   ·rw [full (fun i hi => hall i (by omega)), ← h] at hpost
    exact hQ _ _ hpost
   ·have := (Array.getElem?_eq_some_iff.1 ho).1
    omega
   ·have := (Array.getElem?_eq_some_iff.1 ho).1
    omega
  ·intro i hi
   obtain ⟨o, ho, hni, hpre⟩ := (mem_ready hsz).1 hi
   have hio := (Array.getElem?_eq_some_iff.1 ho).1
   have hsz' : (listed.setIfInBounds i true).size = ops.size := by simpa using hsz
   have hcl' : ClosedL ops (listed.setIfInBounds i true) := by
    intro k ok hk hkin ed hed hbd
    rw [inL_set (by omega)] at hkin ⊢
    simp only [Bool.or_eq_true, beq_iff_eq] at hkin ⊢
    rcases hkin with hkin | rfl
    ·exact .inl (hcl k ok hk hkin ed hed hbd)
    ·rw [ho] at hk; cases hk
     exact .inl (hpre ed hed hbd)
   have hleft' : left ops (listed.setIfInBounds i true) ≤ fuel := by
    have := left_set hsz hio hni
    omega
   by_cases hie : i < e
   ·
    obtain ⟨x, hx, hx1⟩ : ∃ x ∈ rs, x.1 = i := by
     rcases hset i hie with h | h
     ·rw [hni] at h; cases h
     ·exact h
    obtain ⟨i', t, d⟩ := x
    simp only at hx1
    subst hx1
    obtain ⟨o', ho', hdst, hfree, A, hp, hsee, hA⟩ := hst.facts _ hx
    simp only at ho' hdst hp hsee hA
    rw [ho] at ho'; cases ho'
    subst hdst
    have hless : Less A (appL (inL listed) rs F) := by
     intro s
     rcases hA s with h | ⟨h1, h2⟩ | ⟨y, hy, hys, hr, h⟩
     ·left; rw [h]; rfl
     ·right
      rw [h2, appL_get_other (fun y hy hs => absurd hs (h1 y hy))]
     ·right
      obtain ⟨j, tj, dj⟩ := y
      simp only at hys hr h
      subst hys
      have hLj : inL listed j = true := reach_listed hcl ops.size j i' o ho hpre hr
      rw [h, appL_get_same hst.ok hy hLj]
    have hpc := pureC_mono hless hsee hp
    have hfr : ∀ s, o.dst = some s → get (appL (inL listed) rs F) s = .undef := fun s hs => by
     rw [appL_get_other (fun y hy hys => by
      by_cases hjj : y.1 = i'
      ·rw [hjj]; exact hni
      ·exact absurd hys (hst.ok.dst (i', o.dst, d) hx y hy (fun h => hjj h.symm) s hs))]
     exact hfree s hs
    unfold pureC at hpc
    have hwx : ∃ xb, wantedD ops (appL (inL listed) rs F) o = some xb ∧ (if xb then opC E f V call (appL (inL listed) rs F) o else some (fin (appL (inL listed) rs F) o.dst (.tup []))) = some (set0 (appL (inL listed) rs F) o.dst d) := by
     split at hpc
     ·rename_i hwt
      refine ⟨true, hwt, ?_⟩
      simp only [if_true]
      rw [valC_opC hpc, fin_free hfr]
     ·rename_i hwt
      refine ⟨false, hwt, ?_⟩
      simp only [Option.some.injEq] at hpc; subst hpc
      simp only [Bool.false_eq_true, if_false, fin_free hfr]
     ·cases hpc
    obtain ⟨xb, hw, hop⟩ := hwx
    refine act_ok hcall hgd hfit hpost ho hw hop fun a' w' hp' => ?_
    refine ih hsz' hleft' hcl' (fun k hk => ?_) hst hblk he (fun k hk => ?_) hend ?_
    ·rcases hset k hk with h | h
     ·left; rw [inL_set (by omega), h]; rfl
     ·exact .inr h
    ·rw [inL_set (by omega)] at hk
     simp only [Bool.or_eq_true, beq_iff_eq] at hk
     rcases hk with hk | rfl
     ·exact hhigh k hk
     ·exact hie
    ·have : appL (inL (listed.setIfInBounds i' true)) rs F = appL (fun k => inL listed k || k == i') rs F := appL_congr fun y _ => inL_set (listed := listed) (i := i') (by omega) y.1
     rw [this, appL_put hst.ok hx hni]
     exact hp'
   ·
    rcases hend with ⟨hee, _⟩ | ⟨oe, hoe, han, xb, hw, F', hop, hrest⟩ | ⟨oe, hoe, bb, hloose, hrest⟩
    ·omega
    ·have hsize := (Array.getElem?_eq_some_iff.1 hoe).1
     have hanc := List.all_eq_true.1 han
     have hie' : i = e := by
      rcases Nat.lt_or_ge e i with hlt | hge
      ·have := hanc i (List.mem_range.2 hio)
       rw [if_neg (by omega), if_pos hlt] at this
       have hin := reach_listed hcl ops.size e i o ho hpre this
       have := hhigh e hin
       omega
      ·omega
     subst hie'
     rw [ho] at hoe; cases hoe
     have hallb : ∀ k, k < i → inL listed k = true := fun k hk => by
      have := hanc k (List.mem_range.2 (by omega))
      rw [if_pos hk] at this
      exact reach_listed hcl ops.size k i o ho hpre this
     rw [full hallb] at hpost
     refine act_ok hcall hgd hfit hpost ho hw hop fun a' w' hp' => ?_
     have hlow' : ∀ k, k < i + 1 → inL (listed.setIfInBounds i true) k = true := fun k hk => by
      rw [inL_set (by omega)]
      rcases Nat.lt_or_ge k i with h | h
      ·rw [hallb k h]; rfl
      ·have : k = i := by omega
       simp [this]
     obtain ⟨e2, rs2, blk2, hst2, he2, hblk2, hset2, hle2, ⟨ext, hext, hnew2⟩, hend2⟩ := drawC_stretch (E := E) (f := f) (V := V) (call := call) (ops := ops) (F := F') (ops.size - (i + 1)) (i + 1) (rs := []) (blk := []) (by omega) ⟨by simp, ⟨by simp, by simp, by simp⟩, by simp⟩ (by simp) (by simpa [appL] using hrest)
     refine ih hsz' hleft' hcl' (fun k hk => ?_) hst2 hblk2 he2 (fun k hk => ?_) hend2 ?_
     ·rcases hset2 k hk with h | h
      ·exact .inl (hlow' k h)
      ·exact .inr h
     ·rw [inL_set (by omega)] at hk
      simp only [Bool.or_eq_true, beq_iff_eq] at hk
      rcases hk with hk | rfl
      ·have := hhigh k hk; omega
      ·omega
     ·have : appL (inL (listed.setIfInBounds i true)) rs2 F' = F' := by
       have hnone : ∀ {rs : Rs} {F : Fr}, (∀ y ∈ rs, inL (listed.setIfInBounds i true) y.1 = false) → appL (inL (listed.setIfInBounds i true)) rs F = F := by
        intro rs
        induction rs with
        | nil => intro F _; rfl
        | cons y rs ihh =>
         obtain ⟨k, t, d⟩ := y
         intro F hy
         simp only [appL, hy (k, t, d) (by simp), Bool.false_eq_true, if_false]
         exact ihh fun y hy' => hy y (by simp [hy'])
       refine hnone fun y hy => ?_
       rw [hext, List.nil_append] at hy
       have := hnew2 y hy
       rw [inL_set (listed := listed) (i := i) (by omega)]
       cases hin : inL listed y.1 with
       | true => have := hhigh y.1 hin; omega
       | false => simp; omega
      rw [this]; exact hp'
    ·have hsize := (Array.getElem?_eq_some_iff.1 hoe).1
     unfold looseC at hloose
     split at hloose
     case h_2 => cases hloose
     rename_i hw
     split at hloose
     case h_2 => cases hloose
     rename_i r hsp
     split at hloose
     case isFalse => cases hloose
     rename_i hc
     simp only [Option.some.injEq] at hloose
     subst hloose
     simp only [Bool.and_eq_true] at hc
     obtain ⟨⟨⟨hsemi, hsee⟩, hlate⟩, hno⟩ := hc
     have hie' : i = e := by
      rcases Nat.lt_or_ge e i with hlt | hge
      ·have := List.all_eq_true.1 hsemi i (List.mem_range.2 hio)
       rw [if_pos hlt] at this
       have hin := reach_listed hcl ops.size e i o ho hpre this
       have := hhigh e hin
       omega
      ·omega
     subst hie'
     rw [ho] at hoe; cases hoe
     obtain ⟨hs1, hs2⟩ := seesAll_spec hsee
     have hreach : ∀ k, reach ops ops.size k i = true → inL listed k = true := fun k hk => reach_listed hcl ops.size k i o ho hpre hk
     have hless : Less (maskF (hiddenOf ops blk i) (appL (fun _ => true) rs F)) (appL (inL listed) rs F) := fun s => by
      rcases masked hst hblk i s with h | ⟨h1, h2⟩ | ⟨y, hy, hys, hr, h⟩
      ·left; rw [h]; rfl
      ·right; rw [h2, appL_get_other (fun y hy hs => absurd hs (h1 y hy))]
      ·right
       obtain ⟨j, tj, dj⟩ := y
       simp only at hys hr h
       subst hys
       rw [h, appL_get_same hst.ok hy (hreach j hr)]
     have hstore := storeP_mono hless hs1 hsp
     obtain ⟨hkin, hdst⟩ := storeP_kin hsp
     have hund := kin_undef hkin
     have hslot : ∀ y ∈ rs, reach ops ops.size y.1 i = false → y.2.1 ≠ some r.1 := fun y hy hr he => by
      have := List.all_eq_true.1 hno y.1 (by unfold lateOf; rw [List.mem_filter]; exact ⟨(hblk y.1).2 ⟨y, hy, rfl⟩, by simp [hr]⟩)
      obtain ⟨oj, hoj, hdj, _⟩ := hst.facts y hy
      unfold noDst at this
      simp only [hoj, Option.bind_some, hdj, he] at this
      simp at this
     have hkey : hasKey F r.1 = true := by
      rcases masked hst hblk i r.1 with h | ⟨_, h⟩ | ⟨y, hy, hys, _⟩
      ·rw [h] at hund; cases hund.1
      ·exact hasKey_get (by rw [← h]; intro h; rw [h] at hund; cases hund.1)
      ·exact hst.ok.key y hy _ hys
     have hwt : wantedD ops (appL (inL listed) rs F) o = some true := by rw [wantedD_mono hless hs2]; exact hw
     refine act_ok hcall hgd hfit hpost ho (x := true) hwt (by simp only [if_true]; exact storeP_opC (f := f) (V := V) hstore) fun a' w' hp' => ?_
     have hokf : ∀ (p : Nat → Bool) (F' : Fr), (∀ t, hasKey F t = true → hasKey F' t = true) → RsOK F' (rs.filter fun x => p x.1) := fun p F' hF =>
      ⟨fun x hx t ht => hF t (hst.ok.key x (List.mem_filter.1 hx).1 t ht), (List.filter_sublist.map _).nodup hst.ok.idx, fun x hx y hy => hst.ok.dst x (List.mem_filter.1 hx).1 y (List.mem_filter.1 hy).1⟩
     let late : Nat → Bool := fun k => !reach ops ops.size k i
     have hslotL : ∀ x ∈ rs, late x.1 = true → x.2.1 ≠ some r.1 := fun x hx hl => hslot x hx (by simpa [late] using hl)
     have hgF : kin (get (appL (fun _ => true) (rs.filter fun x => !late x.1) F) r.1) r.2 = true := by
      rcases masked hst hblk i r.1 with h | ⟨h1, h⟩ | ⟨y, hy, hys, hr, h⟩
      ·rw [h] at hund; cases hund.1
      ·rw [appL_get_other (fun y hy hs => absurd hs (h1 y (List.mem_filter.1 hy).1)), ← h]; exact hkin
      ·obtain ⟨j, tj, dj⟩ := y
       simp only at hys hr h
       subst hys
       rw [appL_get_same (hokf (fun k => !late k) F (fun _ h => h)) (i := j) (List.mem_filter.2 ⟨hy, by simp [late, hr]⟩) rfl, ← h]; exact hkin
     have hmove : ∀ L : Nat → Bool, (∀ k, reach ops ops.size k i = true → L k = true) → put0 (appL L rs F) r.1 r.2 = appL L (rs.filter fun x => late x.1) (put0 (appL (fun _ => true) (rs.filter fun x => !late x.1) F) r.1 r.2) := fun L hL => by
      rw [appL_split late hst.ok]
      have e1 : appL L (rs.filter fun x => !late x.1) F = appL (fun _ => true) (rs.filter fun x => !late x.1) F := appL_congr fun x hx => by
       have := (List.mem_filter.1 hx).2
       simp only [late, Bool.not_not] at this
       exact hL _ this
      rw [e1]
      refine (appL_put0 (fun x hx t ht => appL_hasKey (hst.ok.key x (List.mem_filter.1 hx).1 t ht)) (appL_hasKey hkey) (fun x hx => hslotL x (List.mem_filter.1 hx).1 (List.mem_filter.1 hx).2)).symm
     have hkF : ∀ t, hasKey F t = true → hasKey (put0 (appL (fun _ => true) (rs.filter fun x => !late x.1) F) r.1 r.2) t = true := fun t ht => hasKey_put0 _ _ _ _ (appL_hasKey ht)
     have hst1 : Stretch E f call ops (put0 (appL (fun _ => true) (rs.filter fun x => !late x.1) F) r.1 r.2) (i + 1) (rs.filter fun x => late x.1) := by
      refine ⟨fun x hx => by have := hst.lt x (List.mem_filter.1 hx).1; omega, hokf late _ hkF, fun x hx => ?_⟩
      obtain ⟨hx1, hx2⟩ := List.mem_filter.1 hx
      obtain ⟨ox, c1, c2, c3, A, c4, c5, c6⟩ := hst.facts x hx1
      have hbl : blind ox = true := by
       have := List.all_eq_true.1 hlate x.1 (by unfold lateOf; rw [List.mem_filter]; exact ⟨(hblk x.1).2 ⟨x, hx1, rfl⟩, hx2⟩)
       unfold blindAt at this
       rw [c1] at this
       exact this
      have hne : ∀ t, ox.dst = some t → t ≠ r.1 := fun t ht he => by subst he; exact hslotL x hx1 hx2 (by rw [← c2]; exact ht)
      have hAr : get A r.1 = .undef ∨ kin (get A r.1) r.2 = true := by
       rcases c6 r.1 with h | ⟨h1, h⟩ | ⟨y, hy, hys, _, h⟩
       ·exact .inl h
       ·right
        rw [h]
        rw [appL_get_other (fun y hy hs => absurd hs (h1 y (List.mem_filter.1 hy).1))] at hgF
        exact hgF
       ·right
        obtain ⟨j, tj, dj⟩ := y
        simp only at hys h
        subst hys
        have hnl : late j = false := by
         cases hl : late j with
         | false => rfl
         | true => exact absurd rfl (hslotL _ hy hl)
        rw [appL_get_same (hokf (fun k => !late k) F (fun _ h => h)) (i := j) (List.mem_filter.2 ⟨hy, by simp [hnl]⟩) rfl] at hgF
        rw [h]; exact hgF
      have hA' : ∃ A', Near A A' ∧ (∀ s, s ≠ r.1 → get A' s = get A s) ∧ (get A' r.1 = .undef ∨ get A' r.1 = r.2) ∧ (∀ t, isUndef (get A' t) = isUndef (get A t)) := by
       rcases hAr with h | h
       ·exact ⟨A, fun s => .inl rfl, fun _ _ => rfl, .inl h, fun _ => rfl⟩
       ·refine ⟨put0 A r.1 r.2, fun s => ?_, fun s hs => ?_, .inr ?_, fun t => ?_⟩
        ·rw [get_put0_if]
         by_cases hsr : r.1 = s
         ·subst hsr; rw [if_pos rfl]; exact .inr h
         ·rw [if_neg hsr]; exact .inl rfl
        ·rw [get_put0_if, if_neg (fun h => hs h.symm)]
        ·rw [get_put0_if, if_pos rfl]
        ·rw [get_put0_if]
         by_cases hsr : r.1 = t
         ·subst hsr; rw [if_pos rfl, (kin_undef h).1, (kin_undef h).2]
         ·rw [if_neg hsr]
      obtain ⟨A', n1, n2, n3, n4⟩ := hA'
      refine ⟨ox, c1, c2, fun t ht => ?_, A', n1.pure hbl c4, ?_, fun s => ?_⟩
      ·rw [get_put0_if, if_neg (fun h => hne t ht h.symm), appL_get_other (fun y hy hys => ?_)]
       ·exact c3 t ht
       ·exfalso
        obtain ⟨hy1, hy2⟩ := List.mem_filter.1 hy
        have hxy : x.1 ≠ y.1 := fun he => by
         rw [he] at hx2
         simp only [hx2] at hy2
         cases hy2
        exact hst.ok.dst x hx1 y hy1 hxy t (by rw [← c2]; exact ht) hys
      ·unfold seesAll at c5 ⊢
       rw [List.all_eq_true] at c5 ⊢
       intro t ht
       rw [n4]; exact c5 t ht
      ·by_cases hsr : s = r.1
       ·subst hsr
        rcases n3 with h | h
        ·exact .inl h
        ·refine .inr (.inl ⟨fun y hy => hslotL y (List.mem_filter.1 hy).1 (List.mem_filter.1 hy).2, ?_⟩)
         rw [h, get_put0_if, if_pos rfl]
       ·rw [n2 s hsr, get_put0_if, if_neg (fun h => hsr h.symm)]
        rcases c6 s with h | ⟨h1, h2⟩ | ⟨y, hy, hys, hr, h⟩
        ·exact .inl h
        ·refine .inr (.inl ⟨fun y hy => h1 y (List.mem_filter.1 hy).1, ?_⟩)
         rw [h2, appL_get_other (fun y hy hs => absurd hs (h1 y (List.mem_filter.1 hy).1))]
        ·by_cases hyl : late y.1 = true
         ·exact .inr (.inr ⟨y, List.mem_filter.2 ⟨hy, hyl⟩, hys, hr, h⟩)
         ·refine .inr (.inl ⟨fun z hz hzs => ?_, ?_⟩)
          ·obtain ⟨hz1, hz2⟩ := List.mem_filter.1 hz
           have hzy : y.1 ≠ z.1 := fun he => by rw [he] at hyl; exact hyl hz2
           exact hst.ok.dst y hy z hz1 hzy s hys hzs
          ·obtain ⟨j, tj, dj⟩ := y
           simp only at hys h
           subst hys
           have := hokf (fun k => !late k) F (fun _ h => h)
           rw [h, appL_get_same this (i := j) (List.mem_filter.2 ⟨hy, by simpa using hyl⟩) rfl]
     have hblk1 : ∀ j, j ∈ lateOf ops blk i ↔ ∃ x ∈ rs.filter (fun x => late x.1), x.1 = j := fun j => by
      unfold lateOf
      rw [List.mem_filter, hblk]
      constructor
      ·rintro ⟨⟨x, hx, rfl⟩, h⟩
       exact ⟨x, List.mem_filter.2 ⟨hx, h⟩, rfl⟩
      ·rintro ⟨x, hx, rfl⟩
       exact ⟨⟨x, (List.mem_filter.1 hx).1, rfl⟩, (List.mem_filter.1 hx).2⟩
     obtain ⟨e2, rs2, blk2, hst2, he2, hblk2, hset2, hle2, ⟨ext, hext, hnew2⟩, hend2⟩ := drawC_stretch (E := E) (f := f) (V := V) (call := call) (ops := ops) (ops.size - (i + 1)) (i + 1) (by omega) hst1 hblk1 (by
      have := hmove (fun _ => true) (fun _ _ => rfl)
      rw [← this]; exact hrest)
     refine ih hsz' hleft' hcl' (fun k hk => ?_) hst2 hblk2 he2 (fun k hk => ?_) hend2 ?_
     ·rcases hset2 k hk with h | h
      ·rcases Nat.lt_or_ge k i with h' | h'
       ·rcases hset k h' with h3 | ⟨x, hx, rfl⟩
        ·left; rw [inL_set (by omega), h3]; rfl
        ·by_cases hl : late x.1 = true
         ·exact .inr ⟨x, by rw [hext]; exact List.mem_append_left _ (List.mem_filter.2 ⟨hx, hl⟩), rfl⟩
         ·left
          rw [inL_set (by omega), hreach x.1 (by simpa [late] using hl)]; rfl
       ·left
        have : k = i := by omega
        rw [inL_set (by omega)]; simp [this]
      ·exact .inr h
     ·rw [inL_set (by omega)] at hk
      simp only [Bool.or_eq_true, beq_iff_eq] at hk
      rcases hk with hk | rfl
      ·have := hhigh k hk; omega
      ·omega
     ·have hnone : ∀ {rs : Rs} {F : Fr}, (∀ y ∈ rs, inL (listed.setIfInBounds i true) y.1 = false) → appL (inL (listed.setIfInBounds i true)) rs F = F := by
       intro rs
       induction rs with
       | nil => intro F _; rfl
       | cons y rs ihh =>
        obtain ⟨k, t, d⟩ := y
        intro F hy
        simp only [appL, hy (k, t, d) (by simp), Bool.false_eq_true, if_false]
        exact ihh fun y hy' => hy y (by simp [hy'])
      rw [hext, appL_append, hnone fun y hy => ?_]
      ·have e3 : appL (inL (listed.setIfInBounds i true)) (rs.filter fun x => late x.1) (put0 (appL (fun _ => true) (rs.filter fun x => !late x.1) F) r.1 r.2) = appL (inL listed) (rs.filter fun x => late x.1) (put0 (appL (fun _ => true) (rs.filter fun x => !late x.1) F) r.1 r.2) := appL_congr fun x hx => by
        have := hst.lt x (List.mem_filter.1 hx).1
        rw [inL_set (by omega)]
        have : (x.1 == i) = false := by simpa using Nat.ne_of_lt this
        rw [this, Bool.or_false]
       rw [e3, ← hmove (inL listed) hreach]
       exact hp'
      ·have := hnew2 y hy
       rw [inL_set (listed := listed) (i := i) (by omega)]
       cases hin : inL listed y.1 with
       | true => have := hhigh y.1 hin; omega
       | false => simp; omega
theorem fresh_ok : ∀ (l : List Oper) {F : Fr} {a : Act} {w : World}, (∀ o ∈ l, ∀ t, o.dst = some t → t < n) → Post n R M B w0 F a w → Post n R M B w0 (freshC F l) a w
 | [], _, _, _, _, h => h
 | o :: l, F, a, w, hl, h => by
  have one : ∀ t, t < n → Post n R M B w0 (put F t .undef) a w := fun t ht => by
   obtain ⟨M1, G1, h1, e1⟩ := h
   have hlt : t < a.tmps.size := by rw [h1.size]; exact ht
   have hb : (T.leaf .undef (a.tmps[t])).blocks = [] := by simp [T.blocks]
   have := finish (M := M1) (w := w) (B := keys (blocksF G1)) (t := .leaf .undef a.tmps[t]) (by rw [hb]; exact h1) (by simp [T.tidy]) (by simp [SlotOK, LOK, L1]) (some t) (fun d hd => by cases hd; exact ht) (by rw [hb]; simpa using Evo.refl M1 _ w)
   have he : a.put (some t) a.tmps[t] = a := by
    unfold Act.put
    have : a.tmps.setIfInBounds t a.tmps[t] = a.tmps := by
     apply Array.ext'
     rw [Array.toList_setIfInBounds]
     exact set_self (by rw [Array.getElem?_toList, Array.getElem?_eq_getElem hlt])
    show ({ a with tmps := a.tmps.setIfInBounds t a.tmps[t] } : Act) = a
    rw [this]
   simp only [T.erase, T.val, he, fin] at this
   exact this.trans e1
  simp only [freshC]
  split
  ·rename_i t _ _
   have ht : o.dst = some t := by assumption
   cases isUndef (get F t) with
   | true => exact fresh_ok l (fun o ho => hl o (by simp [ho])) (one t (hl o (by simp) t ht))
   | false => exact fresh_ok l (fun o ho => hl o (by simp [ho])) h
  ·exact fresh_ok l (fun o ho => hl o (by simp [ho])) h
  ·rename_i t _ _
   have ht : o.dst = some t := by assumption
   exact fresh_ok l (fun o ho => hl o (by simp [ho])) (one t (hl o (by simp) t ht))
  ·exact fresh_ok l (fun o ho => hl o (by simp [ho])) h
theorem region_drawn {E : Env} {f : Nat} {V : List Nat} {call : Nat → List D → Option (D × List D)} (hcall : CallsOK E call) (hgd : Good E M) (hm : E.P.follows .mixedOrders = true) {ops : Array Oper} (hfit : OpsFit n ops) {Q : Exit → Act → World → Prop} {id : Nat} {F Fend : Fr} {a : Act} {w : World} (h : Post n R M B w0 F a w)
  (hback : edgesBack ops = true) (hd : drawC E f V call ops (List.range ops.size) [] (freshC F ops.toList) = some Fend) (hQ : ∀ a' w', Post n R M B w0 Fend a' w' → Q .normal a' w') : (Code.region id ops true).wp E.P Q a w := by
 refine wp_region_any hm ?_
 have h2 : Post n R M B w0 (freshC F ops.toList) a { w with drawn := w.drawn + 1 } := by
  obtain ⟨M1, G1, h1, e1⟩ := fresh_ok ops.toList (fun o ho t ht => by
   obtain ⟨i, hi, rfl⟩ := List.getElem_of_mem ho
   exact (hfit i _ (by rw [Array.getElem?_eq_getElem (by simpa using hi)]; simp)).2 t ht) h
  exact ⟨M1, G1, h1.heapEq rfl, e1.heapEq rfl rfl rfl rfl⟩
 obtain ⟨e, rs, blk, hst, he, hblk, hset, _, hex, hend⟩ := drawC_stretch (E := E) (f := f) (V := V) (call := call) (ops := ops) (F := freshC F ops.toList) ops.size 0 (rs := []) (blk := []) (by omega) ⟨by simp, ⟨by simp, by simp, by simp⟩, by simp⟩ (by simp) (by simpa [appL, List.range_eq_range'] using hd)
 have hrep : ∀ i, inL (Array.replicate ops.size false) i = false := fun i => by
  unfold inL
  simp only [Array.getD_eq_getD_getElem?, Array.getElem?_replicate]
  split <;> rfl
 refine drawn_any hcall hgd hfit hback hQ ops.size (by simp) ?_ (fun i o _ hi => by rw [hrep] at hi; cases hi) (fun j hj => by rcases hset j hj with h | h; omega; exact .inr h) hst hblk he (fun i hi => by rw [hrep] at hi; cases hi) hend ?_
 ·unfold left
  have := List.length_filter_le (fun i => !inL (Array.replicate ops.size false) i) (List.range ops.size)
  simpa using this
 ·have : appL (inL (Array.replicate ops.size false)) rs (freshC F ops.toList) = freshC F ops.toList := by
   generalize freshC F ops.toList = F0
   clear hst hend hblk hset hex
   induction rs generalizing F0 with
   | nil => rfl
   | cons y rs ih => obtain ⟨k, t, d⟩ := y; simp only [appL, hrep k, Bool.false_eq_true, if_false]; exact ih F0
  rw [this]; exact h2
end
end Go.Own
