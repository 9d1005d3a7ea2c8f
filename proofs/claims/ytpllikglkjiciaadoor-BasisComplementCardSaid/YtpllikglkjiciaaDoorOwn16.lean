/- An interpreter of function bodies without memory, proved sound for the model. No conditions. -/
import Derived.Test.YtpllikglkjiciaaDoorOwn15
set_option linter.all false

namespace Go.Own
open D
def Less (A B : Fr) : Prop := ∀ s, isUndef (get A s) = true ∨ get B s = get A s
def Seen (A : Fr) (x : Operand) : Prop := ∀ t, x = .tmp t → isUndef (get A t) = false
theorem isUndef_iff {d : D} : isUndef d = true ↔ d = .undef := by cases d <;> simp [isUndef]
section
variable {E : Env} {A B : Fr}
theorem Less.seen (h : Less A B) {x : Operand} (hx : Seen A x) {t : Nat} (ht : x = .tmp t) : get B t = get A t := by
  rcases h t with h | h
  · rw [hx t ht] at h; cases h
  · exact h
theorem opd_mono (h : Less A B) {x : Operand} (hx : Seen A x) : opd E B x = opd E A x := by
  cases x with
  | tmp t => simp only [opd, h.seen hx rfl]
  | _ => rfl
theorem getAt_mono (h : Less A B) {s : Nat} {ps : Path} {c : D} (hc : getAt A s ps = some c) (hn : c ≠ .undef) : getAt B s ps = some c := by
  unfold getAt at hc ⊢
  rcases h s with h | h
  · rw [isUndef_iff] at h
    rw [h] at hc
    cases ps with
    | nil => simp only [D.getP, Option.some.injEq] at hc; exact absurd hc.symm hn
    | cons p ps => obtain ⟨i, o⟩ := p; simp [D.getP, D.elem] at hc
  · rw [h]; exact hc
theorem ptrOf_mono (h : Less A B) {d : D} {p : Ptr} (hp : ptrOf A d = some p) : ptrOf B d = some p := by
  cases d with
  | alias s ps =>
    simp only [ptrOf] at hp ⊢
    split at hp
    · rename_i hg; rw [getAt_mono h hg (by simp)]; exact hp
    · rename_i hg; rw [getAt_mono h hg (by simp)]; exact hp
    · cases hp
  | _ => exact hp
theorem elemsOf_mono (h : Less A B) {d : D} {es : List (List D)} (hp : elemsOf A d = some es) : elemsOf B d = some es := by
  cases d with
  | alias s ps =>
    simp only [elemsOf] at hp ⊢
    split at hp
    · rename_i hg; rw [getAt_mono h hg (by simp)]; exact hp
    · rename_i hg; rw [getAt_mono h hg (by simp)]; exact hp
    · cases hp
  | sub s ps i k =>
    simp only [elemsOf] at hp ⊢
    split at hp
    · rename_i hg; rw [getAt_mono h hg (by simp)]; exact hp
    · rename_i hg; rw [getAt_mono h hg (by simp)]; exact hp
    · cases hp
  | _ => exact hp
theorem loadD_mono (h : Less A B) {t : Nat} {x d : D} (hp : loadD E A t x = some d) : loadD E B t x = some d := by
  unfold loadD at hp ⊢
  split at hp
  · cases hp
  · rename_i hu
    rw [if_neg hu]
    split at hp
    · rename_i cs hq; rw [ptrOf_mono h hq]; exact hp
    · rename_i s ps i o hq
      rw [ptrOf_mono h hq]
      try simp only
      split at hp
      · rename_i nd hg
        rw [getAt_mono h hg (by rintro rfl; simp [D.elem] at hp)]
        exact hp
      · cases hp
    · cases hp
theorem indexAddrD_mono (h : Less A B) {t : Nat} {x i d : D} (hp : indexAddrD E A t x i = some d) : indexAddrD E B t x i = some d := by
  unfold indexAddrD at hp ⊢
  split at hp
  · cases hp
  · rename_i k hk
    try simp only
    split at hp
    · rename_i e he
      try simp only
      split at hp
      · exact hp
      · rename_i s ps
        try simp only
        split at hp
        · rename_i es hg; rw [getAt_mono h hg (by simp)]; exact hp
        · rename_i es hg; rw [getAt_mono h hg (by simp)]; exact hp
        · cases hp
      · rename_i s ps off len
        try simp only
        split at hp
        · rename_i hl
          rw [if_pos hl]
          split at hp
          · rename_i es hg; rw [getAt_mono h hg (by simp)]; exact hp
          · rename_i es hg; rw [getAt_mono h hg (by simp)]; exact hp
          · cases hp
        · cases hp
      · cases hp
    · rename_i he
      try simp only
      split at hp
      · rename_i m e ha
        try simp only
        split at hp
        · rename_i hm
          rw [if_pos hm]
          split at hp
          · cases hp
          · rename_i hz
            rw [if_neg hz]
            split at hp
            · rename_i hq; rw [ptrOf_mono h hq]; exact hp
            · rename_i hq; rw [ptrOf_mono h hq]; exact hp
            · cases hp
        · cases hp
      · cases hp
theorem lenD_mono (h : Less A B) {t : Nat} {x d : D} (hp : lenD E A t x = some d) : lenD E B t x = some d := by
  unfold lenD at hp ⊢
  split at hp
  · exact hp
  · exact hp
  · simp only [Option.map_eq_some_iff] at hp ⊢
    obtain ⟨es, he, hh⟩ := hp
    exact ⟨es, elemsOf_mono h he, hh⟩
  · rename_i s ps
    try simp only
    split at hp
    · rename_i hg; rw [getAt_mono h hg (by simp)]; exact hp
    · cases hp
  · cases hp
theorem convertD_mono (h : Less A B) {s t : Nat} {x d : D} (hp : convertD E A s t x = some d) : convertD E B s t x = some d := by
  unfold convertD at hp ⊢
  split at hp
  · exact hp
  · exact hp
  · exact hp
  · exact hp
  · rename_i e _ _
    try simp only
    split at hp
    · rename_i es he hes; rw [elemsOf_mono h hes, he]; exact hp
    · cases hp
  · cases hp
theorem sliceD_mono (h : Less A B) {t : Nat} {x d : D} {l hh : Option Nat} (hp : sliceD E A t x l hh = some d) : sliceD E B t x l hh = some d := by
  unfold sliceD at hp ⊢
  split at hp
  · exact hp
  · exact hp
  · try simp only
    split at hp
    · rename_i e es he hes; rw [elemsOf_mono h hes, he]; exact hp
    · cases hp
  · try simp only
    split at hp
    · rename_i e es he hes; rw [elemsOf_mono h hes, he]; exact hp
    · cases hp
  · cases hp
theorem lookupD_mono (h : Less A B) {t : Nat} {x k d : D} {ok : Bool} (hp : lookupD E A t x k ok = some d) : lookupD E B t x k ok = some d := by
  unfold lookupD at hp ⊢
  split at hp
  · try simp only
    split at hp
    · rename_i es z hg hz; rw [getAt_mono h hg (by simp), hz]; exact hp
    · cases hp
  · cases hp
theorem capsD_mono (h : Less A B) : ∀ {xs : List Operand}, (∀ x ∈ xs, Seen A x) → capsD E B xs = capsD E A xs
  | [], _ => rfl
  | x :: xs, hs => by
    simp only [capsD]
    rw [opd_mono h (hs x (by simp)), capsD_mono h (fun y hy => hs y (by simp [hy]))]
theorem freezeAt_mono (h : Less A B) {s : Nat} {ps : Path} {d : D} (hp : freezeAt A s ps = some d) : freezeAt B s ps = some d := by
  unfold freezeAt at hp ⊢
  split at hp
  · rename_i c hg
    rw [getAt_mono h hg (by rintro rfl; simp [D.freeze] at hp)]; exact hp
  · cases hp
theorem snap1_mono (h : Less A B) {d d' : D} (hp : snap1 A d = some d') : snap1 B d = some d' := by
  cases d with
  | alias s ps => exact freezeAt_mono h hp
  | sub s ps i k =>
    simp only [snap1] at hp ⊢
    cases hf : freezeAt A s ps with
    | none => simp [hf] at hp
    | some x => rw [hf] at hp; rw [freezeAt_mono h hf]; exact hp
  | place s ps i k =>
    simp only [snap1] at hp ⊢
    cases hf : freezeAt A s ps with
    | none => simp [hf] at hp
    | some x => rw [hf] at hp; rw [freezeAt_mono h hf]; exact hp
  | _ => exact hp
theorem snaps1_mono (h : Less A B) : ∀ {cs ds : List D}, snaps1 A cs = some ds → snaps1 B cs = some ds
  | [], _, hp => hp
  | c :: cs, ds, hp => by
    simp only [snaps1] at hp ⊢
    split at hp
    · rename_i c' cs' h1 h2
      rw [snap1_mono h h1, snaps1_mono h h2]; exact hp
    · cases hp
theorem snapD_mono (h : Less A B) {d d' : D} (hp : snapD A d = some d') : snapD B d = some d' := by
  have one : ∀ c, (∀ F, snapD F c = snap1 F c) → snapD A c = some d' → snapD B c = some d' := fun c e hc => by
    rw [e] at hc ⊢; exact snap1_mono h hc
  cases d with
  | agg cs =>
    simp only [snapD, Option.map_eq_some_iff] at hp ⊢
    obtain ⟨cs', h1, h2⟩ := hp
    exact ⟨cs', snaps1_mono h h1, h2⟩
  | fn f cs =>
    simp only [snapD, Option.map_eq_some_iff] at hp ⊢
    obtain ⟨cs', h1, h2⟩ := hp
    exact ⟨cs', snaps1_mono h h1, h2⟩
  | _ => exact one _ (fun _ => rfl) hp
theorem imm1_mono (h : Less A B) {d : D} (hp : imm1 A d = true) : imm1 B d = true := by
  cases d with
  | alias s ps =>
    simp only [imm1] at hp ⊢
    split at hp
    · rename_i hg; rw [getAt_mono h hg (by simp)]
    · rename_i hg; rw [getAt_mono h hg (by simp)]
    · cases hp
  | sub s ps i k =>
    simp only [imm1] at hp ⊢
    split at hp
    · rename_i hg; rw [getAt_mono h hg (by simp)]
    · rename_i hg; rw [getAt_mono h hg (by simp)]
    · cases hp
  | _ => exact hp
theorem immD_mono (h : Less A B) {d : D} (hp : immD A d = true) : immD B d = true := by
  have l : ∀ {cs : List D}, cs.all (imm1 A) = true → cs.all (imm1 B) = true := fun hc => by
    rw [List.all_eq_true] at hc ⊢
    exact fun x hx => imm1_mono h (hc x hx)
  have one : ∀ c, (∀ F, immD F c = imm1 F c) → immD A c = true → immD B c = true := fun c e hc => by
    rw [e] at hc ⊢; exact imm1_mono h hc
  cases d with
  | agg cs => exact l hp
  | fn f cs => exact l hp
  | _ => exact one _ (fun _ => rfl) hp
theorem givenC_mono (h : Less A B) {x : Operand} (hx : Seen A x) {d : D} (hp : givenC E A x = some d) : givenC E B x = some d := by
  cases x with
  | tmp t =>
    simp only [givenC, h.seen hx rfl] at hp ⊢
    split at hp
    · exact hp
    · exact hp
    · exact hp
    · exact hp
    · exact hp
    · rename_i s ps hg
      try simp only
      split at hp
      · rename_i hg; rw [getAt_mono h hg (by simp)]; exact hp
      · rename_i hg; rw [getAt_mono h hg (by simp)]; exact hp
      · cases hp
    · cases hp
  | _ => exact hp
theorem givenParts_mono (h : Less A B) : ∀ {ps : List (Nat × Operand)} {ds : List (Nat × D)}, (∀ p ∈ ps, Seen A p.2) → givenParts E A ps = some ds → givenParts E B ps = some ds
  | [], _, _, hp => hp
  | (i, x) :: ps, ds, hs, hp => by
    simp only [givenParts] at hp ⊢
    split at hp
    · rename_i d ds' h1 h2
      rw [givenC_mono h (hs (i, x) (by simp)) h1, givenParts_mono h (fun p hp => hs p (by simp [hp])) h2]; exact hp
    · cases hp
theorem argD_mono (h : Less A B) {c : Operand} (hc : Seen A c) {b : Arg} (hb : ∀ x, b = .opn x → Seen A x) : argD E B c b = argD E A c b := by
  cases b with
  | opn x => exact opd_mono (E := E) h (hb x rfl)
  | cap j => simp only [argD, capsOf, opd_mono h hc]
theorem passRest_mono (h : Less A B) {f : Nat} {c : Operand} (hc : Seen A c) {l : Option D} : ∀ {bs : List Arg} {i : Nat} {ms : List (Option D)} {ds : List D}, (∀ b ∈ bs, ∀ x, b = .opn x → Seen A x) → passRest E f A A c l i bs ms = some ds → passRest E f B B c l i bs ms = some ds
  | [], i, ms, ds, _, hp => by cases ms <;> exact hp
  | b :: bs, i, [], ds, _, hp => by simp [passRest] at hp
  | b :: bs, i, m :: ms, ds, hb, hp => by
    simp only [passRest] at hp ⊢
    rw [argD_mono h hc (hb b (by simp))]
    split at hp
    · rename_i d ds' h1 h2
      rw [passRest_mono h hc (fun y hy => hb y (by simp [hy])) h2]
      have : restOne m (E.mode f i) l ((argD E A c b).bind (snapD B)) = some d := by
        cases m with
        | some x => exact h1
        | none =>
          cases hm : E.mode f i with
          | inout => rw [hm] at h1; exact h1
          | move => rw [hm] at h1; exact h1
          | snap =>
            rw [hm] at h1
            simp only [restOne] at h1 ⊢
            cases ha : argD E A c b with
            | none => simp [ha] at h1
            | some x => rw [ha] at h1; exact snapD_mono h h1
      rw [this]; exact hp
    · cases hp
theorem snapSrcs_mono (h : Less A B) {f : Nat} {c : Operand} (hc : Seen A c) : ∀ {bs : List Arg} {i : Nat}, (∀ b ∈ bs, ∀ x, b = .opn x → Seen A x) → snapSrcs E f B c i bs = snapSrcs E f A c i bs
  | [], _, _ => rfl
  | b :: bs, i, hb => by
    simp only [snapSrcs]
    rw [argD_mono h hc (hb b (by simp)), snapSrcs_mono h hc (fun y hy => hb y (by simp [hy]))]
theorem valC_mono {f : Nat} {call : Nat → List D → Option (D × List D)} (h : Less A B) {o : Oper} (hs : ∀ x ∈ o.op.operands.toList, Seen A x) {d : D} (hv : valC E f call A o = some d) : valC E f call B o = some d := by
  unfold valC at hv ⊢
  cases hq : o.op with
  | move x =>
    rw [hq] at hv hs
    have hx := hs x (by simp [Op.operands])
    simp only at hv ⊢
    cases x with
    | tmp t => simp only [h.seen hx rfl, opd] at hv ⊢; exact hv
    | _ => exact hv
  | assign x =>
    rw [hq] at hv hs
    have hx := hs x (by simp [Op.operands])
    simp only at hv ⊢
    cases x with
    | tmp t => simp only [h.seen hx rfl] at hv ⊢; exact hv
    | _ => exact hv
  | pick c x y =>
    rw [hq] at hv hs
    simp only [opd_mono h (hs c (by simp [Op.operands])), opd_mono h (hs x (by simp [Op.operands])), opd_mono h (hs y (by simp [Op.operands]))] at hv ⊢
    split at hv
    · rename_i t ht
      cases t
      · simp only [Bool.false_eq_true, if_false] at hv ⊢; rw [opd_mono h (hs y (by simp [Op.operands]))]; exact hv
      · simp only [if_true] at hv ⊢; rw [opd_mono h (hs x (by simp [Op.operands]))]; exact hv
    · cases hv
  | alloc t => rw [hq] at hv; exact hv
  | box t x =>
    rw [hq] at hv hs
    simp only at hv ⊢
    cases hg : givenC E A x with
    | none => simp [hg] at hv
    | some d' => rw [hg] at hv; rw [givenC_mono h (hs x (by simp [Op.operands])) hg]; exact hv
  | build t ps =>
    rw [hq] at hv hs
    simp only at hv ⊢
    have hsp : ∀ p ∈ ps.toList, Seen A p.2 := fun p hp => hs p.2 (by simp only [Op.operands, List.toList_toArray]; exact List.mem_map.2 ⟨p, hp, rfl⟩)
    cases hz : zeroT E.P t with
    | none => simp [hz] at hv
    | some z =>
      cases hp : givenParts E A ps.toList with
      | none => simp [hz, hp] at hv
      | some ds => rw [hz, hp] at hv; rw [givenParts_mono h hsp hp]; exact hv
  | buildSlice t m ps =>
    rw [hq] at hv hs
    simp only at hv ⊢
    have hsp : ∀ p ∈ ps.toList, Seen A p.2 := fun p hp => hs p.2 (by simp only [Op.operands, List.toList_toArray]; exact List.mem_map.2 ⟨p, hp, rfl⟩)
    cases hsl : sliceT E.P t with
    | none => simp [hsl] at hv
    | some e =>
      simp only [hsl] at hv ⊢
      cases hz : zeroT E.P e with
      | none => simp [hz] at hv
      | some z =>
        cases hp : givenParts E A ps.toList with
        | none => simp [hz, hp] at hv
        | some ds => rw [hz, hp] at hv; rw [givenParts_mono h hsp hp]; exact hv
  | load t x =>
    rw [hq] at hv hs
    simp only [opd_mono h (hs x (by simp [Op.operands]))] at hv ⊢
    cases ho : opd E A x with
    | none => simp [ho] at hv
    | some d1 => simp only [ho] at hv ⊢; exact loadD_mono h hv
  | nilCheck x =>
    rw [hq] at hv hs
    simp only [opd_mono h (hs x (by simp [Op.operands]))] at hv ⊢
    split at hv
    · try simp only
      split at hv
      · rename_i hg; rw [getAt_mono h hg (by simp)]; exact hv
      · rename_i hg; rw [getAt_mono h hg (by simp)]; exact hv
      · cases hv
    · exact hv
    · exact hv
    · cases hv
  | binOp op t x y yt =>
    rw [hq] at hv hs
    simp only [opd_mono h (hs x (by simp [Op.operands])), opd_mono h (hs y (by simp [Op.operands]))] at hv ⊢
    exact hv
  | unOp op t x =>
    rw [hq] at hv hs
    simp only [opd_mono h (hs x (by simp [Op.operands]))] at hv ⊢
    exact hv
  | convert s t x =>
    rw [hq] at hv hs
    simp only [opd_mono h (hs x (by simp [Op.operands]))] at hv ⊢
    cases ho : opd E A x with
    | none => simp [ho] at hv
    | some d1 => simp only [ho] at hv ⊢; exact convertD_mono h hv
  | makeFunc fn first caps =>
    rw [hq] at hv hs
    cases fn with
    | func g =>
      simp only at hv ⊢
      rw [capsD_mono h (fun x hx => hs x (by simp [Op.operands]; right; simpa using hx))]; exact hv
    | _ => cases hv
  | makeMap t r => rw [hq] at hv; cases r <;> exact hv
  | makeSlice t l c =>
    rw [hq] at hv hs
    simp only [opd_mono h (hs l (by simp [Op.operands])), opd_mono h (hs c (by simp [Op.operands]))] at hv ⊢
    exact hv
  | slice t x lo hi mx =>
    rw [hq] at hv hs
    cases mx with
    | some m => cases hv
    | none =>
      have ol : optNat E B lo = optNat E A lo := by
        cases lo with
        | none => rfl
        | some y => simp only [optNat, opd_mono h (hs y (by simp [Op.operands]))]
      have oh : optNat E B hi = optNat E A hi := by
        cases hi with
        | none => rfl
        | some y => simp only [optNat, opd_mono h (hs y (by simp [Op.operands]))]
      simp only [opd_mono h (hs x (by simp [Op.operands])), ol, oh] at hv ⊢
      cases ho : opd E A x with
      | none => simp [ho] at hv
      | some d1 =>
        cases hl : optNat E A lo with
        | none => simp [ho, hl] at hv
        | some l =>
          cases hh : optNat E A hi with
          | none => simp [ho, hl, hh] at hv
          | some hi' => simp only [ho, hl, hh] at hv ⊢; exact sliceD_mono h hv
  | fieldAddr t x j =>
    rw [hq] at hv hs
    simp only [opd_mono h (hs x (by simp [Op.operands]))] at hv ⊢
    cases hf : fieldT E.P t j with
    | none => simp [hf] at hv
    | some fd =>
      cases ho : opd E A x with
      | none => simp [hf, ho] at hv
      | some d1 =>
        cases hp : ptrOf A d1 with
        | none => simp [hf, ho, hp] at hv
        | some p => simp only [hf, ho, Option.bind_some, hp, ptrOf_mono h hp] at hv ⊢; exact hv
  | field t x j =>
    rw [hq] at hv hs
    simp only [opd_mono h (hs x (by simp [Op.operands]))] at hv ⊢
    exact hv
  | indexAddr t x ix =>
    rw [hq] at hv hs
    simp only [opd_mono h (hs x (by simp [Op.operands])), opd_mono h (hs ix (by simp [Op.operands]))] at hv ⊢
    cases ho : opd E A x with
    | none => simp [ho] at hv
    | some d1 =>
      cases ho2 : opd E A ix with
      | none => simp [ho, ho2] at hv
      | some d2 => simp only [ho, ho2] at hv ⊢; exact indexAddrD_mono h hv
  | index t x ix =>
    rw [hq] at hv hs
    simp only [opd_mono h (hs x (by simp [Op.operands])), opd_mono h (hs ix (by simp [Op.operands]))] at hv ⊢
    exact hv
  | lookup t x k ok =>
    rw [hq] at hv hs
    simp only [opd_mono h (hs x (by simp [Op.operands])), opd_mono h (hs k (by simp [Op.operands]))] at hv ⊢
    cases ho : opd E A x with
    | none => simp [ho] at hv
    | some d1 =>
      cases ho2 : opd E A k with
      | none => simp [ho, ho2] at hv
      | some d2 => simp only [ho, ho2] at hv ⊢; exact lookupD_mono h hv
  | extract x i =>
    rw [hq] at hv hs
    have hx := hs x (by simp [Op.operands])
    cases x with
    | tmp t => simp only [h.seen hx rfl] at hv ⊢; exact hv
    | _ => cases hv
  | call c =>
    rw [hq] at hv hs
    simp only at hv ⊢
    have hargs : ∀ x ∈ c.args.toList, Seen A x := fun x hx' => hs x (by simp [Op.operands, Call.operands]; right; simpa using hx')
    cases hc : c.callee with
    | invoke => rw [hc] at hv; cases hv
    | value x =>
      rw [hc] at hv
      have hx : Seen A x := hs x (by simp [Op.operands, Call.operands, hc])
      simp only [opd_mono h hx] at hv ⊢
      cases ho : opd E A x with
      | none => simp [ho] at hv
      | some dx =>
        cases dx with
        | fn g caps =>
          simp only [ho] at hv ⊢
          split at hv
          · rename_i hso
            simp only [hso, if_true]
            have hbs : ∀ b ∈ argsOf c.args.toList caps.length, ∀ y, b = .opn y → Seen A y := fun b hb y hy => by
              subst hy
              simp only [argsOf, List.mem_append, List.mem_map, Arg.opn.injEq, exists_eq_right, reduceCtorEq, and_false, exists_false, or_false] at hb
              exact hargs y hb
            cases hp : passRest E g A A x none 0 (argsOf c.args.toList caps.length) ((argsOf c.args.toList caps.length).map fun _ => none) with
            | none => simp [hp] at hv
            | some ds =>
              simp only [hp] at hv
              simp only [passRest_mono h hx hbs hp, snapSrcs_mono h hx hbs]
              split at hv
              · rename_i r hcl
                split at hv
                · rename_i hf
                  have : (r.flat || (snapSrcs E g A x 0 (argsOf c.args.toList caps.length)).all (immD B)) = true := by
                    simp only [Bool.or_eq_true] at hf ⊢
                    rcases hf with hf | hf
                    · exact .inl hf
                    · right
                      rw [List.all_eq_true] at hf ⊢
                      exact fun y hy => immD_mono h (hf y hy)
                  simp only [this, if_true]; exact hv
                · cases hv
              · cases hv
          · cases hv
        | _ => simp [ho] at hv
    | builtin b =>
      rw [hc] at hv
      try simp only at hv ⊢
      cases b with
      | len =>
        simp only at hv ⊢
        split at hv
        · rename_i x t ts hb2 hb3
          simp only [opd_mono h (hargs x (by rw [hb2]; simp))] at hv ⊢
          cases ho : opd E A x with
          | none => simp [ho] at hv
          | some d1 => simp only [ho] at hv ⊢; exact lenD_mono h hv
        · cases hv
      | max =>
        simp only at hv ⊢
        split at hv
        · rename_i x y hb2
          simp only [opd_mono h (hargs x (by rw [hb2]; simp)), opd_mono h (hargs y (by rw [hb2]; simp))] at hv ⊢
          exact hv
        · cases hv
      | min =>
        simp only at hv ⊢
        split at hv
        · rename_i x y hb2
          simp only [opd_mono h (hargs x (by rw [hb2]; simp)), opd_mono h (hargs y (by rw [hb2]; simp))] at hv ⊢
          exact hv
        · cases hv
      | _ => cases hv
  | _ => rw [hq] at hv; cases hv
theorem seesAll_spec {ops : Array Oper} {o : Oper} (h : seesAll ops A o = true) : (∀ x ∈ o.op.operands.toList, Seen A x) ∧ ∀ t ∈ guardTmp ops o, isUndef (get A t) = false := by
  unfold seesAll at h
  rw [List.all_eq_true] at h
  refine ⟨fun x hx t ht => ?_, fun t ht => ?_⟩
  · have := h t (List.mem_append_left _ (by unfold tmpsOf; rw [List.mem_filterMap]; exact ⟨x, hx, by rw [ht]⟩))
    simpa using this
  · have := h t (List.mem_append_right _ ht)
    simpa using this
theorem wantedD_mono (h : Less A B) {ops : Array Oper} {o : Oper} (hs : ∀ t ∈ guardTmp ops o, isUndef (get A t) = false) : wantedD ops B o = wantedD ops A o := by
  unfold wantedD
  cases hg : o.guard with
  | none => rfl
  | some q =>
    obtain ⟨j, b⟩ := q
    try simp only
    cases ht : (ops[j]?).bind (·.dst) with
    | none => rfl
    | some t =>
      have : get B t = get A t := by
        rcases h t with h | h
        · rw [hs t (by unfold guardTmp; simp [hg, ht])] at h; cases h
        · exact h
      simp only [this]
theorem pureC_mono {f : Nat} {call : Nat → List D → Option (D × List D)} (h : Less A B) {ops : Array Oper} {o : Oper} (hs : seesAll ops A o = true) {d : D} (hv : pureC E f call ops A o = some d) : pureC E f call ops B o = some d := by
  obtain ⟨h1, h2⟩ := seesAll_spec hs
  unfold pureC at hv ⊢
  rw [wantedD_mono h h2]
  split at hv
  · exact valC_mono h h1 hv
  · exact hv
  · cases hv
end
end Go.Own

namespace Go.Own
open D
abbrev Rs := List (Nat × Option Nat × D)
def appL (L : Nat → Bool) : Rs → Fr → Fr
  | [], F => F
  | (i, t, d) :: r, F => appL L r (if L i then set0 F t d else F)
def hasKey (F : Fr) (t : Nat) : Bool := F.any fun x => x.1 == t
def opDst (ops : Array Oper) (i : Nat) : Option Nat := (ops[i]?).bind (·.dst)
theorem hasKey_put0 (F : Fr) (s t : Nat) (d : D) (h : hasKey F t = true) : hasKey (put0 F s d) t = true := by
  induction F with
  | nil => simp [hasKey] at h
  | cons x r ih =>
    simp only [put0]
    split
    · rename_i hk
      subst hk
      simpa [hasKey] using h
    · simp only [hasKey, List.any_cons, Bool.or_eq_true] at h ⊢
      rcases h with h | h
      · exact .inl h
      · exact .inr (ih h)
theorem hasKey_set0 {F : Fr} {s : Option Nat} {t : Nat} {d : D} (h : hasKey F t = true) : hasKey (set0 F s d) t = true := by
  cases s with
  | none => exact h
  | some s => exact hasKey_put0 F s t d h
theorem put0_comm : ∀ (F : Fr) {s t : Nat} (d e : D), s ≠ t → hasKey F s = true → hasKey F t = true → put0 (put0 F s d) t e = put0 (put0 F t e) s d
  | [], s, t, d, e, _, h, _ => by simp [hasKey] at h
  | (k, x) :: r, s, t, d, e, hst, h1, h2 => by
    by_cases hs : k = s
    · subst hs
      have ht : k ≠ t := hst
      simp [put0, ht]
    · by_cases ht : k = t
      · subst ht
        simp [put0, hs]
      · have h1' : hasKey r s = true := by simpa [hasKey, hs] using h1
        have h2' : hasKey r t = true := by simpa [hasKey, ht] using h2
        simp only [put0, hs, ht, if_false, put0_comm r d e hst h1' h2']
theorem set0_comm {F : Fr} {s t : Option Nat} {d e : D} (h : ∀ a b, s = some a → t = some b → a ≠ b) (h1 : ∀ a, s = some a → hasKey F a = true) (h2 : ∀ b, t = some b → hasKey F b = true) : set0 (set0 F s d) t e = set0 (set0 F t e) s d := by
  cases s with
  | none => rfl
  | some s => cases t with
    | none => rfl
    | some t => exact put0_comm F d e (h s t rfl rfl) (h1 s rfl) (h2 t rfl)
theorem get_set0 {F : Fr} {t : Option Nat} {d : D} (s : Nat) : get (set0 F t d) s = if t = some s then d else get F s := by
  cases t with
  | none => simp [set0]
  | some t =>
    simp only [set0]
    by_cases h : t = s
    · subst h; simp [get_put0_same]
    · simp [h, get_put0_other F d (Ne.symm h)]
structure RsOK (F : Fr) (rs : Rs) : Prop where
  key : ∀ x ∈ rs, ∀ t, x.2.1 = some t → hasKey F t = true
  idx : (rs.map (·.1)).Nodup
  dst : ∀ x ∈ rs, ∀ y ∈ rs, x.1 ≠ y.1 → ∀ t, x.2.1 = some t → y.2.1 ≠ some t
theorem appL_hasKey {L : Nat → Bool} : ∀ {rs : Rs} {F : Fr} {t : Nat}, hasKey F t = true → hasKey (appL L rs F) t = true
  | [], _, _, h => h
  | (i, t', d) :: rs, F, t, h => by
    simp only [appL]
    refine appL_hasKey ?_
    split
    · exact hasKey_set0 h
    · exact h
theorem appL_put {L : Nat → Bool} : ∀ {rs : Rs} {F : Fr}, RsOK F rs → ∀ {i : Nat} {t : Option Nat} {d : D}, (i, t, d) ∈ rs → L i = false → appL (fun k => L k || k == i) rs F = set0 (appL L rs F) t d
  | [], _, _, _, _, _, h, _ => by cases h
  | (j, t', d') :: rs, F, hok, i, t, d, hm, hL => by
    have hok' : ∀ F', (∀ t, hasKey F t = true → hasKey F' t = true) → RsOK F' rs := fun F' hF => ⟨fun x hx s hs => hF s (hok.key x (by simp [hx]) s hs), by have := hok.idx; simp only [List.map_cons, List.nodup_cons] at this; exact this.2, fun x hx y hy => hok.dst x (by simp [hx]) y (by simp [hy])⟩
    have hnj : ∀ x ∈ rs, x.1 ≠ j := fun x hx he => by
      have := hok.idx
      simp only [List.map_cons, List.nodup_cons, List.mem_map, not_exists, not_and] at this
      exact this.1 x hx he
    simp only [appL]
    rcases List.mem_cons.1 hm with hm | hm
    · obtain ⟨e1, e2, e3⟩ : j = i ∧ t' = t ∧ d' = d := by simp only [Prod.mk.injEq] at hm; exact ⟨hm.1.symm, hm.2.1.symm, hm.2.2.symm⟩
      subst e1 e2 e3
      simp only [hL, beq_self_eq_true, Bool.or_true, if_true, Bool.false_eq_true, if_false]
      have key : ∀ {rs : Rs} {F : Fr}, (∀ x ∈ rs, x.1 ≠ j) → (∀ x ∈ rs, ∀ a b, t' = some a → x.2.1 = some b → a ≠ b) → (∀ a, t' = some a → hasKey F a = true) → (∀ x ∈ rs, ∀ b, x.2.1 = some b → hasKey F b = true) → appL (fun k => L k || k == j) rs (set0 F t' d') = set0 (appL L rs F) t' d' := by
        intro rs
        induction rs with
        | nil => intro F _ _ _ _; rfl
        | cons y rs ih =>
          obtain ⟨k, t2, d2⟩ := y
          intro F h1 h2 h3 h4
          have hk : (k == j) = false := by simpa using h1 (k, t2, d2) (by simp)
          simp only [appL, hk, Bool.or_false]
          by_cases hLk : L k = true
          · simp only [hLk, if_true]
            rw [set0_comm (h2 (k, t2, d2) (by simp)) h3 (h4 (k, t2, d2) (by simp))]
            exact ih (fun x hx => h1 x (by simp [hx])) (fun x hx => h2 x (by simp [hx])) (fun a ha => hasKey_set0 (h3 a ha)) (fun x hx b hb => hasKey_set0 (h4 x (by simp [hx]) b hb))
          · have hLk' : L k = false := by simpa using hLk
            simp only [hLk', Bool.false_eq_true, if_false]
            exact ih (fun x hx => h1 x (by simp [hx])) (fun x hx => h2 x (by simp [hx])) h3 (fun x hx => h4 x (by simp [hx]))
      refine key hnj (fun x hx a b ha hb he => ?_) (fun a ha => hok.key (j, t', d') (by simp) a ha) (fun x hx => hok.key x (by simp [hx]))
      subst he
      exact hok.dst (j, t', d') (by simp) x (by simp [hx]) (fun he => hnj x hx he.symm) a ha hb
    · have hij : (j == i) = false := by have := hnj _ hm; simpa using Ne.symm this
      simp only [hij, Bool.or_false]
      by_cases hLj : L j = true
      · simp only [hLj, if_true]
        exact appL_put (hok' _ fun t ht => hasKey_set0 ht) hm hL
      · have hLj' : L j = false := by simpa using hLj
        simp only [hLj', Bool.false_eq_true, if_false]
        exact appL_put (hok' _ fun t ht => ht) hm hL
theorem appL_get_other {L : Nat → Bool} : ∀ {rs : Rs} {F : Fr} {s : Nat}, (∀ x ∈ rs, x.2.1 = some s → L x.1 = false) → get (appL L rs F) s = get F s
  | [], _, _, _ => rfl
  | (i, t, d) :: rs, F, s, h => by
    simp only [appL]
    rw [appL_get_other (fun x hx => h x (by simp [hx]))]
    split
    · rename_i hL
      rw [get_set0]
      split
      · rename_i ht
        have := h (i, t, d) (by simp) ht
        rw [this] at hL; cases hL
      · rfl
    · rfl
theorem appL_get_same {L : Nat → Bool} : ∀ {rs : Rs} {F : Fr}, RsOK F rs → ∀ {i s : Nat} {d : D}, (i, some s, d) ∈ rs → L i = true → get (appL L rs F) s = d
  | [], _, _, _, _, _, h, _ => by cases h
  | (j, t', d') :: rs, F, hok, i, s, d, hm, hL => by
    have hnj : ∀ x ∈ rs, x.1 ≠ j := fun x hx he => by
      have := hok.idx
      simp only [List.map_cons, List.nodup_cons, List.mem_map, not_exists, not_and] at this
      exact this.1 x hx he
    simp only [appL]
    rcases List.mem_cons.1 hm with hm | hm
    · obtain ⟨e1, e2, e3⟩ : j = i ∧ t' = some s ∧ d' = d := by simp only [Prod.mk.injEq] at hm; exact ⟨hm.1.symm, hm.2.1.symm, hm.2.2.symm⟩
      subst e1 e2 e3
      rw [appL_get_other (fun x hx hs => absurd hs (hok.dst (j, some s, d') (by simp) x (by simp [hx]) (fun he => hnj x hx he.symm) s rfl))]
      simp only [hL, if_true, get_set0]
    · have hok' : ∀ F', (∀ t, hasKey F t = true → hasKey F' t = true) → RsOK F' rs := fun F' hF => ⟨fun x hx s hs => hF s (hok.key x (by simp [hx]) s hs), by have := hok.idx; simp only [List.map_cons, List.nodup_cons] at this; exact this.2, fun x hx y hy => hok.dst x (by simp [hx]) y (by simp [hy])⟩
      split
      · exact appL_get_same (hok' _ fun t ht => hasKey_set0 ht) hm hL
      · exact appL_get_same (hok' _ fun t ht => ht) hm hL
theorem appL_congr {L L' : Nat → Bool} : ∀ {rs : Rs} {F : Fr}, (∀ x ∈ rs, L x.1 = L' x.1) → appL L rs F = appL L' rs F
  | [], _, _ => rfl
  | (i, t, d) :: rs, F, h => by
    simp only [appL]
    rw [h (i, t, d) (by simp)]
    exact appL_congr fun x hx => h x (by simp [hx])
theorem appL_append {L : Nat → Bool} : ∀ {rs rs' : Rs} {F : Fr}, appL L (rs ++ rs') F = appL L rs' (appL L rs F)
  | [], _, _ => rfl
  | (i, t, d) :: rs, rs', F => by simp only [List.cons_append, appL]; exact appL_append
theorem get_maskF (hid : List Nat) : ∀ (F : Fr) (s : Nat), get (maskF hid F) s = if hid.contains s then .undef else get F s
  | [], s => by simp [maskF, get]
  | (k, d) :: r, s => by
    have ih := get_maskF hid r s
    simp only [maskF, List.map_cons] at ih ⊢
    by_cases hk : k = s
    · subst hk
      split
      · simp [get]
      · simp [get]
    · split <;> simp only [get, hk, if_false] <;> exact ih
def Fact (E : Env) (f : Nat) (call : Nat → List D → Option (D × List D)) (ops : Array Oper) (F : Fr) (b : Nat) (rs : Rs) (x : Nat × Option Nat × D) : Prop :=
  ∃ o, ops[x.1]? = some o ∧ o.dst = x.2.1 ∧ ∃ blk : List Nat, (∀ j ∈ blk, b ≤ j ∧ j < x.1) ∧ (∀ j, b ≤ j → j < x.1 → j ∈ blk) ∧
    let Fi := appL (fun k => decide (k < x.1)) rs F
    pureC E f call ops (maskF (hiddenOf ops blk x.1) Fi) o = some x.2.2 ∧ seesAll ops (maskF (hiddenOf ops blk x.1) Fi) o = true ∧ (∀ t, o.dst = some t → get F t = .undef)
structure Stretch (E : Env) (f : Nat) (call : Nat → List D → Option (D × List D)) (ops : Array Oper) (F : Fr) (b e : Nat) (rs : Rs) : Prop where
  le : b ≤ e
  ind : rs.map (·.1) = List.range' b (e - b)
  ok : RsOK F rs
  facts : ∀ x ∈ rs, Fact E f call ops F b rs x
def blkOf (b i : Nat) : List Nat := (List.range' b (i - b)).reverse
theorem mem_blkOf {b i j : Nat} : j ∈ blkOf b i ↔ b ≤ j ∧ j < i := by
  unfold blkOf
  simp only [List.mem_reverse, List.mem_range'_1]
  omega
theorem blkOf_succ {b i : Nat} (h : b ≤ i) : blkOf b (i + 1) = i :: blkOf b i := by
  unfold blkOf
  rw [show i + 1 - b = (i - b) + 1 by omega, List.range'_concat, List.reverse_append]
  simp; omega
theorem drawC_stretch {E : Env} {f : Nat} {V : List Nat} {call : Nat → List D → Option (D × List D)} {ops : Array Oper} {F Fend : Fr} {b : Nat} :
    ∀ (k i : Nat) {rs : Rs}, i + k = ops.size → Stretch E f call ops F b i rs → drawC E f V call ops (List.range' i k) (blkOf b i) (appL (fun _ => true) rs F) = some Fend →
      ∃ e rs', Stretch E f call ops F b e rs' ∧ e ≤ ops.size ∧
        ((e = ops.size ∧ Fend = appL (fun _ => true) rs' F) ∨
         ∃ o, ops[e]? = some o ∧ anchored ops e = true ∧ ∃ x, wantedD ops (appL (fun _ => true) rs' F) o = some x ∧
           ∃ F', (if x then opC E f V call (appL (fun _ => true) rs' F) o else some (fin (appL (fun _ => true) rs' F) o.dst (.tup []))) = some F' ∧ drawC E f V call ops (List.range' (e + 1) (ops.size - (e + 1))) [] F' = some Fend)
  | 0, i, rs, hk, hs, hd => by
    simp only [List.range'_zero, drawC, Option.some.injEq] at hd
    exact ⟨i, rs, hs, by omega, .inl ⟨by omega, hd.symm⟩⟩
  | k + 1, i, rs, hk, hs, hd => by
    simp only [List.range'_succ, drawC] at hd
    cases ho : ops[i]? with
    | none => simp [ho] at hd
    | some o =>
      simp only [ho] at hd
      by_cases han : anchored ops i = true
      case neg =>
        rw [if_neg han] at hd
        cases hp : pureC E f call ops (maskF (hiddenOf ops (blkOf b i) i) (appL (fun _ => true) rs F)) o with
        | none => simp [hp] at hd
        | some d =>
        simp only [hp] at hd
        split at hd
        case isFalse => cases hd
        rename_i hc
        simp only [Bool.and_eq_true] at hc
        obtain ⟨⟨hc1, hc2⟩, hc3⟩ := hc
        have hidx : ∀ x ∈ rs, b ≤ x.1 ∧ x.1 < i := fun x hx => by
          have : x.1 ∈ rs.map (·.1) := List.mem_map.2 ⟨x, hx, rfl⟩
          rw [hs.ind, List.mem_range'_1] at this
          omega
        have hall : ∀ {rs' : Rs}, appL (fun k => decide (k < i)) (rs ++ rs') F = appL (fun k => decide (k < i)) rs' (appL (fun _ => true) rs F) := fun {rs'} => by
          rw [appL_append]
          rw [appL_congr (L := fun k => decide (k < i)) (L' := fun _ => true) (rs := rs) (fun x hx => by simpa using (hidx x hx).2)]
        have hdst : ∀ x ∈ rs, ∀ t, o.dst = some t → x.2.1 ≠ some t := fun x hx t ht hxt => by
          obtain ⟨hb1, hb2⟩ := hidx x hx
          obtain ⟨o', ho', hdo', _⟩ := hs.facts x hx
          simp only [newDst, ht, List.all_eq_true] at hc3
          have := hc3 x.1 (mem_blkOf.2 ⟨hb1, hb2⟩)
          simp only [ho', Option.bind_some, hdo', hxt] at this
          simp at this
        have hfree : ∀ t, o.dst = some t → get (appL (fun _ => true) rs F) t = .undef ∧ hasKey (appL (fun _ => true) rs F) t = true := fun t ht => by
          simp only [freeDst, ht, Bool.and_eq_true] at hc2
          exact ⟨isUndef_iff.1 hc2.1, hc2.2⟩
        have hgF : ∀ t, o.dst = some t → get F t = .undef := fun t ht => by
          have := (hfree t ht).1
          rw [appL_get_other (fun x hx hxt => absurd hxt (hdst x hx t ht))] at this
          exact this
        have hkF : ∀ t, o.dst = some t → hasKey F t = true := fun t ht => by
          have h1 := (hfree t ht).2
          have : ∀ {rs : Rs} {F : Fr}, RsOK F rs → hasKey (appL (fun _ => true) rs F) t = true → (∀ x ∈ rs, x.2.1 ≠ some t) → hasKey F t = true := by
            intro rs
            induction rs with
            | nil => intro F _ h _; exact h
            | cons y rs ih =>
              obtain ⟨j, t2, d2⟩ := y
              intro F hok h hne
              simp only [appL, if_true] at h
              have hok' : RsOK (set0 F t2 d2) rs := ⟨fun x hx s hs => hasKey_set0 (hok.key x (by simp [hx]) s hs), by have := hok.idx; simp only [List.map_cons, List.nodup_cons] at this; exact this.2, fun x hx y hy => hok.dst x (by simp [hx]) y (by simp [hy])⟩
              have h2 := ih hok' h (fun x hx => hne x (by simp [hx]))
              cases t2 with
              | none => exact h2
              | some s =>
                have hst : s ≠ t := fun he => hne (j, some s, d2) (by simp) (by rw [he])
                have : ∀ (F : Fr), hasKey (put0 F s d2) t = true → hasKey F t = true := by
                  intro F
                  induction F with
                  | nil => intro h; simp [put0, hasKey, hst] at h
                  | cons z r ih2 =>
                    obtain ⟨kk, zz⟩ := z
                    intro h
                    simp only [put0] at h
                    split at h
                    · rename_i hks; subst hks; simpa [hasKey] using h
                    · simp only [hasKey, List.any_cons, Bool.or_eq_true] at h ⊢
                      rcases h with h | h
                      · exact .inl h
                      · exact .inr (ih2 h)
                exact this F h2
          exact this hs.ok h1 (fun x hx => hdst x hx t ht)
        have hs' : Stretch E f call ops F b (i + 1) (rs ++ [(i, o.dst, d)]) := by
          refine ⟨by have := hs.le; omega, ?_, ⟨?_, ?_, ?_⟩, ?_⟩
          · rw [List.map_append, hs.ind]
            have := hs.le
            rw [show i + 1 - b = (i - b) + 1 by omega, List.range'_concat]
            simp; omega
          · intro x hx t ht
            rcases List.mem_append.1 hx with hx | hx
            · exact hs.ok.key x hx t ht
            · simp only [List.mem_singleton] at hx; subst hx; exact hkF t ht
          · rw [List.map_append, List.nodup_append]
            refine ⟨hs.ok.idx, by simp, ?_⟩
            rintro x hx y hy rfl
            simp only [List.map_cons, List.map_nil, List.mem_singleton] at hy
            rw [hs.ind, List.mem_range'_1] at hx
            omega
          · intro x hx y hy hne t hxt hyt
            rcases List.mem_append.1 hx with hx | hx
            · rcases List.mem_append.1 hy with hy | hy
              · exact hs.ok.dst x hx y hy hne t hxt hyt
              · simp only [List.mem_singleton] at hy; subst hy
                exact hdst x hx t hyt hxt
            · simp only [List.mem_singleton] at hx; subst hx
              rcases List.mem_append.1 hy with hy | hy
              · exact hdst y hy t hxt hyt
              · simp only [List.mem_singleton] at hy; subst hy; exact hne rfl
          · intro x hx
            rcases List.mem_append.1 hx with hx | hx
            · obtain ⟨o', e1, e2, blk, e3, e4, e5, e6, e7⟩ := hs.facts x hx
              have hlt := (hidx x hx).2
              have he : appL (fun k => decide (k < x.1)) (rs ++ [(i, o.dst, d)]) F = appL (fun k => decide (k < x.1)) rs F := by
                rw [appL_append]
                have : decide (i < x.1) = false := by simp; omega
                simp [appL, this]
              exact ⟨o', e1, e2, blk, e3, e4, by simp only [he]; exact e5, by simp only [he]; exact e6, e7⟩
            · simp only [List.mem_singleton] at hx; subst hx
              have he : appL (fun k => decide (k < i)) (rs ++ [(i, o.dst, d)]) F = appL (fun _ => true) rs F := by
                rw [hall]
                have : decide (i < i) = false := by simp
                simp [appL]
              exact ⟨o, ho, rfl, blkOf b i, fun j hj => mem_blkOf.1 hj, fun j h1 h2 => mem_blkOf.2 ⟨h1, h2⟩, by simp only [he]; exact hp, by simp only [he]; exact hc1, hgF⟩
        have hfin : appL (fun _ => true) (rs ++ [(i, o.dst, d)]) F = set0 (appL (fun _ => true) rs F) o.dst d := by
          rw [appL_append]; simp [appL]
        refine drawC_stretch k (i + 1) (by omega) hs' ?_
        rw [hfin, blkOf_succ hs.le]; exact hd
      case pos =>
        rw [if_pos han] at hd
        refine ⟨i, rs, hs, by omega, .inr ⟨o, ho, han, ?_⟩⟩
        cases hw : wantedD ops (appL (fun _ => true) rs F) o with
        | none => simp [hw] at hd
        | some x =>
          refine ⟨x, rfl, ?_⟩
          rw [hw] at hd
          have hkk : k = ops.size - (i + 1) := by omega
          cases x with
          | true =>
            simp only at hd
            cases hc : opC E f V call (appL (fun _ => true) rs F) o with
            | none => simp [hc] at hd
            | some F1 =>
              simp only [hc] at hd
              exact ⟨F1, by simp, by rw [← hkk]; exact hd⟩
          | false => exact ⟨_, by simp; rfl, by rw [← hkk]; exact hd⟩
end Go.Own

namespace Go.Own
open D
def inL (listed : Array Bool) (i : Nat) : Bool := listed.getD i false
def ClosedL (ops : Array Oper) (listed : Array Bool) : Prop := ∀ i o, ops[i]? = some o → inL listed i = true → ∀ e ∈ o.after, Region.binds .any e = true → inL listed e.on = true
theorem reach_listed {ops : Array Oper} {listed : Array Bool} (hc : ClosedL ops listed) : ∀ (n j i : Nat) (o : Oper), ops[i]? = some o → (∀ e ∈ o.after, Region.binds .any e = true → inL listed e.on = true) → reach ops n j i = true → inL listed j = true
  | 0, j, i, o, _, _, h => by simp [reach] at h
  | n + 1, j, i, o, ho, hp, h => by
    simp only [reach, ho, List.any_eq_true] at h
    obtain ⟨ed, hk, h⟩ := h
    simp only [Bool.and_eq_true, Bool.or_eq_true, beq_iff_eq, decide_eq_true_eq] at h
    obtain ⟨⟨hb, _⟩, h⟩ := h
    have hin := hp ed (by simpa using hk) hb
    rcases h with h | ⟨_, h⟩
    · rw [← h]; exact hin
    · cases hq : ops[ed.on]? with
      | none => cases n <;> simp [reach, hq] at h
      | some o' => exact reach_listed hc n j _ o' hq (hc _ o' hq hin) h
theorem mem_ready {ops : Array Oper} {listed : Array Bool} (hsz : listed.size = ops.size) {i : Nat} : i ∈ Region.ready .any ops listed ↔ ∃ o, ops[i]? = some o ∧ inL listed i = false ∧ ∀ e ∈ o.after, Region.binds .any e = true → inL listed e.on = true := by
  unfold Region.ready
  simp only [List.mem_filter, List.mem_range, Bool.and_eq_true, Bool.not_eq_true']
  constructor
  · rintro ⟨hi, h1, h2⟩
    rw [Array.getElem?_eq_getElem hi] at h2
    simp only [Option.map_some, Option.getD_some, Array.all_eq_true, Bool.or_eq_true, Bool.not_eq_true'] at h2
    refine ⟨ops[i], Array.getElem?_eq_getElem hi, ?_, fun e he hb => ?_⟩
    · have hl : i < listed.size := by omega
      unfold inL
      simp only [Array.getD_eq_getD_getElem?, Array.getElem?_eq_getElem hl, Option.getD_some] at h1 ⊢
      exact h1
    · obtain ⟨k, hk, rfl⟩ := Array.getElem_of_mem he
      rcases h2 k hk with h3 | h3
      · rw [h3] at hb; cases hb
      · exact h3
  · rintro ⟨o, ho, h1, h2⟩
    have hi := (Array.getElem?_eq_some_iff.1 ho).1
    refine ⟨hi, ?_, ?_⟩
    · have hl : i < listed.size := by omega
      unfold inL at h1
      simp only [Array.getD_eq_getD_getElem?, Array.getElem?_eq_getElem hl, Option.getD_some] at h1 ⊢
      exact h1
    · rw [ho]
      simp only [Option.map_some, Option.getD_some, Array.all_eq_true, Bool.or_eq_true, Bool.not_eq_true']
      intro k hk
      by_cases hb : Region.binds .any o.after[k] = true
      · exact .inr (h2 _ (Array.getElem_mem hk) hb)
      · exact .inl (by simpa using hb)
theorem inL_set {listed : Array Bool} {i : Nat} (hi : i < listed.size) (k : Nat) : inL (listed.setIfInBounds i true) k = (inL listed k || k == i) := by
  unfold inL
  simp only [Array.getD_eq_getD_getElem?, Array.getElem?_setIfInBounds]
  by_cases h : i = k
  · subst h; simp [hi]
  · have : (k == i) = false := by simpa using Ne.symm h
    simp [h, this]
def left (ops : Array Oper) (listed : Array Bool) : Nat := ((List.range ops.size).filter fun i => !inL listed i).length
theorem left_set {ops : Array Oper} {listed : Array Bool} {i : Nat} (hs : listed.size = ops.size) (hi : i < ops.size) (hn : inL listed i = false) : left ops (listed.setIfInBounds i true) < left ops listed := by
  unfold left
  have : (fun k => !inL (listed.setIfInBounds i true) k) = fun k => (!inL listed k) && !(k == i) := by
    funext k; rw [inL_set (by omega)]; simp
  rw [this]
  rw [show ((List.range ops.size).filter fun k => (!inL listed k) && !(k == i)) = ((List.range ops.size).filter fun k => !inL listed k).filter fun k => !(k == i) by rw [List.filter_filter]; congr 1; funext k; rw [Bool.and_comm]]
  refine List.length_filter_lt_length_iff_exists.2 ⟨i, ?_, by simp⟩
  rw [List.mem_filter, List.mem_range]
  exact ⟨hi, by simp [hn]⟩
section
variable {n : Nat} {R : Nat → Value} {M : Mem} {G : FT} {H : Blks} {w0 : World} {B : List Nat}
theorem fin_free {F : Fr} {dst : Option Nat} {d : D} (h : ∀ t, dst = some t → get F t = .undef) : fin F dst d = set0 F dst d := by
  cases dst with
  | none => rfl
  | some t => simp only [fin, put, h t rfl, D.quiet, if_true, set0]
theorem act_ok {E : Env} {f : Nat} {V : List Nat} {call : Nat → List D → Option (D × List D)} (hcall : CallsOK E call) (hgd : Good E M) {ops : Array Oper} (hfit : OpsFit n ops) {Q : Exit → Act → World → Prop} {F F' : Fr} {a : Act} {w : World} (h : Post n R M B w0 F a w) {i : Nat} {o : Oper} (ho : ops[i]? = some o) {x : Bool} (hw : wantedD ops F o = some x)
    (hop : (if x then opC E f V call F o else some (fin F o.dst (.tup []))) = some F') {K : Act → World → Prop} (hK : ∀ a' w', Post n R M B w0 F' a' w' → K a' w') : wpOp E.P ops Q i K a w := by
  obtain ⟨M1, G1, h1, e1⟩ := h
  unfold wpOp
  simp only [ho]
  rw [wantedD_ok h1 hfit.guard hw]
  cases x with
  | true =>
    simp only [if_true] at hop ⊢
    exact .inl (opC_ok hcall (hgd.mono e1.memle) h1 (hfit i o ho) hop fun a' w' hp => hK _ _ (hp.trans e1))
  | false =>
    simp only [Bool.false_eq_true, if_false, Option.some.injEq] at hop ⊢
    subst hop
    exact hK _ _ ((finish_unit h1 o.dst (hfit i o ho).2 (Evo.refl M1 _ _)).trans e1)
theorem drawn_any {E : Env} {f : Nat} {V : List Nat} {call : Nat → List D → Option (D × List D)} (hcall : CallsOK E call) (hgd : Good E M) {ops : Array Oper} (hfit : OpsFit n ops) (hback : edgesBack ops = true) {Q : Exit → Act → World → Prop} {Fend : Fr} (hQ : ∀ a' w', Post n R M B w0 Fend a' w' → Q .normal a' w') :
    ∀ (fuel : Nat) {listed : Array Bool} {b : Nat} {F : Fr} {a : Act} {w : World} {e : Nat} {rs : Rs}, listed.size = ops.size → left ops listed ≤ fuel → ClosedL ops listed → b ≤ ops.size → (∀ i, i < b → inL listed i = true) →
      Stretch E f call ops F b e rs → e ≤ ops.size → (∀ i, inL listed i = true → i < e) →
      ((e = ops.size ∧ Fend = appL (fun _ => true) rs F) ∨
         ∃ o, ops[e]? = some o ∧ anchored ops e = true ∧ ∃ x, wantedD ops (appL (fun _ => true) rs F) o = some x ∧
           ∃ F', (if x then opC E f V call (appL (fun _ => true) rs F) o else some (fin (appL (fun _ => true) rs F) o.dst (.tup []))) = some F' ∧ drawC E f V call ops (List.range' (e + 1) (ops.size - (e + 1))) [] F' = some Fend) →
      Post n R M B w0 (appL (inL listed) rs F) a w → wpAny E.P .any ops Q fuel listed a w := by
  intro fuel
  induction fuel with
  | zero =>
    intro listed b F a w e rs hsz hleft hcl hb hlow hst he hhigh hend hpost
    have hall : ∀ i, i < ops.size → inL listed i = true := fun i hi => by
      cases hin : inL listed i with
      | true => rfl
      | false =>
        have : i ∈ (List.range ops.size).filter fun i => !inL listed i := by rw [List.mem_filter, List.mem_range]; exact ⟨hi, by simp [hin]⟩
        have h0 := List.length_pos_of_mem this
        unfold left at hleft
        omega
    have hee : e = ops.size := by
      by_cases hz : ops.size = 0
      · omega
      · have := hhigh (ops.size - 1) (hall _ (by omega))
        omega
    have hF : Fend = appL (inL listed) rs F := by
      rcases hend with ⟨_, h⟩ | ⟨o, ho, _⟩
      · rw [h]
        refine appL_congr fun x hx => ?_
        have : x.1 ∈ rs.map (·.1) := List.mem_map.2 ⟨x, hx, rfl⟩
        rw [hst.ind, List.mem_range'_1] at this
        exact (hall x.1 (by have := hst.le; omega)).symm
      · have := (Array.getElem?_eq_some_iff.1 ho).1
        omega
    refine ⟨?_, ?_⟩
    · rw [List.eq_nil_iff_forall_not_mem]
      intro i hi
      obtain ⟨o, ho, h1, _⟩ := (mem_ready hsz).1 hi
      rw [hall i (Array.getElem?_eq_some_iff.1 ho).1] at h1
      cases h1
    · rw [← hF] at hpost; exact hQ _ _ hpost
  | succ fuel ih =>
    intro listed b F a w e rs hsz hleft hcl hb hlow hst he hhigh hend hpost
    have hidx : ∀ x ∈ rs, b ≤ x.1 ∧ x.1 < e := fun x hx => by
      have : x.1 ∈ rs.map (·.1) := List.mem_map.2 ⟨x, hx, rfl⟩
      rw [hst.ind, List.mem_range'_1] at this
      have := hst.le
      omega
    have first : ∀ m, m < ops.size → inL listed m = false → (∀ i, i < m → inL listed i = true) → m ∈ Region.ready .any ops listed := fun m hm hn hlt => by
      rw [mem_ready hsz]
      refine ⟨ops[m], Array.getElem?_eq_getElem hm, hn, fun ed hed hbd => ?_⟩
      have hbk := List.all_eq_true.1 hback m (List.mem_range.2 hm)
      rw [Array.getElem?_eq_getElem hm] at hbk
      simp only [List.all_eq_true] at hbk
      have := hbk ed (by simpa using hed)
      simp only [hbd, Bool.not_true, Bool.false_or, decide_eq_true_eq] at this
      exact hlt _ this
    have full : (∀ i, i < e → inL listed i = true) → appL (inL listed) rs F = appL (fun _ => true) rs F := fun hh => appL_congr fun x hx => hh x.1 (hidx x hx).2
    constructor
    · intro hnil
      have hall : ∀ i, i < ops.size → inL listed i = true := by
        intro i
        induction i using Nat.strongRecOn with
        | ind i ihh =>
          intro hi
          cases hin : inL listed i with
          | true => rfl
          | false =>
            have := first i hi hin (fun k hk => ihh k hk (by omega))
            rw [hnil] at this; cases this
      have hee : e = ops.size := by
        by_cases hz : ops.size = 0
        · omega
        · have := hhigh (ops.size - 1) (hall _ (by omega))
          omega
      rcases hend with ⟨_, h⟩ | ⟨o, ho, _⟩
      · rw [full (fun i hi => hall i (by omega)), ← h] at hpost
        exact hQ _ _ hpost
      · have := (Array.getElem?_eq_some_iff.1 ho).1
        omega
    · intro i hi
      obtain ⟨o, ho, hni, hpre⟩ := (mem_ready hsz).1 hi
      have hio := (Array.getElem?_eq_some_iff.1 ho).1
      have hbi : b ≤ i := by
        rcases Nat.lt_or_ge i b with h | h
        · rw [hlow i h] at hni; cases hni
        · exact h
      have hsz' : (listed.setIfInBounds i true).size = ops.size := by simpa using hsz
      have hcl' : ClosedL ops (listed.setIfInBounds i true) := by
        intro k ok hk hkin ed hed hbd
        rw [inL_set (by omega)] at hkin ⊢
        simp only [Bool.or_eq_true, beq_iff_eq] at hkin ⊢
        rcases hkin with hkin | rfl
        · exact .inl (hcl k ok hk hkin ed hed hbd)
        · rw [ho] at hk; cases hk
          exact .inl (hpre ed hed hbd)
      have hleft' : left ops (listed.setIfInBounds i true) ≤ fuel := by
        have := left_set hsz hio hni
        omega
      by_cases hie : i < e
      ·
        have hmem : i ∈ rs.map (·.1) := by rw [hst.ind, List.mem_range'_1]; have := hst.le; omega
        obtain ⟨x, hx, hx1⟩ := List.mem_map.1 hmem
        obtain ⟨i', t, d⟩ := x
        simp only at hx1
        subst hx1
        obtain ⟨o', ho', hdst, blk, hb1, hb2, hp, hsee, hfree⟩ := hst.facts _ hx
        simp only at ho' hdst hp hsee hb1 hb2
        rw [ho] at ho'; cases ho'
        subst hdst
        have hless : Less (maskF (hiddenOf ops blk i') (appL (fun k => decide (k < i')) rs F)) (appL (inL listed) rs F) := by
          intro s
          rw [get_maskF]
          by_cases hh : (hiddenOf ops blk i').contains s = true
          · left; simp only [hh, if_true]; rfl
          · simp only [hh, Bool.false_eq_true, if_false]
            by_cases hex : ∃ y ∈ rs, y.2.1 = some s
            · obtain ⟨⟨j, tj, dj⟩, hy, hys⟩ := hex
              simp only at hys
              subst hys
              by_cases hji : j < i'
              · have hbj := (hidx _ hy).1
                simp only at hbj
                have hr : reach ops ops.size j i' = true := by
                  cases hr : reach ops ops.size j i' with
                  | true => rfl
                  | false =>
                    exfalso
                    apply hh
                    rw [List.contains_iff_mem]
                    unfold hiddenOf
                    rw [List.mem_filterMap]
                    refine ⟨j, ?_, ?_⟩
                    · rw [List.mem_filter]; exact ⟨hb2 j hbj hji, by simp [hr]⟩
                    · obtain ⟨oj, hoj, hdj, _⟩ := hst.facts _ hy
                      simp only at hoj hdj
                      simp [hoj, hdj]
                have hLj : inL listed j = true := reach_listed hcl ops.size j i' o ho hpre hr
                right
                rw [appL_get_same hst.ok hy hLj, appL_get_same hst.ok hy (by simpa using hji)]
              · left
                have : get (appL (fun k => decide (k < i')) rs F) s = get F s := appL_get_other (fun y' hy' hs' => by
                  by_cases hjj : y'.1 = j
                  · rw [hjj]; simpa using hji
                  · exact absurd hs' (hst.ok.dst (j, some s, dj) hy y' hy' (fun h => hjj h.symm) s rfl))
                rw [this]
                obtain ⟨oj, hoj, hdj, _, _, _, _, _, hfj⟩ := hst.facts _ hy
                simp only at hdj
                rw [hfj s hdj]; rfl
            · right
              have hno : ∀ y ∈ rs, y.2.1 ≠ some s := fun y hy hs => hex ⟨y, hy, hs⟩
              rw [appL_get_other (fun y hy hs => absurd hs (hno y hy)), appL_get_other (fun y hy hs => absurd hs (hno y hy))]
        have hpc := pureC_mono hless hsee hp
        have hfr : ∀ s, o.dst = some s → get (appL (inL listed) rs F) s = .undef := fun s hs => by
          rw [appL_get_other (fun y hy hys => by
            by_cases hjj : y.1 = i'
            · rw [hjj]; exact hni
            · exact absurd hys (hst.ok.dst (i', o.dst, d) hx y hy (fun h => hjj h.symm) s hs))]
          exact hfree s hs
        unfold pureC at hpc
        have hwx : ∃ xb, wantedD ops (appL (inL listed) rs F) o = some xb ∧ (if xb then opC E f V call (appL (inL listed) rs F) o else some (fin (appL (inL listed) rs F) o.dst (.tup []))) = some (set0 (appL (inL listed) rs F) o.dst d) := by
          split at hpc
          · rename_i hwt
            refine ⟨true, hwt, ?_⟩
            simp only [if_true]
            rw [valC_opC hpc, fin_free hfr]
          · rename_i hwt
            refine ⟨false, hwt, ?_⟩
            simp only [Option.some.injEq] at hpc; subst hpc
            simp only [Bool.false_eq_true, if_false, fin_free hfr]
          · cases hpc
        obtain ⟨xb, hw, hop⟩ := hwx
        refine act_ok hcall hgd hfit hpost ho hw hop fun a' w' hp' => ?_
        refine ih hsz' hleft' hcl' hb (fun k hk => by rw [inL_set (by omega), hlow k hk]; rfl) hst he (fun k hk => ?_) hend ?_
        · rw [inL_set (by omega)] at hk
          simp only [Bool.or_eq_true, beq_iff_eq] at hk
          rcases hk with hk | rfl
          · exact hhigh k hk
          · exact hie
        · have : appL (inL (listed.setIfInBounds i' true)) rs F = appL (fun k => inL listed k || k == i') rs F := appL_congr fun y _ => inL_set (listed := listed) (i := i') (by omega) y.1
          rw [this, appL_put hst.ok hx hni]
          exact hp'
      ·
        rcases hend with ⟨hee, _⟩ | ⟨oe, hoe, han, xb, hw, F', hop, hrest⟩
        · omega
        · have hsize := (Array.getElem?_eq_some_iff.1 hoe).1
          have hanc := List.all_eq_true.1 han
          have hie' : i = e := by
            rcases Nat.lt_or_ge e i with hlt | hge
            · have := hanc i (List.mem_range.2 hio)
              rw [if_neg (by omega), if_pos hlt] at this
              have hin := reach_listed hcl ops.size e i o ho hpre this
              have := hhigh e hin
              omega
            · omega
          subst hie'
          rw [ho] at hoe; cases hoe
          have hallb : ∀ k, k < i → inL listed k = true := fun k hk => by
            have := hanc k (List.mem_range.2 (by omega))
            rw [if_pos hk] at this
            exact reach_listed hcl ops.size k i o ho hpre this
          rw [full hallb] at hpost
          refine act_ok hcall hgd hfit hpost ho hw hop fun a' w' hp' => ?_
          have hlow' : ∀ k, k < i + 1 → inL (listed.setIfInBounds i true) k = true := fun k hk => by
            rw [inL_set (by omega)]
            rcases Nat.lt_or_ge k i with h | h
            · rw [hallb k h]; rfl
            · have : k = i := by omega
              simp [this]
          obtain ⟨e2, rs2, hst2, he2, hend2⟩ := drawC_stretch (E := E) (f := f) (V := V) (call := call) (ops := ops) (F := F') (b := i + 1) (ops.size - (i + 1)) (i + 1) (rs := []) (by omega) ⟨Nat.le_refl _, by simp, ⟨by simp, by simp, by simp⟩, by simp⟩ (by simpa [blkOf, appL] using hrest)
          refine ih hsz' hleft' hcl' (by omega) hlow' hst2 he2 (fun k hk => ?_) hend2 ?_
          · rw [inL_set (by omega)] at hk
            simp only [Bool.or_eq_true, beq_iff_eq] at hk
            have := hst2.le
            rcases hk with hk | rfl
            · have := hhigh k hk; omega
            · omega
          · have : appL (inL (listed.setIfInBounds i true)) rs2 F' = F' := by
              have hnone : ∀ {rs : Rs} {F : Fr}, (∀ y ∈ rs, inL (listed.setIfInBounds i true) y.1 = false) → appL (inL (listed.setIfInBounds i true)) rs F = F := by
                intro rs
                induction rs with
                | nil => intro F _; rfl
                | cons y rs ihh =>
                  obtain ⟨k, t, d⟩ := y
                  intro F hy
                  simp only [appL, hy (k, t, d) (by simp), Bool.false_eq_true, if_false]
                  exact ihh fun y hy' => hy y (by simp [hy'])
              refine hnone fun y hy => ?_
              have : y.1 ∈ rs2.map (·.1) := List.mem_map.2 ⟨y, hy, rfl⟩
              rw [hst2.ind, List.mem_range'_1] at this
              rw [inL_set (listed := listed) (i := i) (by omega)]
              cases hin : inL listed y.1 with
              | true => have := hhigh y.1 hin; omega
              | false => simp; omega
            rw [this]; exact hp'
theorem fresh_ok : ∀ (l : List Oper) {F : Fr} {a : Act} {w : World}, (∀ o ∈ l, ∀ t, o.dst = some t → t < n) → Post n R M B w0 F a w → Post n R M B w0 (freshC F l) a w
  | [], _, _, _, _, h => h
  | o :: l, F, a, w, hl, h => by
    have one : ∀ t, t < n → Post n R M B w0 (put F t .undef) a w := fun t ht => by
      obtain ⟨M1, G1, h1, e1⟩ := h
      have hlt : t < a.tmps.size := by rw [h1.size]; exact ht
      have hb : (T.leaf .undef (a.tmps[t])).blocks = [] := by simp [T.blocks]
      have := finish (M := M1) (w := w) (B := keys (blocksF G1)) (t := .leaf .undef a.tmps[t]) (by rw [hb]; exact h1) (by simp [T.tidy]) (by simp [SlotOK, LOK, L1]) (some t) (fun d hd => by cases hd; exact ht) (by rw [hb]; simpa using Evo.refl M1 _ w)
      have he : a.put (some t) a.tmps[t] = a := by
        unfold Act.put
        have : a.tmps.setIfInBounds t a.tmps[t] = a.tmps := by
          apply Array.ext'
          rw [Array.toList_setIfInBounds]
          exact set_self (by rw [Array.getElem?_toList, Array.getElem?_eq_getElem hlt])
        show ({ a with tmps := a.tmps.setIfInBounds t a.tmps[t] } : Act) = a
        rw [this]
      simp only [T.erase, T.val, he, fin] at this
      exact this.trans e1
    simp only [freshC]
    split
    · rename_i t _ _
      have ht : o.dst = some t := by assumption
      cases isUndef (get F t) with
      | true => exact fresh_ok l (fun o ho => hl o (by simp [ho])) (one t (hl o (by simp) t ht))
      | false => exact fresh_ok l (fun o ho => hl o (by simp [ho])) h
    · exact fresh_ok l (fun o ho => hl o (by simp [ho])) h
    · rename_i t _ _
      have ht : o.dst = some t := by assumption
      exact fresh_ok l (fun o ho => hl o (by simp [ho])) (one t (hl o (by simp) t ht))
    · exact fresh_ok l (fun o ho => hl o (by simp [ho])) h
theorem region_drawn {E : Env} {f : Nat} {V : List Nat} {call : Nat → List D → Option (D × List D)} (hcall : CallsOK E call) (hgd : Good E M) (hm : E.P.follows .mixedOrders = true) {ops : Array Oper} (hfit : OpsFit n ops) {Q : Exit → Act → World → Prop} {id : Nat} {F Fend : Fr} {a : Act} {w : World} (h : Post n R M B w0 F a w)
    (hback : edgesBack ops = true) (hd : drawC E f V call ops (List.range ops.size) [] (freshC F ops.toList) = some Fend) (hQ : ∀ a' w', Post n R M B w0 Fend a' w' → Q .normal a' w') : (Code.region id ops true).wp E.P Q a w := by
  refine wp_region_any hm ?_
  have h2 : Post n R M B w0 (freshC F ops.toList) a { w with drawn := w.drawn + 1 } := by
    obtain ⟨M1, G1, h1, e1⟩ := fresh_ok ops.toList (fun o ho t ht => by
      obtain ⟨i, hi, rfl⟩ := List.getElem_of_mem ho
      exact (hfit i _ (by rw [Array.getElem?_eq_getElem (by simpa using hi)]; simp)).2 t ht) h
    exact ⟨M1, G1, h1.heapEq rfl, e1.heapEq rfl rfl rfl rfl⟩
  obtain ⟨e, rs, hst, he, hend⟩ := drawC_stretch (E := E) (f := f) (V := V) (call := call) (ops := ops) (F := freshC F ops.toList) (b := 0) ops.size 0 (rs := []) (by omega) ⟨Nat.le_refl _, by simp, ⟨by simp, by simp, by simp⟩, by simp⟩ (by simpa [blkOf, appL, List.range_eq_range'] using hd)
  have hrep : ∀ i, inL (Array.replicate ops.size false) i = false := fun i => by
    unfold inL
    simp only [Array.getD_eq_getD_getElem?, Array.getElem?_replicate]
    split <;> rfl
  refine drawn_any hcall hgd hfit hback hQ ops.size (b := 0) (by simp) ?_ (fun i o _ hi => by rw [hrep] at hi; cases hi) (Nat.zero_le _) (fun i hi => by omega) hst he (fun i hi => by rw [hrep] at hi; cases hi) hend ?_
  · unfold left
    have := List.length_filter_le (fun i => !inL (Array.replicate ops.size false) i) (List.range ops.size)
    simpa using this
  · have : appL (inL (Array.replicate ops.size false)) rs (freshC F ops.toList) = freshC F ops.toList := by
      generalize freshC F ops.toList = F0
      clear hst hend
      induction rs generalizing F0 with
      | nil => rfl
      | cons y rs ih => obtain ⟨k, t, d⟩ := y; simp only [appL, hrep k, Bool.false_eq_true, if_false]; exact ih F0
    rw [this]; exact h2
end
end Go.Own
