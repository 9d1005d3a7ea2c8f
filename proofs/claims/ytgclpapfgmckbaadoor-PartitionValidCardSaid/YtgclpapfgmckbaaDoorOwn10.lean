/- An interpreter of function bodies without memory, proved sound for the model. No conditions. -/
import Derived.Orders
import Derived.Test.YtgclpapfgmckbaaDoorOwn9
import Derived.Test.YtgclpapfgmckbaaDoorOwn2
set_option linter.all false

namespace Go.Own
open D
section
variable {n : Nat} {R : Nat → Value} {M : Mem} {F F' : Fr} {G : FT} {H : Blks} {a : Act} {w w0 : World} {B : List Nat}
theorem Post.trans {M1 : Mem} {B1 : List Nat} {w1 : World} (e : Evo M B w0 M1 B1 w1) (h : Post n R M1 B1 w1 F' a w) : Post n R M B w0 F' a w := by
  obtain ⟨M2, G2, h1, h2⟩ := h
  exact ⟨M2, G2, h1, e.trans h2⟩
theorem Inv.slot_lit (h : Inv n R M F G H a w) {t : Nat} (ht : t < n) {d : D} (hg : Own.get F t = d) (hd : d ≠ .undef) : a.tmps[t]? = some (getT G t).val := by
  rw [h.get] at hg
  have hne : getT G t ≠ noT := by intro hz; rw [hz] at hg; simp [noT, T.erase] at hg; exact hd hg.symm
  have := h.vals t _ (found_of_ne hne)
  rwa [if_pos ht] at this
theorem wantedD_ok (h : Inv n R M F G H a w) {ops : Array Oper} {o : Oper} (hfit : ∀ j b t, o.guard = some (j, b) → (ops[j]?).bind (·.dst) = some t → t < n) {x : Bool} (hw : wantedD ops F o = some x) : Region.wanted o (yielded ops a.tmps) = x := by
  unfold wantedD at hw
  unfold Region.wanted
  split at hw
  · rename_i hg
    simp only [Option.some.injEq] at hw; subst hw
    simp [hg]
  · rename_i j b hg
    simp only [hg]
    split at hw
    · rename_i t ht
      have htn := hfit j b t hg ht
      have hy : yielded ops a.tmps j = (match a.tmps[t]? with | some (.bool b) => some b | _ => none) := by
        unfold yielded; rw [ht]; rfl
      have hval : ∀ d, Own.get F t = d → d ≠ .undef → a.tmps[t]? = some (getT G t).val := fun d => h.slot_lit htn
      split at hw
      · rename_i b' hgt
        simp only [Option.some.injEq] at hw; subst hw
        have hv := hval _ hgt (by simp)
        have e := erase_leaf_of (d := .lit (.bool b')) (by rw [← h.get]; exact hgt) rfl (by simp) (by simp)
        have hok := h.okG t
        rw [e] at hok
        have hvv : (getT G t).val = .bool b' := by
          have : RI M (.lit (.bool b')) (getT G t).val := hok
          simp only [RI] at this; exact this.1
        rw [hy, hv, hvv]
        cases b <;> cases b' <;> rfl
      · rename_i ds hgt
        simp only [Option.some.injEq] at hw; subst hw
        have hv := hval _ hgt (by simp)
        rw [h.get] at hgt
        have : ∃ ts, getT G t = .tup ts := by
          cases ht' : getT G t with
          | tup ts => exact ⟨ts, rfl⟩
          | leaf d v =>
            have htd := h.tidyG t
            rw [ht'] at hgt htd; simp only [T.erase] at hgt; subst hgt; simp [T.tidy] at htd
          | _ => rw [ht'] at hgt; simp [T.erase] at hgt
        obtain ⟨ts, hts⟩ := this
        rw [hy, hv, hts]
        rfl
      · rename_i v hnb hgt
        simp only [Option.some.injEq] at hw; subst hw
        have hv := hval _ hgt (by simp)
        have e := erase_leaf_of (d := .lit v) (by rw [← h.get]; exact hgt) rfl (by simp) (by simp)
        have hok := h.okG t
        rw [e] at hok
        have hvv : (getT G t).val = v := by
          have : RI M (.lit v) (getT G t).val := hok
          simp only [RI] at this; exact this.1
        rw [hy, hv, hvv]
        cases v <;> first | rfl | (exfalso; exact hnb _ rfl)
      · cases hw
    · rename_i ht
      simp only [Option.some.injEq] at hw; subst hw
      have : yielded ops a.tmps j = none := by unfold yielded; rw [ht]; rfl
      rw [this]; rfl
def OpsFit (n : Nat) (ops : Array Oper) : Prop := ∀ (i : Nat) (o : Oper), ops[i]? = some o → OpFits n o
theorem OpsFit.guard {ops : Array Oper} (h : OpsFit n ops) {o : Oper} : ∀ j b t, o.guard = some (j, b) → (ops[j]?).bind (·.dst) = some t → t < n := fun j b t _ ht => by
  simp only [Option.bind_eq_some_iff] at ht
  obtain ⟨o', ho', hd⟩ := ht
  exact (h j o' ho').2 t hd
theorem ops_ok {E : Env} {f : Nat} {V : List Nat} {call : Nat → List D → Option (D × List D)} (hcall : CallsOK E call) (hgd : Good E M) {ops : Array Oper} (hfit : OpsFit n ops) {Q : Exit → Act → World → Prop} : ∀ (l : List Nat) {F : Fr} {a : Act} {w : World}, Post n R M B w0 F a w → opsC E f V call ops l F = some F' →
    (∀ a' w', Post n R M B w0 F' a' w' → Q .normal a' w') → wpOps E.P ops Q l a w
  | [], F, a, w, h, hop, hQ => by
    simp only [opsC, Option.some.injEq] at hop; subst hop
    exact hQ _ _ h
  | i :: l, F, a, w, h, hop, hQ => by
    simp only [opsC] at hop
    rw [wpOps_cons]
    unfold wpOp
    cases ho : ops[i]? with
    | none => simp only [ho] at hop ⊢; exact ops_ok hcall hgd hfit l h hop hQ
    | some o =>
      simp only [ho] at hop ⊢
      obtain ⟨M1, G1, h1, e1⟩ := h
      cases hw : wantedD ops F o with
      | none => simp [hw] at hop
      | some x =>
        rw [wantedD_ok h1 hfit.guard hw]
        cases x with
        | true =>
          simp only [hw] at hop
          cases hc : opC E f V call F o with
          | none => simp [hc] at hop
          | some F1 =>
            simp only [hc] at hop
            simp only [if_true]
            exact .inl (opC_ok hcall (hgd.mono e1.memle) h1 (hfit i o ho) hc fun a' w' hp => ops_ok hcall hgd hfit l (hp.trans e1) hop hQ)
        | false =>
          simp only [hw] at hop
          simp only [Bool.false_eq_true, if_false]
          exact ops_ok hcall hgd hfit l ((finish_unit h1 o.dst (hfit i o ho).2 (Evo.refl M1 _ w)).trans e1) hop hQ
theorem flatMap_congr' {α β : Type} {l : List α} {f g : α → List β} (h : ∀ x ∈ l, f x = g x) : l.flatMap f = l.flatMap g := by
  rw [List.flatMap_def, List.flatMap_def, List.map_congr_left h]
def slotT (G : FT) (a : Act) (n : Nat) (R : Nat → Value) (s : Nat) : T := match findT G s with
  | some t => t
  | none => .leaf .undef (if s < n then a.tmps.getD s undef else R s)
theorem slotT_blocks (G : FT) (a : Act) (n : Nat) (R : Nat → Value) (s : Nat) : (slotT G a n R s).blocks = (getT G s).blocks := by
  unfold slotT getT
  cases findT G s <;> simp [noT, T.blocks]
theorem slotT_erase (G : FT) (a : Act) (n : Nat) (R : Nat → Value) (s : Nat) : (slotT G a n R s).erase = (getT G s).erase := by
  unfold slotT getT
  cases findT G s <;> simp [noT, T.erase]
theorem slots_blocks : ∀ (V : List Nat) (G : FT), V.Nodup → ∃ rest, (V.flatMap (fun s => (getT G s).blocks) ++ rest).Perm (blocksF G)
  | [], G, _ => ⟨blocksF G, by simp⟩
  | s :: V, G, hV => by
    obtain ⟨r, p1, p2⟩ := blocksF_put0 G s
    have hq := p2 noT
    obtain ⟨rest, p3⟩ := slots_blocks V (put0T G s noT) (List.nodup_cons.1 hV).2
    have he : V.flatMap (fun s => (getT G s).blocks) = V.flatMap (fun s' => (getT (put0T G s noT) s').blocks) := by
      refine flatMap_congr' fun s' hs' => ?_
      rw [getT_put0_other G noT]
      rintro rfl
      exact (List.nodup_cons.1 hV).1 hs'
    refine ⟨rest, ?_⟩
    simp only [List.flatMap_cons, List.append_assoc]
    refine List.Perm.trans (List.Perm.append_left _ ?_) p1
    rw [he]
    refine p3.trans (hq.symm.trans ?_)
    simp [noT, T.blocks]
theorem findT_mapV (g : Nat → T) (V : List Nat) (s : Nat) : findT (V.map fun s => (s, g s)) s = if s ∈ V then some (g s) else none := by
  induction V with
  | nil => simp [findT]
  | cons x V ih =>
    simp only [List.map_cons, findT, List.mem_cons]
    by_cases h : x = s
    · subst h; simp
    · simp only [h, if_false, ih]
      by_cases hs : s ∈ V
      · simp [hs]
      · simp [hs, Ne.symm h]
theorem norm_ok (h : Inv n R M F G [] a w) {V : List Nat} (hV : V.Nodup) : ∃ G', Inv n R M (norm V F) G' [] a w ∧ ∀ g ∈ keys (blocksF G'), g ∈ keys (blocksF G) := by
  let G0 : FT := V.map fun s => (s, slotT G a n R s)
  have hf0 : ∀ s, findT G0 s = if s ∈ V then some (slotT G a n R s) else none := findT_mapV _ V
  have hk : Keeps G G0 (outside V) := by
    intro s p x hx hn
    have hcase : ∀ b, outside V b s p = false → (getT G0 s).getP p = some x := fun b hb => by
      have hs : s ∈ V := by simpa [outside] using hb
      have hf := findT_of_getP hx hn
      have : getT G0 s = getT G s := by
        unfold getT
        rw [hf0 s, if_pos hs]
        simp only [slotT, hf]
      rw [this]; exact hx
    exact ⟨fun hb => ⟨x, hcase _ hb, hn, rfl⟩, fun hb => ⟨x, hcase _ hb, T.like_refl hn⟩⟩
  have hk' := keeps_killT hk
  have hb0 : blocksF G0 = V.flatMap fun s => (getT G s).blocks := by
    simp only [blocksF, G0, List.flatMap_map]
    exact flatMap_congr' fun s _ => slotT_blocks G a n R s
  obtain ⟨rest, hp⟩ := slots_blocks V G hV
  have hslot : ∀ s, (slotT G a n R s).tidy ∧ SlotOK M G (slotT G a n R s) ∧ (if s < n then a.tmps[s]? = some (slotT G a n R s).val else R s = (slotT G a n R s).val) := fun s => by
    unfold slotT
    cases hf : findT G s with
    | some t => exact ⟨h.tidy s t hf, h.ok s t hf, h.vals s t hf⟩
    | none =>
      refine ⟨by simp [T.tidy], by simp [SlotOK, LOK, L1], ?_⟩
      split
      · rename_i hs
        have : s < a.tmps.size := by rw [h.size]; exact hs
        simp [T.val, hs, Array.getD_eq_getD_getElem?, Array.getElem?_eq_getElem this]
      · rename_i hs; simp [T.val, hs]
  refine ⟨killT (outside V) G0, ?_, ?_⟩
  · constructor
    · rw [erase_killT]
      simp only [norm, eraseF, G0, List.map_map, killF]
      refine List.map_congr_left fun s _ => ?_
      simp only [Function.comp, slotT_erase, h.get]
    · exact h.size
    · exact h.defers
    · intro s t hf
      rw [findT_killT, hf0] at hf
      split at hf
      · simp only [Option.map_some, Option.some.injEq] at hf; subst hf
        rw [T.val_kill2]; exact (hslot s).2.2
      · cases hf
    · intro s t hf
      rw [findT_killT, hf0] at hf
      split at hf
      · simp only [Option.map_some, Option.some.injEq] at hf; subst hf
        exact T.tidy_kill2 _ _ (hslot s).1
      · cases hf
    · intro s t hf
      rw [findT_killT, hf0] at hf
      split at hf
      · simp only [Option.map_some, Option.some.injEq] at hf; subst hf
        exact SlotOK_kill (Mem.le_refl M) hk' (hslot s).2.1
      · cases hf
    · rw [blocksF_killT, hb0, List.append_nil]
      have := h.blk
      rw [List.append_nil] at this
      exact this.sub_perm hp
    · exact h.mem
  · intro g hg
    rw [blocksF_killT, hb0] at hg
    exact (hp.map Prod.fst).mem_iff.1 (by rw [List.map_append]; exact List.mem_append_left _ hg)
theorem Post.norm (h : Post n R M B w0 F a w) {V : List Nat} (hV : V.Nodup) : Post n R M B w0 (norm V F) a w := by
  obtain ⟨M1, G1, h1, e1⟩ := h
  obtain ⟨G2, h2, e2⟩ := norm_ok h1 hV
  exact ⟨M1, G2, h2, e1.weaken e2⟩
end
end Go.Own

namespace Go.Own
open D
theorem pure1_take {F : Fr} {c : D} (h : pure1 c = true) : takeCell F c = some (c, F) ∧ c.ex1 = false := by
  cases c <;> simp [pure1] at h <;> simp [takeCell, D.ex1]
theorem takeCells_pure {F : Fr} {t : Nat} {cs : List D} (hg : Own.get F t = .agg cs) (hc : cs.all pure1 = true) : ∀ (k o : Nat), o + k ≤ cs.length → takeCells F t o k = some ((cs.drop o).take k, F)
  | 0, o, _ => by simp [takeCells]
  | k + 1, o, h => by
    have ho : o < cs.length := by omega
    have hp := (pure1_take (F := F) (List.all_eq_true.1 hc _ (List.getElem_mem ho))).1
    simp only [takeCells, hg, List.getElem?_eq_getElem ho, hp, takeCells_pure hg hc k (o + 1) (by omega)]
    rw [List.drop_eq_getElem_cons ho, List.take_succ_cons]
theorem givenC_take {E : Env} {F : Fr} {x : Operand} {d : D} (h : givenC E F x = some d) : takeOp E F x = some (d, F) := by
  cases x with
  | tmp t =>
    simp only [givenC] at h
    simp only [takeOp]
    split at h
    · rename_i v hg; simp only [Option.some.injEq] at h; subst h; simp [hg, takeSlot]
    · rename_i v hg; simp only [Option.some.injEq] at h; subst h; simp [hg, takeSlot]
    · rename_i v hg; simp only [Option.some.injEq] at h; subst h; simp [hg, takeSlot]
    · rename_i f cs hg
      split at h
      · cases h
      · rename_i hb
        simp only [Option.some.injEq] at h; subst h
        simp only [hg, takeSlot]
        rw [if_neg hb]
    · rename_i cs hg
      split at h
      · rename_i hp
        simp only [Option.some.injEq] at h; subst h
        have hex : cs.any ex1 = false := by
          rw [List.any_eq_false]
          intro c hc
          have := (pure1_take (F := F) (List.all_eq_true.1 hp c hc)).2
          simp [this]
        simp only [hg, takeSlot, hex, Bool.false_eq_true, if_false, takeCells_pure hg hp cs.length 0 (by omega)]
        simp
      · cases h
    · rename_i s ps hg
      split at h
      · rename_i es ha; simp only [Option.some.injEq] at h; subst h; simp [hg, takeSlot, takeAt, ha, D.ex1]
      · rename_i es ha; simp only [Option.some.injEq] at h; subst h; simp [hg, takeSlot, takeAt, ha, D.ex1]
      · cases h
    · cases h
  | const v =>
    simp only [givenC] at h
    simp only [takeOp]
    split at h
    · rename_i hc; simp only [Option.some.injEq] at h; subst h; simp [hc]
    · cases h
  | func f => simp only [givenC, Option.some.injEq] at h; subst h; rfl
  | global g => simp [givenC] at h
theorem givenParts_take {E : Env} {F : Fr} : ∀ {ps : List (Nat × Operand)} {ds : List (Nat × D)}, givenParts E F ps = some ds → takeParts E F ps = some (ds, F)
  | [], ds, h => by simp only [givenParts, Option.some.injEq] at h; subst h; rfl
  | (i, x) :: ps, ds, h => by
    simp only [givenParts] at h
    split at h
    · rename_i d ds' h1 h2
      simp only [Option.some.injEq] at h; subst h
      simp only [takeParts, givenC_take h1, givenParts_take h2]
    · cases h
theorem snapOnly_spec {E : Env} {f n : Nat} (h : snapOnly E f n = true) : ∀ i, i < n → E.mode f i = .snap := fun i hi => by
  have := List.all_eq_true.1 h i (List.mem_range.2 hi)
  simpa using this
theorem passMoves_snap {E : Env} {f : Nat} {F : Fr} : ∀ (bs : List Arg) (i : Nat), (∀ k, k < bs.length → E.mode f (i + k) = .snap) → passMoves E f i F bs = some (bs.map fun _ => none, F)
  | [], _, _ => rfl
  | b :: bs, i, h => by
    have h0 : E.mode f i = .snap := h 0 (by simp)
    have ih := passMoves_snap (F := F) bs (i + 1) (fun k hk => by have := h (k + 1) (by simpa using hk); rwa [show i + 1 + k = i + (k + 1) by omega])
    simp only [passMoves, h0, ih, List.map_cons]
theorem lentFrom_snap {E : Env} {f : Nat} {F : Fr} {c : Operand} : ∀ (bs : List Arg) (i : Nat), (∀ k, k < bs.length → E.mode f (i + k) = .snap) → lentFrom E f F c i bs = some none
  | [], _, _ => rfl
  | b :: bs, i, h => by
    have h0 : E.mode f i = .snap := h 0 (by simp)
    have ih := lentFrom_snap (F := F) (c := c) bs (i + 1) (fun k hk => by have := h (k + 1) (by simpa using hk); rwa [show i + 1 + k = i + (k + 1) by omega])
    simp only [lentFrom, h0, ih]
theorem frz1_imm {F : Fr} {d : D} (h : imm1 F d = true) : frz1 F d = some F := by
  cases d with
  | alias s ps =>
    simp only [imm1] at h
    split at h
    · rename_i ha; simp [frz1, frzAt, ha, D.ex1, D.node1]
    · rename_i ha; simp [frz1, frzAt, ha, D.ex1, D.node1]
    · cases h
  | sub s ps i k =>
    simp only [imm1] at h
    split at h
    · rename_i ha; simp [frz1, frzAt, ha, D.ex1, D.node1]
    · rename_i ha; simp [frz1, frzAt, ha, D.ex1, D.node1]
    · cases h
  | place => simp [imm1] at h
  | _ => rfl
theorem frzs_imm {F : Fr} : ∀ {cs : List D}, cs.all (imm1 F) = true → frzs F cs = some F
  | [], _ => rfl
  | c :: cs, h => by
    simp only [List.all_cons, Bool.and_eq_true] at h
    simp only [frzs, frz1_imm h.1, frzs_imm h.2]
theorem frzAll_imm {F : Fr} : ∀ {ds : List D}, ds.all (immD F) = true → frzAll F ds = some F
  | [], _ => rfl
  | d :: ds, h => by
    simp only [List.all_cons, Bool.and_eq_true] at h
    have : frzD F d = some F := by
      have h1 := h.1
      have one : ∀ c, immD F c = imm1 F c → frzD F c = frz1 F c → immD F c = true → frzD F c = some F := fun c e1 e2 hh => by
        rw [e2]; exact frz1_imm (by rw [← e1]; exact hh)
      cases d with
      | agg cs => exact frzs_imm h1
      | fn f cs => exact frzs_imm h1
      | _ => exact one _ rfl rfl h1
    simp only [frzAll, this, frzAll_imm h.2]
theorem valC_opC {E : Env} {f : Nat} {V : List Nat} {call : Nat → List D → Option (D × List D)} {F : Fr} {o : Oper} {d : D} (h : valC E f call F o = some d) : opC E f V call F o = some (fin F o.dst d) := by
  unfold valC at h
  unfold opC
  cases hq : o.op with
  | move x =>
    rw [hq] at h
    simp only at h ⊢
    unfold moveC
    cases x with
    | tmp t =>
      simp only at h ⊢
      split at h
      · cases h
      · rename_i hnt
        split
        · rename_i ds hg; exact absurd hg (hnt ds)
        · rw [h]; rfl
    | _ => simp only at h ⊢; rw [h]; rfl
  | assign x =>
    rw [hq] at h
    simp only at h ⊢
    cases x with
    | tmp t =>
      simp only at h
      split at h
      · rename_i v hg
        simp only [Option.some.injEq] at h
        subst h
        simp [assignC, hg, D.excl, takeOp, takeSlot]
      · rename_i es hg
        simp only [Option.some.injEq] at h
        subst h
        simp [assignC, hg, D.excl, takeOp, takeSlot]
      · cases h
    | const v =>
      simp only at h
      split at h
      · rename_i hv
        simp only [Option.some.injEq] at h
        subst h
        simp [assignC, takeOp, hv]
      · cases h
    | func g => cases h
    | global g => cases h
  | pick c x y =>
    rw [hq] at h
    simp only at h ⊢
    cases ho : opd E F c with
    | none => simp [ho] at h
    | some dc =>
      simp only [ho] at h ⊢
      split at h
      · rename_i hdc; cases hdc; simp [h]
      · cases h
  | alloc t =>
    rw [hq] at h
    simp only at h ⊢
    cases hb : bldT E t with
    | some e => simp only [hb, Option.some.injEq] at h ⊢; rw [← h]
    | none => simp only [hb, Option.map_eq_some_iff] at h ⊢; obtain ⟨z, hz, rfl⟩ := h; exact ⟨z, hz, rfl⟩
  | box t x =>
    rw [hq] at h
    simp only at h ⊢
    cases hg : givenC E F x with
    | none => simp [hg] at h
    | some d' =>
      simp only [hg] at h
      split at h
      · rename_i hl
        simp only [Option.some.injEq] at h; subst h
        simp [givenC_take hg, hl]
      · cases h
  | build t ps =>
    rw [hq] at h
    simp only at h ⊢
    cases hz : zeroT E.P t with
    | none => simp [hz] at h
    | some z =>
      cases hp : givenParts E F ps.toList with
      | none => simp [hz, hp] at h
      | some ds =>
        simp only [hz, hp, givenParts_take hp] at h ⊢
        split at h
        · rename_i hu
          split at h
          · rename_i hi
            simp only [Option.map_eq_some_iff] at h
            obtain ⟨cs, hf, rfl⟩ := h
            simp [hu, hi, hf]
          · cases h
        · rename_i hu
          split at h
          · rename_i hi
            simp only [Option.map_eq_some_iff] at h
            obtain ⟨cs, hf, rfl⟩ := h
            simp only [hu, hi, if_true, hf, Option.map_some]
          · cases h
        · cases h
  | buildSlice t m ps =>
    rw [hq] at h
    simp only at h ⊢
    cases hs : sliceT E.P t with
    | none => simp [hs] at h
    | some e =>
      simp only [hs] at h ⊢
      cases hz : zeroT E.P e with
      | none => simp [hz] at h
      | some z =>
        cases hp : givenParts E F ps.toList with
        | none => simp [hz, hp] at h
        | some ds =>
          simp only [hz, hp, givenParts_take hp] at h ⊢
          split at h
          · rename_i hi
            simp only [Option.map_eq_some_iff] at h
            obtain ⟨cs, hf, rfl⟩ := h
            simp [hi, hf]
          · cases h
  | load t x => rw [hq] at h; simp only at h ⊢; cases ho : opd E F x <;> simp [ho] at h ⊢; exact ⟨d, h, rfl⟩
  | nilCheck x =>
    rw [hq] at h
    simp only at h ⊢
    cases ho : opd E F x with
    | none => simp [ho] at h
    | some dx =>
      simp only [ho] at h ⊢
      split at h
      · rename_i s ps hdx
        cases hdx
        simp only
        split at h
        · rename_i hg; simp only [Option.some.injEq] at h; subst h; simp [hg]
        · rename_i hg; simp only [Option.some.injEq] at h; subst h; simp [hg]
        · cases h
      · rename_i hdx; cases hdx; simp only [Option.some.injEq] at h; subst h; rfl
      · rename_i hdx; cases hdx; simp only [Option.some.injEq] at h; subst h; rfl
      · cases h
  | binOp op t x y yt =>
    rw [hq] at h
    simp only at h ⊢
    cases ho : opd E F x with
    | none => simp [ho] at h
    | some d1 =>
      cases ho2 : opd E F y with
      | none => simp [ho, ho2] at h
      | some d2 => simp only [ho, ho2] at h ⊢; rw [h]; rfl
  | unOp op t x =>
    rw [hq] at h
    simp only at h ⊢
    cases ho : opd E F x with
    | none => simp [ho] at h
    | some d1 =>
      cases d1 with
      | lit v =>
        simp only [ho, Option.map_eq_some_iff] at h ⊢
        obtain ⟨u, hu, rfl⟩ := h
        exact ⟨u, hu, rfl⟩
      | _ => simp [ho] at h
  | convert s t x => rw [hq] at h; simp only at h ⊢; cases ho : opd E F x <;> simp [ho] at h ⊢; exact ⟨d, h, rfl⟩
  | makeFunc fn first caps =>
    rw [hq] at h
    cases fn with
    | func g =>
      simp only at h ⊢
      split at h
      · rename_i he
        simp only [he, if_true, Option.map_eq_some_iff] at h ⊢
        obtain ⟨cs, hc, rfl⟩ := h
        exact ⟨cs, hc, rfl⟩
      · cases h
    | _ => cases h
  | makeMap t r =>
    rw [hq] at h
    cases r with
    | none => simp only [Option.some.injEq] at h ⊢; rw [h]
    | some r => cases h
  | makeSlice t l c =>
    rw [hq] at h
    simp only at h ⊢
    cases hol : opd E F l with
    | none => simp [hol] at h
    | some dl =>
      cases hoc : opd E F c with
      | none => simp [hol, hoc] at h
      | some dc =>
        cases hs : sliceT E.P t with
        | none => simp [hol, hoc, hs] at h
        | some e =>
          simp only [hol, hoc, hs] at h ⊢
          split at h
          · rename_i k m z hk hm hz
            split at h
            · rename_i hc
              simp only [Option.some.injEq] at h; subst h
              simp [hk, hm, hz, hc]
            · cases h
          · cases h
  | slice t x lo hi mx =>
    rw [hq] at h
    cases mx with
    | some m => cases h
    | none =>
      simp only at h ⊢
      cases ho : opd E F x with
      | none => simp [ho] at h
      | some dx =>
        cases hl : optNat E F lo with
        | none => simp [ho, hl] at h
        | some l =>
          cases hh : optNat E F hi with
          | none => simp [ho, hl, hh] at h
          | some hi' => simp only [ho, hl, hh] at h ⊢; rw [h]; rfl
  | fieldAddr t x j =>
    rw [hq] at h
    simp only at h ⊢
    cases hf : fieldT E.P t j with
    | none => simp [hf] at h
    | some fd =>
      cases hp : (opd E F x).bind (ptrOf F) with
      | none => simp [hf, hp] at h
      | some p =>
        cases p with
        | imm cs =>
          simp only [hf, hp] at h ⊢
          split at h
          · rename_i hs; simp only [Option.some.injEq] at h; subst h; simp [hs]
          · cases h
        | loc s ps i c =>
          simp only [hf, hp] at h ⊢
          split at h
          · rename_i hs; simp only [Option.some.injEq] at h; subst h; simp [hs]
          · cases h
  | field t x j =>
    rw [hq] at h
    simp only at h ⊢
    cases hf : fieldT E.P t j with
    | none => simp [hf] at h
    | some fd =>
      cases ho : opd E F x with
      | none => simp [hf, ho] at h
      | some dx =>
        cases dx with
        | agg cs => simp only [hf, ho] at h ⊢; rw [h]; rfl
        | _ => simp [hf, ho] at h
  | indexAddr t x ix =>
    rw [hq] at h
    simp only at h ⊢
    cases ho : opd E F x with
    | none => simp [ho] at h
    | some d1 =>
      cases ho2 : opd E F ix with
      | none => simp [ho, ho2] at h
      | some d2 => simp only [ho, ho2] at h ⊢; rw [h]; rfl
  | index t x ix =>
    rw [hq] at h
    simp only at h ⊢
    cases ho : opd E F x with
    | none => simp [ho] at h
    | some d1 =>
      cases hi : (opd E F ix).bind asNat with
      | none => simp [ho, hi] at h
      | some i =>
        simp only [ho, hi] at h ⊢
        split at h
        · rename_i s j hs hj
          cases hs
          cases hj
          simp only
          split at h
          · rename_i hu
            simp only [Option.map_eq_some_iff] at h
            obtain ⟨b, hb, rfl⟩ := h
            simp [hu, hb]
          · cases h
        · rename_i cs j hs hj
          cases hs
          cases hj
          simp only
          split at h
          · rename_i ha
            split at h
            · rename_i hil
              simp only [ha, hil, if_true]
              rw [h]; rfl
            · cases h
          · cases h
        · cases h
  | lookup t x k ok =>
    rw [hq] at h
    simp only at h ⊢
    cases ho : opd E F x with
    | none => simp [ho] at h
    | some d1 =>
      cases ho2 : opd E F k with
      | none => simp [ho, ho2] at h
      | some d2 => simp only [ho, ho2] at h ⊢; rw [h]; rfl
  | extract x i =>
    rw [hq] at h
    cases x with
    | tmp t =>
      simp only at h ⊢
      split at h
      · rename_i ds hg
        simp only [Option.map_eq_some_iff] at h
        obtain ⟨d', hd, rfl⟩ := h
        simp only [hg, hd, Option.map_some]
      · cases h
    | _ => cases h
  | call c =>
    rw [hq] at h
    simp only at h ⊢
    cases hc : c.callee with
    | invoke => rw [hc] at h; cases h
    | value x =>
      rw [hc] at h
      simp only at h ⊢
      cases ho : opd E F x with
      | none => simp [ho] at h
      | some dx =>
        cases dx with
        | fn g caps =>
          simp only [ho] at h ⊢
          split at h
          case isFalse => cases h
          rename_i hso
          have hsn := snapOnly_spec hso
          have h0 : ∀ k, k < (argsOf c.args.toList caps.length).length → E.mode g (0 + k) = .snap := fun k hk => by rw [Nat.zero_add]; exact hsn k hk
          cases hp : passRest E g F F x none 0 (argsOf c.args.toList caps.length) ((argsOf c.args.toList caps.length).map fun _ => none) with
          | none => simp [hp] at h
          | some ds =>
            simp only [hp] at h
            split at h
            · rename_i r hcl
              split at h
              · rename_i hfl
                simp only [callC, passMoves_snap _ 0 h0, lentFrom_snap _ 0 h0, holeC, hp, hcl, List.all_nil, Bool.and_true, giveBack]
                by_cases hf : r.flat = true
                · simp [hf, giveBack, h]
                · have hf' : r.flat = false := by simpa using hf
                  simp only [hf', Bool.false_or] at hfl
                  simp [hf', frzAll_imm hfl, giveBack, h]
              · cases h
            · cases h
        | _ => simp [ho] at h
    | builtin b =>
      rw [hc] at h
      simp only at h ⊢
      cases b with
      | len =>
        simp only at h
        split at h
        · rename_i x t ts hb2 hb3
          rw [hb2, hb3]
          simp only [builtinC]
          cases ho : opd E F x with
          | none => simp [ho] at h
          | some d1 => simp only [ho] at h ⊢; rw [h]; rfl
        · cases h
      | max =>
        simp only at h
        split at h
        · rename_i x y hb2
          rw [hb2]
          simp only [builtinC]
          cases ho : opd E F x with
          | none => simp [ho] at h
          | some d1 =>
            cases ho2 : opd E F y with
            | none => simp [ho, ho2] at h
            | some d2 => simp only [ho, ho2] at h ⊢; rw [h]; rfl
        · cases h
      | min =>
        simp only at h
        split at h
        · rename_i x y hb2
          rw [hb2]
          simp only [builtinC]
          cases ho : opd E F x with
          | none => simp [ho] at h
          | some d1 =>
            cases ho2 : opd E F y with
            | none => simp [ho, ho2] at h
            | some d2 => simp only [ho, ho2] at h ⊢; rw [h]; rfl
        · cases h
      | _ => cases h
  | _ => rw [hq] at h; cases h
end Go.Own

namespace Go.Own
open D
section
variable {E : Env} {f : Nat} {V : List Nat} {F F' : Fr} {Q : Ex → Fr → Prop} {body : Code} {p p' : List Nat} {j : Nat} {s s' : St} {o : Oper} {d : D} {call : Caller}
def plainOp : Op → Bool
  | .move _ => true
  | .pick .. => true
  | .load .. => true
  | .binOp .. => true
  | .unOp .. => true
  | .convert .. => true
  | .makeSlice .. => true
  | .slice _ _ _ _ none => true
  | .fieldAddr .. => true
  | .field .. => true
  | .indexAddr .. => true
  | .index .. => true
  | .lookup .. => true
  | .extract (.tmp _) _ => true
  | .makeMap _ none => true
  | .call c => match c.callee with
    | .builtin .len => true
    | .builtin .max => true
    | .builtin .min => true
    | _ => false
  | _ => false
theorem opC_of_val (_ : plainOp o.op = true) (h : valC E f call F o = some d) : opC E f V call F o = some (fin F o.dst d) := valC_opC h
def isTrue : Option Bool → Bool
  | some true => true
  | _ => false
theorem isTrue_eq {x : Option Bool} (h : isTrue x = true) : x = some true := by
  cases x with
  | none => cases h
  | some b => cases b <;> simp_all [isTrue]
def valOK (body : Code) (p : List Nat) (j : Nat) (s : St) : Bool :=
  plainOp (operAt body p j).op && Nat.blt j (opsAt body p).size && isTrue (wantedD (opsAt body p) (frd (drawAt body p) (opsAt body p) j s) (operAt body p j)) &&
    (bif drawAt body p && !anchored (opsAt body p) j then seesAll (opsAt body p) (frd (drawAt body p) (opsAt body p) j s) (operAt body p j) && freeDst s.2 (operAt body p j) && newDst (opsAt body p) s.1 (operAt body p j) else true)
theorem operAt_eq {body : Code} {p : List Nat} {j : Nat} (h : Nat.blt j (opsAt body p).size = true) : (opsAt body p)[j]? = some (operAt body p j) := by
  have hj : j < (opsAt body p).size := by
    simp only [Nat.blt] at h
    exact Nat.le_of_ble_eq_true h
  simp [operAt, hj]
theorem stepS_val (hok : valOK body p j s = true) (hv : valC E f call (frd (drawAt body p) (opsAt body p) j s) (operAt body p j) = some d) :
    stepS E f V call (opsAt body p) (drawAt body p) j s = some (pts (drawAt body p) (opsAt body p) j s (operAt body p j).dst d) := by
  simp only [valOK, Bool.and_eq_true] at hok
  obtain ⟨⟨⟨hp, hj⟩, hw⟩, hd⟩ := hok
  have hw := isTrue_eq hw
  unfold stepS
  rw [operAt_eq hj]
  simp only
  cases hdr : drawAt body p with
  | false =>
    simp only [hdr, frd, Bool.false_and, cond_false] at hw hv
    simp only [cond_false, pts, hw, opC_of_val hp hv, Option.map_some]
  | true =>
    cases ha : anchored (opsAt body p) j with
    | true =>
      simp only [hdr, ha, frd, Bool.true_and, Bool.not_true, cond_false] at hw hv
      simp only [cond_true, pts, hw, ha, opC_of_val hp hv, Option.map_some]
    | false =>
      simp only [hdr, ha, frd, Bool.true_and, Bool.not_false, cond_true] at hw hv hd
      simp only [cond_true, cond_false, pts, ha]
      simp only [pureC, hw, hv]
      rw [Bool.and_eq_true, Bool.and_eq_true] at hd
      rw [hd.1.1, hd.1.2, hd.2]
      rfl
theorem AtO.val (hok : valOK body p j s = true) (hv : valC E f noCall (frd (drawAt body p) (opsAt body p) j s) (operAt body p j) = some d) (k : AtO E f V body p (j + 1) (pts (drawAt body p) (opsAt body p) j s (operAt body p j).dst d) Q) : AtO E f V body p j s Q :=
  AtO.step ⟨0, fun _ _ => stepS_le noCall_le (stepS_val hok hv)⟩ k
theorem AtO.bool {b : Bool} (hok : valOK body p j s = true) (hv : valC E f noCall (frd (drawAt body p) (opsAt body p) j s) (operAt body p j) = some (lit (.bool b)))
    (h1 : b = true → AtO E f V body p (j + 1) (pts (drawAt body p) (opsAt body p) j s (operAt body p j).dst (lit (.bool true))) Q)
    (h2 : b = false → AtO E f V body p (j + 1) (pts (drawAt body p) (opsAt body p) j s (operAt body p j).dst (lit (.bool false))) Q) : AtO E f V body p j s Q := by
  cases b with
  | true => exact AtO.val hok hv (h1 rfl)
  | false => exact AtO.val hok hv (h2 rfl)
def opOK (body : Code) (p : List Nat) (j : Nat) (s : St) : Bool :=
  Nat.blt j (opsAt body p).size && isTrue (wantedD (opsAt body p) s.2 (operAt body p j)) && (!drawAt body p || anchored (opsAt body p) j)
def blkTo (body : Code) (p : List Nat) (s : St) : List Nat := bif drawAt body p then [] else s.1
theorem stepS_op (hok : opOK body p j s = true) (hv : opC E f V call s.2 (operAt body p j) = some F') : stepS E f V call (opsAt body p) (drawAt body p) j s = some (blkTo body p s, F') := by
  simp only [opOK, Bool.and_eq_true] at hok
  obtain ⟨⟨hj, hw⟩, hd⟩ := hok
  have hw := isTrue_eq hw
  unfold stepS
  rw [operAt_eq hj]
  simp only [blkTo]
  cases hdr : drawAt body p with
  | false => simp only [cond_false, hw, hv, Option.map_some]
  | true =>
    simp only [hdr, Bool.not_true, Bool.false_or] at hd
    simp only [cond_true, hd, hw, hv, Option.map_some]
theorem AtO.op (hok : opOK body p j s = true) (hv : opC E f V noCall s.2 (operAt body p j) = some F') (k : AtO E f V body p (j + 1) (blkTo body p s, F') Q) : AtO E f V body p j s Q :=
  AtO.step ⟨0, fun _ _ => stepS_le noCall_le (stepS_op hok hv)⟩ k
def calleeOf : Op → Option Operand
  | .call c => match c.callee with
    | .value x => some x
    | _ => none
  | _ => none
def argsIn : Op → List Operand
  | .call c => c.args.toList
  | _ => []
theorem AtO.callA {x : Operand} {g : Nat} {caps : List D} {agl : List Arg} {ms : List (Option D)} {F1 F2 F3 F4 : Fr} {l : Option (Nat × Path)} {ld : Option D} {ds outs : List D} {r r' : D}
    (hok : opOK body p j s = true) (hc : calleeOf (operAt body p j).op = some x) (hx : opd E s.2 x = some (fn g caps)) (has : argsOf (argsIn (operAt body p j).op) caps.length = agl)
    (hm : passMoves E g 0 s.2 agl = some (ms, F1)) (hl : lentFrom E g F1 x 0 agl = some l) (hh : holeC F1 l = some (ld, F2)) (hr : passRest E g F1 F2 x ld 0 agl ms = some ds) (hret : Ret E g ds r outs)
    (hf : (if r.flat && outs.all flat then some F1 else frzAll F1 (snapSrcs E g F1 x 0 agl)) = some F3) (hg : giveBack F3 l outs = some F4) (hcold : coldD (E.eager f ((operAt body p j).dst.getD 0)) r = some r')
    (k : AtO E f V body p (j + 1) (blkTo body p s, fin F4 (operAt body p j).dst r') Q) : AtO E f V body p j s Q := by
  obtain ⟨N, hN⟩ := hret
  refine AtO.step ⟨N, fun n hn => stepS_op hok ?_⟩ k
  unfold opC
  unfold calleeOf at hc
  split at hc
  · rename_i c hop
    split at hc
    · rename_i y hcl
      simp only [Option.some.injEq] at hc
      subst hc
      simp only [hop, hcl, hx]
      simp only [argsIn, hop] at has
      rw [has]
      have : callC E (callN E n) s.2 g y agl = some (r, F4) := by
        unfold callC
        simp only [hm, hl, hh, hr, hN n hn, hf, hg, Option.map_some]
      simp only [this, Option.bind_some, hcold, Option.map_some]
    · cases hc
  · cases hc
theorem AtO.call0 {x : Operand} {g : Nat} {caps : List D} {agl : List Arg} {ms : List (Option D)} {ds : List D} {r r' : D}
    (hok : opOK body p j s = true) (hc : calleeOf (operAt body p j).op = some x) (hx : opd E s.2 x = some (fn g caps)) (has : argsOf (argsIn (operAt body p j).op) caps.length = agl)
    (hm : passMoves E g 0 s.2 agl = some (ms, s.2)) (hl : lentFrom E g s.2 x 0 agl = some none) (hr : passRest E g s.2 s.2 x none 0 agl ms = some ds) (hret : Ret E g ds r [])
    (hf : r.flat = true) (hcold : coldD (E.eager f ((operAt body p j).dst.getD 0)) r = some r')
    (k : AtO E f V body p (j + 1) (blkTo body p s, fin s.2 (operAt body p j).dst r') Q) : AtO E f V body p j s Q :=
  AtO.callA hok hc hx has hm hl rfl hr hret (F3 := s.2) (by rw [hf]; rfl) rfl hcold k
theorem AtO.callZ {x : Operand} {g : Nat} {caps : List D} {agl : List Arg} {ms : List (Option D)} {ds : List D} {r r' : D}
    (hok : opOK body p j s = true) (hc : calleeOf (operAt body p j).op = some x) (hx : opd E s.2 x = some (fn g caps)) (has : argsOf (argsIn (operAt body p j).op) caps.length = agl)
    (hm : passMoves E g 0 s.2 agl = some (ms, s.2)) (hl : lentFrom E g s.2 x 0 agl = some none) (hr : passRest E g s.2 s.2 x none 0 agl ms = some ds) (hret : Ret E g ds r [])
    (hf : (if r.flat && [].all flat then some s.2 else frzAll s.2 (snapSrcs E g s.2 x 0 agl)) = some s.2) (hcold : coldD (E.eager f ((operAt body p j).dst.getD 0)) r = some r')
    (k : AtO E f V body p (j + 1) (blkTo body p s, fin s.2 (operAt body p j).dst r') Q) : AtO E f V body p j s Q :=
  AtO.callA hok hc hx has hm hl rfl hr hret (F3 := s.2) hf rfl hcold k
theorem AtO.putb {blk : List Nat} {F : Fr} {dst : Option Nat} {b : Bool} (h1 : b = true → AtO E f V body p j (blk, fin F dst (lit (.bool true))) Q) (h2 : b = false → AtO E f V body p j (blk, fin F dst (lit (.bool false))) Q) : AtO E f V body p j (blk, fin F dst (lit (.bool b))) Q := by
  cases b with
  | true => exact h1 rfl
  | false => exact h2 rfl
theorem AtO.setb {blk : List Nat} {F : Fr} {dst : Option Nat} {b : Bool} (h1 : b = true → AtO E f V body p j (blk, set0 F dst (lit (.bool true))) Q) (h2 : b = false → AtO E f V body p j (blk, set0 F dst (lit (.bool false))) Q) : AtO E f V body p j (blk, set0 F dst (lit (.bool b))) Q := by
  cases b with
  | true => exact h1 rfl
  | false => exact h2 rfl
def pmF (E : Env) (g : Nat) (F : Fr) (agl : List Arg) : Fr := match passMoves E g 0 F agl with
  | some (_, F1) => F1
  | none => []
def hoF (F : Fr) (l : Option (Nat × Path)) : Fr := match holeC F l with
  | some (_, F1) => F1
  | none => []
def gbF (F : Fr) (l : Option (Nat × Path)) (outs : List D) : Fr := (giveBack F l outs).getD []
theorem AtO.callM {x : Operand} {g : Nat} {caps : List D} {agl : List Arg} {ms : List (Option D)} {l : Option (Nat × Path)} {ld : Option D} {ds outs : List D} {r r' : D}
    (hok : opOK body p j s = true) (hc : calleeOf (operAt body p j).op = some x) (hx : opd E s.2 x = some (fn g caps)) (has : argsOf (argsIn (operAt body p j).op) caps.length = agl)
    (hm : passMoves E g 0 s.2 agl = some (ms, pmF E g s.2 agl)) (hl : lentFrom E g (pmF E g s.2 agl) x 0 agl = some l) (hh : holeC (pmF E g s.2 agl) l = some (ld, hoF (pmF E g s.2 agl) l)) (hr : passRest E g (pmF E g s.2 agl) (hoF (pmF E g s.2 agl) l) x ld 0 agl ms = some ds) (hret : Ret E g ds r outs)
    (hf1 : r.flat = true) (hf2 : outs.all flat = true) (hg : (giveBack (pmF E g s.2 agl) l outs).isSome = true) (hcold : coldD (E.eager f ((operAt body p j).dst.getD 0)) r = some r')
    (k : AtO E f V body p (j + 1) (blkTo body p s, fin (gbF (pmF E g s.2 agl) l outs) (operAt body p j).dst r') Q) : AtO E f V body p j s Q := by
  obtain ⟨F4, h4⟩ := Option.isSome_iff_exists.1 hg
  have : gbF (pmF E g s.2 agl) l outs = F4 := by unfold gbF; rw [h4]; rfl
  rw [this] at k
  exact AtO.callA hok hc hx has hm hl hh hr hret (F3 := pmF E g s.2 agl) (by rw [hf1, hf2]; rfl) h4 hcold k
def loosOK (body : Code) (p : List Nat) (j : Nat) (s : St) : Bool :=
  Nat.blt j (opsAt body p).size && drawAt body p && !anchored (opsAt body p) j && isTrue (wantedD (opsAt body p) (frd (drawAt body p) (opsAt body p) j s) (operAt body p j)) &&
    (seesAll (opsAt body p) (frd (drawAt body p) (opsAt body p) j s) (operAt body p j) && freeDst s.2 (operAt body p j) && newDst (opsAt body p) s.1 (operAt body p j))
theorem AtO.callD {x : Operand} {g : Nat} {caps : List D} {agl : List Arg} {ds : List D} {r r' : D}
    (hok : loosOK body p j s = true) (hc : calleeOf (operAt body p j).op = some x) (hx : opd E (frd (drawAt body p) (opsAt body p) j s) x = some (fn g caps)) (has : argsOf (argsIn (operAt body p j).op) caps.length = agl)
    (hsn : snapOnly E g agl.length = true) (hr : passRest E g (frd (drawAt body p) (opsAt body p) j s) (frd (drawAt body p) (opsAt body p) j s) x none 0 agl (agl.map fun _ => none) = some ds) (hret : Ret E g ds r [])
    (hf : (r.flat || (snapSrcs E g (frd (drawAt body p) (opsAt body p) j s) x 0 agl).all (immD (frd (drawAt body p) (opsAt body p) j s))) = true) (hcold : coldD (E.eager f ((operAt body p j).dst.getD 0)) r = some r')
    (k : AtO E f V body p (j + 1) (j :: s.1, set0 s.2 (operAt body p j).dst r') Q) : AtO E f V body p j s Q := by
  obtain ⟨N, hN⟩ := hret
  refine AtO.step ⟨N, fun n hn => ?_⟩ k
  simp only [loosOK, Bool.and_eq_true, Bool.not_eq_true'] at hok
  obtain ⟨⟨⟨⟨hj, hdr⟩, ha⟩, hw⟩, ⟨hs1, hs2⟩, hs3⟩ := hok
  have hw := isTrue_eq hw
  unfold stepS
  rw [operAt_eq hj]
  simp only [hdr, cond_true, ha, cond_false, frd, Bool.not_false, Bool.and_true] at hw hs1 hx hr hf ⊢
  have hv : valC E f (callN E n) (maskF (hiddenOf (opsAt body p) s.1 j) s.2) (operAt body p j) = some r' := by
    unfold valC
    unfold calleeOf at hc
    split at hc
    · rename_i c hop
      split at hc
      · rename_i y hcl
        simp only [Option.some.injEq] at hc
        subst hc
        simp only [hop, hcl, hx]
        simp only [argsIn, hop] at has
        rw [has, if_pos hsn]
        simp only [hr, hN n hn, if_pos hf, hcold]
      · cases hc
    · cases hc
  simp only [pureC, hw, hv, hs1, hs2, hs3, Bool.and_self, cond_true]
theorem pass_nil {x : Operand} {g i : Nat} {F F2 : Fr} {l : Option D} : passRest E g F F2 x l i [] [] = some [] := rfl
theorem pass_snap {x : Operand} {g i : Nat} {F F2 : Fr} {l : Option D} {a : Arg} {agl : List Arg} {ms : List (Option D)} {d0 d : D} {ds : List D} (hm : E.mode g i = .snap) (ha : argD E F x a = some d0) (hs : snapD F2 d0 = some d) (h : passRest E g F F2 x l (i + 1) agl ms = some ds) :
    passRest E g F F2 x l i (a :: agl) (none :: ms) = some (d :: ds) := by
  simp only [passRest, hm, ha, Option.bind_some, hs, restOne, h]
theorem pass_move {x : Operand} {g i : Nat} {F F2 : Fr} {l : Option D} {a : Arg} {agl : List Arg} {ms : List (Option D)} {d : D} {ds : List D} (h : passRest E g F F2 x l (i + 1) agl ms = some ds) :
    passRest E g F F2 x l i (a :: agl) (some d :: ms) = some (d :: ds) := by
  simp only [passRest, restOne, h]
theorem pass_lent {x : Operand} {g i : Nat} {F F2 : Fr} {a : Arg} {agl : List Arg} {ms : List (Option D)} {d : D} {ds : List D} (hm : E.mode g i = .inout) (h : passRest E g F F2 x (some d) (i + 1) agl ms = some ds) :
    passRest E g F F2 x (some d) i (a :: agl) (none :: ms) = some (d :: ds) := by
  simp only [passRest, restOne, hm, h]
def condOp (body : Code) (p : List Nat) : Option Operand := match (go body p []).1 with
  | .cond y _ _ => some y
  | _ => none
def leafAt (body : Code) (p : List Nat) (i : Nat) : Code × List Kt := match (go body p []) with
  | (.cond _ a b, ks) => match i with
    | 0 => dn a ks
    | _ => dn b ks
  | (.loop b, ks) => dn b (.loop b :: ks)
  | c => c
theorem Pt.cond_t {y : Operand} (hy : condOp body p = some y) (ho : opd E F y = some (lit (.bool true))) (hl : leafAt body p 0 = go body p' []) (hF : trim E f V 1 (askKey y) F = F') (k : Pt E f V body p' F' Q) : Pt E f V body p F Q := by
  unfold condOp at hy
  split at hy
  · rename_i z a b hg
    simp only [Option.some.injEq] at hy
    subst hy
    unfold Pt AtC
    rw [hg]
    refine To.cond ho (fun _ => ?_) (fun h => by cases h)
    rw [hF]
    unfold leafAt at hl
    rcases hgo : go body p [] with ⟨c, ks⟩
    rw [hgo] at hg hl
    simp only at hg
    subst hg
    simp only at hl
    unfold Pt at k
    rw [← hl] at k
    exact AtC_dn a ks k
  · cases hy
theorem Pt.cond_f {y : Operand} (hy : condOp body p = some y) (ho : opd E F y = some (lit (.bool false))) (hl : leafAt body p 1 = go body p' []) (hF : trim E f V 2 (askKey y) F = F') (k : Pt E f V body p' F' Q) : Pt E f V body p F Q := by
  unfold condOp at hy
  split at hy
  · rename_i z a b hg
    simp only [Option.some.injEq] at hy
    subst hy
    unfold Pt AtC
    rw [hg]
    refine To.cond ho (fun h => by cases h) (fun _ => ?_)
    rw [hF]
    unfold leafAt at hl
    rcases hgo : go body p [] with ⟨c, ks⟩
    rw [hgo] at hg hl
    simp only at hg
    subst hg
    simp only at hl
    unfold Pt at k
    rw [← hl] at k
    exact AtC_dn b ks k
  · cases hy
theorem Pt.cond_s {p1 p2 : List Nat} {F1 F2 : Fr} {y : Operand} {b : Bool} (hy : condOp body p = some y) (ho : opd E F y = some (lit (.bool b))) (hl1 : leafAt body p 0 = go body p1 []) (hl2 : leafAt body p 1 = go body p2 []) (hF1 : trim E f V 1 (askKey y) F = F1) (hF2 : trim E f V 2 (askKey y) F = F2)
    (k1 : b = true → Pt E f V body p1 F1 Q) (k2 : b = false → Pt E f V body p2 F2 Q) : Pt E f V body p F Q := by
  cases b with
  | true => exact Pt.cond_t hy ho hl1 hF1 (k1 rfl)
  | false => exact Pt.cond_f hy ho hl2 hF2 (k2 rfl)
def isLoop (body : Code) (p : List Nat) : Bool := match (go body p []).1 with
  | .loop _ => true
  | _ => false
theorem Pt.loop (h : isLoop body p = true) (hl : leafAt body p 0 = go body p' []) (k : Pt E f V body p' F Q) : Pt E f V body p F Q := by
  unfold isLoop at h
  split at h
  · rename_i b hg
    unfold leafAt at hl
    unfold Pt
    rcases hgo : go body p [] with ⟨c, ks⟩
    rw [hgo] at hg hl
    simp only at hg
    subst hg
    simp only at hl
    unfold Pt at k
    rw [← hl] at k
    exact To.loop (AtC_dn b (.loop b :: ks) k)
  · cases h
def isSkip (body : Code) (p : List Nat) : Bool := match (go body p []).1 with
  | .skip => true
  | _ => false
theorem Pt.skip (h : isSkip body p = true) (hk : nextK (go body p []).2 = some (go body p' [])) (k : Pt E f V body p' F Q) : Pt E f V body p F Q := by
  unfold isSkip at h
  split at h
  · rename_i hg
    unfold Pt AtC
    rw [hg]
    exact To.skip (kTo_next hk k)
  · cases h
def isExit (body : Code) (p : List Nat) : Bool := match (go body p []).1 with
  | .exit _ => true
  | _ => false
def exitNext (body : Code) (p : List Nat) : Option (Code × List Kt) := match exitK (idAt body p) (go body p []).2 with
  | some ks => nextK ks
  | none => none
theorem Pt.exit (h : isExit body p = true) (hk : exitNext body p = some (go body p' [])) (hF : trim E f V 3 (idAt body p) F = F') (k : Pt E f V body p' F' Q) : Pt E f V body p F Q := by
  unfold isExit at h
  split at h
  · rename_i id hg
    unfold exitNext idAt at hk
    unfold idAt at hF
    unfold Pt AtC
    simp only [hg] at hk hF ⊢
    split at hk
    · rename_i ks hks
      refine To.exit (kTo_exit hks ?_)
      rw [hF]
      exact kTo_next hk k
    · cases hk
  · cases h
def isRet (body : Code) (p : List Nat) : Bool := match (go body p []).1 with
  | .ret => true
  | _ => false
def Lv (E : Env) (f : Nat) (fd : Func) (n : Nat) {ρ : Type} (res : ρ → D × List D) (φ : ρ → Prop) : Ex → Fr → Prop
  | .exit _, _ => False
  | _, F => ∃ r, leaveC E f fd n F = some (res r) ∧ φ r
theorem Pt.ret {fd : Func} {n : Nat} {ρ : Type} {res : ρ → D × List D} {φ : ρ → Prop} (r : ρ) (h : isRet body p = true) (hl : leaveC E f fd n F = some (res r)) (k : φ r) : Pt E f V body p F (Lv E f fd n res φ) := by
  unfold isRet at h
  split at h
  · rename_i hg
    unfold Pt AtC
    rw [hg]
    exact To.ret (kTo_ret ⟨r, hl, k⟩)
  · cases h
theorem AtO.last {fd : Func} {n : Nat} {ρ : Type} {res : ρ → D × List D} {φ : ρ → Prop} (r : ρ) (hj : (opsAt body p).size = j) (hk : nextK (go body p []).2 = none) (hl : leaveC E f fd n (trim E f V 0 (idAt body p) (norm V s.2)) = some (res r)) (k : φ r) : AtO E f V body p j s (Lv E f fd n res φ) :=
  AtO.fall hj hk rfl ⟨r, hl, k⟩
theorem ite_t {c : Prop} [Decidable c] {a b : Prop} (h : if c then a else b) (hc : c) : a := by rwa [if_pos hc] at h
theorem ite_f {c : Prop} [Decidable c] {a b : Prop} (h : if c then a else b) (hc : ¬ c) : b := by rwa [if_neg hc] at h
theorem beq_t {a b : Int} (h : (a == b) = true) : a = b := by simpa using h
theorem beq_f {a b : Int} (h : (a == b) = false) : ¬ a = b := by simpa using h
theorem bne_t {a b : Int} (h : (a != b) = true) : ¬ a = b := by simpa using h
theorem bne_f {a b : Int} (h : (a != b) = false) : a = b := by simpa using h
theorem bbeq_t {a b : Bool} (h : (a == b) = true) : a = b := by simpa using h
theorem bbeq_f {a b : Bool} (h : (a == b) = false) : ¬ a = b := by simpa using h
theorem bbne_t {a b : Bool} (h : (a != b) = true) : ¬ a = b := by simpa using h
theorem bbne_f {a b : Bool} (h : (a != b) = false) : a = b := by simpa using h
theorem seq_t {a b : ByteArray} (h : (a.toList == b.toList) = true) : a.toList = b.toList := by simpa using h
theorem seq_f {a b : ByteArray} (h : (a.toList == b.toList) = false) : ¬ a.toList = b.toList := by simpa using h
theorem not_t {b : Bool} (h : (!b) = true) : b = false := by simpa using h
theorem not_f {b : Bool} (h : (!b) = false) : b = true := by simpa using h
theorem fls {b : Bool} (h : b = false) : ¬ b = true := by simp [h]
theorem Ret.of_at {fd : Func} {ds : List D} {ρ : Type} {res : ρ → D × List D} {φ : ρ → Prop} (hp : E.prim f = none) (hf : E.P.funcs[f]? = some fd) (hb : fd.body = some body) (hl : ds.length ≤ fd.ntmps ∧ fd.ntmps < 1000000)
    (hV : E.vars f ++ lents E f 0 ds.length = V) (h0 : norm V (begins E f 0 ds) = F) (hd : dn body [] = go body p []) (h : Pt E f V body p F (Lv E f fd ds.length res φ)) : ∃ r, φ r ∧ Ret E f ds (res r).1 (res r).2 := by
  subst hV
  unfold Pt at h
  rw [← hd] at h
  obtain ⟨e, F1, h1, h2⟩ := AtC_dn body [] h
  simp only [kTo] at h2
  cases e with
  | exit i => exact h2.elim
  | normal => obtain ⟨r, h3, h4⟩ := h2; exact ⟨r, h4, Ret.of_to hp hf hb hl h0 ⟨_, F1, h1, h3⟩⟩
  | ret => obtain ⟨r, h3, h4⟩ := h2; exact ⟨r, h4, Ret.of_to hp hf hb hl h0 ⟨_, F1, h1, h3⟩⟩
end
end Go.Own

namespace Go.Own
open D
abbrev Enc (α : Type) := α → List D
def eI (k : IntKind) : Enc Int := fun x => [.lit (.int k x)]
def eB : Enc Bool := fun b => [.lit (.bool b)]
def eS : Enc ByteArray := fun b => [.lit (.string b)]
def eSl {α : Type} (e : Enc α) : Enc (List α) := fun l => [.sl (l.map e)]
def eOw {α : Type} (e : Enc α) : Enc (List α) := fun l => [.own (l.map e)]
def lget {α : Type} (l : List α) (i : Int) : Option α := if 0 ≤ i then l[i.toNat]? else none
def lset {α : Type} (l : List α) (i : Int) (a : α) : List α := l.set i.toNat a
def lsub {α : Type} (l : List α) (i j : Int) : List α := (l.drop i.toNat).take (j.toNat - i.toNat)
theorem blt_lt {a b : Nat} (h : Nat.blt a b = true) : a < b := Nat.le_of_ble_eq_true h
theorem lget_some {α : Type} {l : List α} {i : Int} {a : α} (h : lget l i = some a) : 0 ≤ i ∧ l[i.toNat]? = some a := by
  unfold lget at h
  split at h
  · exact ⟨by assumption, h⟩
  · cases h
theorem map_get {α : Type} {e : Enc α} {l : List α} {n : Nat} {a : α} (h : l[n]? = some a) : (l.map e)[n]? = some (e a) := by simp [h]
section
variable {E : Env} {f : Nat} {V : List Nat} {F F1 F2 : Fr} {o : Oper} {call : Caller} {α β : Type} {e : Enc α} {l m : List α} {i : Int} {a b : α} {t u et k s n c : Nat} {ps : Path} {x ix y : Operand} {q : IntKind} {d : D} {ts : List Nat}
theorem asNat_int {q : IntKind} {i : Int} (h : 0 ≤ i) : asNat (.lit (.int q i)) = some i.toNat := by simp [asNat, asInt, h]
theorem val_idx_sl (ho : o.op = .indexAddr t x ix) (hx : opd E F x = some (.sl (l.map e))) (hix : opd E F ix = some (.lit (.int q i))) (ht : sliceT E.P t = some et) (hs : sizeT E.P et = k) (h : lget l i = some a) (hk : (e a).length = k) :
    valC E f call F o = some (.ref (e a)) := by
  obtain ⟨h0, h1⟩ := lget_some h
  unfold valC
  simp only [ho, hx, hix, indexAddrD, asNat_int h0, ht, map_get h1, hs, hk, if_true]
theorem val_idx_slat (ho : o.op = .indexAddr t x ix) (hx : opd E F x = some (.alias s ps)) (hg : getAt F s ps = some (.sl (l.map e))) (hix : opd E F ix = some (.lit (.int q i))) (ht : sliceT E.P t = some et) (hs : sizeT E.P et = k) (h : lget l i = some a) (hk : (e a).length = k) :
    valC E f call F o = some (.ref (e a)) := by
  obtain ⟨h0, h1⟩ := lget_some h
  unfold valC
  simp only [ho, hx, hix, indexAddrD, asNat_int h0, ht, hg, map_get h1, hs, hk, if_true]
theorem val_idx_ow (ho : o.op = .indexAddr t x ix) (hx : opd E F x = some (.alias s ps)) (hg : getAt F s ps = some (.own (l.map e))) (hix : opd E F ix = some (.lit (.int q i))) (ht : sliceT E.P t = some et) (hs : sizeT E.P et = k) (h : lget l i = some a) (hk : (e a).length = k) :
    valC E f call F o = some (.place s ps i.toNat 0) := by
  obtain ⟨h0, h1⟩ := lget_some h
  unfold valC
  simp only [ho, hx, hix, indexAddrD, asNat_int h0, ht, hg, map_get h1, hs, hk, if_true]
theorem val_idx_hole (ho : o.op = .indexAddr t x ix) (hx : opd E F x = some (.alias s ps)) {cs : List D} (hg : getAt F s ps = some (.own ((l.map e).set i.toNat cs))) (hix : opd E F ix = some (.lit (.int q i))) (ht : sliceT E.P t = some et) (hs : sizeT E.P et = k) (h : lget l i = some a) (hk : cs.length = k) :
    valC E f call F o = some (.place s ps i.toNat 0) := by
  obtain ⟨h0, h1⟩ := lget_some h
  have h2 : ((l.map e).set i.toNat cs)[i.toNat]? = some cs := by
    have := (List.getElem?_eq_some_iff.1 h1).1
    rw [List.getElem?_set_self (by simpa using this)]
  unfold valC
  simp only [ho, hx, hix, indexAddrD, asNat_int h0, ht, hg, h2, hs, hk, if_true]
theorem val_idx_subow {off len : Nat} (ho : o.op = .indexAddr t x ix) (hx : opd E F x = some (.sub s ps off len)) (hg : getAt F s ps = some (.own (l.map e))) (hix : opd E F ix = some (.lit (.int q i))) (ht : sliceT E.P t = some et) (hs : sizeT E.P et = k) (hl : off + len ≤ l.length) (h : lget ((l.drop off).take len) i = some a) (hk : (e a).length = k) :
    valC E f call F o = some (.place s ps (off + i.toNat) 0) := by
  obtain ⟨h0, h1⟩ := lget_some h
  have hi : i.toNat < len := by
    have := (List.getElem?_eq_some_iff.1 h1).1
    simp at this; omega
  have h2 : l[off + i.toNat]? = some a := by
    rw [List.getElem?_take_of_lt hi, List.getElem?_drop] at h1
    exact h1
  unfold valC
  simp only [ho, hx, hix, indexAddrD, asNat_int h0, ht, hg, map_get h2, hs, hk, if_true, if_pos hi, List.length_map, hl, and_self]
theorem val_idx_subsl {off len : Nat} (ho : o.op = .indexAddr t x ix) (hx : opd E F x = some (.sub s ps off len)) (hg : getAt F s ps = some (.sl (l.map e))) (hix : opd E F ix = some (.lit (.int q i))) (ht : sliceT E.P t = some et) (hs : sizeT E.P et = k) (hl : off + len ≤ l.length) (h : lget ((l.drop off).take len) i = some a) (hk : (e a).length = k) :
    valC E f call F o = some (.ref (e a)) := by
  obtain ⟨h0, h1⟩ := lget_some h
  have hi : i.toNat < len := by
    have := (List.getElem?_eq_some_iff.1 h1).1
    simp at this; omega
  have h2 : l[off + i.toNat]? = some a := by
    rw [List.getElem?_take_of_lt hi, List.getElem?_drop] at h1
    exact h1
  unfold valC
  simp only [ho, hx, hix, indexAddrD, asNat_int h0, ht, hg, map_get h2, hs, hk, if_true, if_pos hi, List.length_map, hl, and_self]
theorem val_load_ow {d : D} (ho : o.op = .load t x) (hx : opd E F x = some (.place s ps n c)) (hg : getAt F s ps = some (.own (l.map e))) (hu : (E.P.underlying t).isNone = false) (h : l[n]? = some a)
    (hd : (if c + sizeT E.P t ≤ (e a).length then ofCells (isAggT E.P t) (viewCells s ps n c (((e a).drop c).take (sizeT E.P t))) else none) = some d) : valC E f call F o = some d := by
  unfold valC
  simp only [ho, hx, loadD, hu, ptrOf, hg, D.elem, map_get h, hd, Bool.false_eq_true, if_false]
theorem val_len (ho : o.op = .call { callee := .builtin .len, args := #[x], argTypes := #[t] }) (hx : opd E F x = some d) (hd : elemsOf F d = some (l.map e)) (ht : sliceT E.P t = some et) : valC E f call F o = some (.lit (.int .i64 l.length)) := by
  have hu : E.P.underlying t = some (.slice et) := by
    unfold sliceT at ht
    split at ht
    · rename_i h; simp only [Option.some.injEq] at ht; rw [h, ht]
    · cases ht
  unfold valC
  simp only [ho, hx]
  have : lenD E F t d = some (.lit (.int .i64 l.length)) := by
    unfold lenD
    rw [hu]
    cases d with
    | own es => simp [elemsOf] at hd
    | _ => simp only [hd, Option.map_some, List.length_map]
  simp only [this]
theorem elemsOf_sl : elemsOf F (.sl (l.map e)) = some (l.map e) := rfl
theorem elemsOf_ow (hg : getAt F s ps = some (.own (l.map e))) : elemsOf F (.alias s ps) = some (l.map e) := by simp [elemsOf, hg]
theorem elemsOf_slat (hg : getAt F s ps = some (.sl (l.map e))) : elemsOf F (.alias s ps) = some (l.map e) := by simp [elemsOf, hg]
theorem elemsOf_subow {off len : Nat} (hg : getAt F s ps = some (.own (l.map e))) (hl : off + len ≤ l.length) : elemsOf F (.sub s ps off len) = some (((l.drop off).take len).map e) := by simp [elemsOf, hg, hl]
theorem elemsOf_subsl {off len : Nat} (hg : getAt F s ps = some (.sl (l.map e))) (hl : off + len ≤ l.length) : elemsOf F (.sub s ps off len) = some (((l.drop off).take len).map e) := by simp [elemsOf, hg, hl]
theorem val_make {z : D} (ho : o.op = .makeSlice t x y) (hx : opd E F x = some (.lit (.int q i))) (hy : opd E F y = some (.lit (.int q i))) (ht : sliceT E.P t = some et) (hz : zeroT E.P et = some z) (hc : z.cells = e a) (hs : sizeT E.P et = (e a).length) (hp : Nat.blt 0 (e a).length = true) (hb : bytesT E.P et = k) (hk : Nat.blt 0 k = true) (h0 : 0 ≤ i) (hi : i * k ≤ 281474976710656) :
    valC E f call F o = some (.own ((List.replicate i.toNat a).map e)) := by
  have hk : 0 < k := blt_lt hk
  have hp : 0 < (e a).length := blt_lt hp
  obtain ⟨n, rfl⟩ := Int.eq_ofNat_of_zero_le h0
  have h1 : n * k ≤ 281474976710656 := by
    have : ((n * k : Nat) : Int) ≤ 281474976710656 := by simpa using hi
    omega
  have h2 : n ≤ 9223372036854775807 := Nat.le_trans (Nat.le_mul_of_pos_right n hk) (Nat.le_trans h1 (by decide))
  unfold valC
  simp only [ho, hx, hy, ht, asNat_int h0, hz, hb, hs, hc]
  simp [h1, h2, hp]
theorem optNat_some (hx : opd E F x = some (.lit (.int q i))) (h : 0 ≤ i) : optNat E F (some x) = some (some i.toNat) := by simp [optNat, hx, asNat_int h]
theorem optNat_none : optNat E F none = some none := rfl
theorem wide_map (hk : ∀ x, (e x).length = k) : wide k (l.map e) = true := by
  cases l with
  | nil => rfl
  | cons a l => simp [wide, hk]
theorem val_slice_sl {lo hi : Option Operand} {lo' hi' : Option Nat} (ho : o.op = .slice t x lo hi none) (hx : opd E F x = some (.sl (l.map e))) (h1 : optNat E F lo = some lo') (h2 : optNat E F hi = some hi') (ht : sliceT E.P t = some et) (hs : sizeT E.P et = k) (hk : ∀ x, (e x).length = k) (hp : Nat.blt 0 k = true)
    (h3 : lo'.getD 0 ≤ hi'.getD l.length) (h4 : hi'.getD l.length ≤ l.length) : valC E f call F o = some (.sl (((l.drop (lo'.getD 0)).take (hi'.getD l.length - lo'.getD 0)).map e)) := by
  have hp : 0 < k := blt_lt hp
  unfold valC
  simp only [ho, hx, h1, h2, sliceD, ht, List.length_map, hs, wide_map hk]
  simp [h3, h4, hp]
theorem val_slice_ow {lo hi : Option Operand} {lo' hi' : Option Nat} (ho : o.op = .slice t x lo hi none) (hx : opd E F x = some (.alias s ps)) (hg : elemsOf F (.alias s ps) = some (l.map e)) (h1 : optNat E F lo = some lo') (h2 : optNat E F hi = some hi') (ht : sliceT E.P t = some et) (hs : sizeT E.P et = k) (hk : ∀ x, (e x).length = k) (hp : Nat.blt 0 k = true)
    (h3 : lo'.getD 0 ≤ hi'.getD l.length) (h4 : hi'.getD l.length ≤ l.length) : valC E f call F o = some (.sub s ps (lo'.getD 0) (hi'.getD l.length - lo'.getD 0)) := by
  have hp : 0 < k := blt_lt hp
  unfold valC
  simp only [ho, hx, h1, h2, sliceD, ht, hg, List.length_map, hs, wide_map hk]
  simp [h3, h4, hp]
theorem op_append {z : D} (ho : o.op = .call { callee := .builtin .append, args := #[x, y], argTypes := #[t, u] }) (hu : rowT E.P u = true) (ht : sliceT E.P t = some et) (hz : zeroT E.P et = some z) (hzl : z.cells.length = k) (hx : takeOp E F x = some (.own (l.map e), F1)) (hy : newElems E F1 y = some (m.map e, F2)) (hs : sizeT E.P et = k) (hp : Nat.blt 0 k = true) (hb : bytesT E.P et = c) (hbp : Nat.blt 0 c = true) (hk : ∀ x, (e x).length = k)
    (hl : (l.length + m.length) * c ≤ 140737488355328) : opC E f V call F o = some (fin F2 o.dst (.own ((l ++ m).map e))) := by
  have hp : 0 < k := blt_lt hp
  have hbp : 0 < c := blt_lt hbp
  have h2 : l.length + m.length ≤ 9223372036854775807 := Nat.le_trans (Nat.le_mul_of_pos_right _ hbp) (Nat.le_trans hl (by decide))
  unfold opC
  simp only [ho, builtinC, hu, if_true, appendC, ht, hz, hx, hy, hb, hs, hzl, List.length_map, List.map_append]
  have h3 : ∀ (l : List α), ((l.map e).all fun c => c.length == k) = true := by intro l; simp [List.all_eq_true, hk]
  rw [if_pos ⟨hl, h2, trivial, hp, h3 l, h3 m⟩]
theorem newElems_ow {t : Nat} (hx : opd E F (.tmp t) = some (.alias s ps)) (hg : getAt F s ps = some (.own (l.map e))) (hn : ∀ x, (e x).any ex1 = false) : newElems E F (.tmp t) = some (l.map e, F) := by
  unfold newElems
  have : ((l.map e).any fun c => c.any ex1) = false := by simp [List.any_eq_false, hn]
  simp only [hx, hg, this, Bool.false_eq_true, if_false]
theorem newElems_sub {y : Operand} {off len : Nat} (hx : opd E F y = some (.sub s ps off len)) (hg : elemsOf F (.sub s ps off len) = some (l.map e)) (hn : ∀ x, (e x).any ex1 = false) : newElems E F y = some (l.map e, F) := by
  unfold newElems
  have : ((l.map e).any fun c => c.any ex1) = false := by simp [List.any_eq_false, hn]
  simp only [hx, hg, this, Bool.false_eq_true, if_false]
theorem map_set {α : Type} {e : Enc α} {l : List α} {n : Nat} {a : α} : (l.set n a).map e = (l.map e).set n (e a) := by simp [List.map_set]
theorem op_store (ho : o.op = .store t x y) (hy : takeOp E F y = some (d, F1)) (hx : opd E F1 x = some (.place s ps n c)) (hg : getAt F1 s ps = some (.own (l.map e))) (h : l[n]? = some a) (hi : (E.P.info? t).isSome = true) (hs : sizeT E.P t = k) (hl : d.cells.length = k) (hk : Nat.ble (c + k) (e a).length = true)
    (hb : (e a).take c ++ d.cells ++ (e a).drop (c + k) = e b) (hset : setAt F1 s ps (.own ((l.set n b).map e)) = some F2) :
    opC E f V call F o = some (fin (if (((e a).drop c).take k).any node1 then killF (deadCells s ps n c k) F2 else F2) o.dst (.tup [])) := by
  have hk : c + k ≤ (e a).length := Nat.le_of_ble_eq_true hk
  unfold opC
  simp only [ho, hi, if_true, hy, hx, storeD, ptrOf, hg, D.elem, map_get h, hs, hl, hk, and_self, D.setElem, hb, ← map_set, hset, Option.map_some]
theorem op_store_hole {cs : List D} (ho : o.op = .store t x y) (hy : takeOp E F y = some (d, F1)) (hx : opd E F1 x = some (.place s ps n 0)) (hg : getAt F1 s ps = some (.own ((l.map e).set n cs))) (h : l[n]? = some a) (hi : (E.P.info? t).isSome = true) (hs : sizeT E.P t = k) (hl : d.cells.length = k) (hk : cs.length = k)
    (hb : d.cells = e b) (hset : setAt F1 s ps (.own ((l.set n b).map e)) = some F2) :
    opC E f V call F o = some (fin (if cs.any node1 then killF (deadCells s ps n 0 k) F2 else F2) o.dst (.tup [])) := by
  have h1 : n < l.length := (List.getElem?_eq_some_iff.1 h).1
  have h2 : ((l.map e).set n cs)[n]? = some cs := by rw [List.getElem?_set_self (by simpa using h1)]
  have e1 : (cs.drop 0).take k = cs := by rw [List.drop_zero, ← hk, List.take_length]
  have e3 : cs.drop (0 + k) = [] := by rw [Nat.zero_add, ← hk, List.drop_length]
  unfold opC
  simp only [ho, hi, if_true, hy, hx, storeD, ptrOf, hg, D.elem, h2, hs, hl, D.setElem, Nat.zero_add, hk, Nat.le_refl, and_self, List.take_zero, List.nil_append]
  rw [Nat.zero_add] at e3
  rw [e3, e1, List.append_nil, hb, List.set_set, ← map_set, hset]
  simp
theorem getP_app (ps qs : Path) : ∀ (d : D), d.getP (ps ++ qs) = (d.getP ps).bind fun d => d.getP qs := by
  induction ps with
  | nil => intro d; rfl
  | cons x ps ih =>
    intro d
    obtain ⟨i, o⟩ := x
    simp only [List.cons_append, D.getP]
    cases d.elem i with
    | none => rfl
    | some cs =>
      simp only
      cases cs[o]? with
      | none => rfl
      | some c => simp only [ih]
theorem getAt_el (hg : getAt F s ps = some (.own (l.map e))) (h : l[n]? = some a) (hc : (e a)[c]? = some d) : getAt F s (ps ++ [(n, c)]) = some d := by
  unfold getAt at hg ⊢
  rw [getP_app, hg]
  simp only [Option.bind_some, D.getP, D.elem, map_get h, hc]
theorem setP_app (x : D) (ps qs : Path) : ∀ (d : D), d.setP (ps ++ qs) x = ((d.getP ps).bind fun c => c.setP qs x).bind fun c' => d.setP ps c' := by
  induction ps with
  | nil => intro d; simp [D.getP, D.setP]
  | cons y ps ih =>
    intro d
    obtain ⟨i, o⟩ := y
    simp only [List.cons_append, D.getP, D.setP]
    cases d.elem i with
    | none => rfl
    | some cs =>
      simp only
      cases cs[o]? with
      | none => rfl
      | some c =>
        simp only [ih]
        cases (c.getP ps).bind fun c => c.setP qs x with
        | none => rfl
        | some c' => rfl
theorem setAt_el {d' : D} (hg : getAt F s ps = some (.own (l.map e))) (h : l[n]? = some a) (hc : Nat.blt c (e a).length = true) (hset : setAt F s ps (.own ((l.map e).set n ((e a).set c d'))) = some F2) : setAt F s (ps ++ [(n, c)]) d' = some F2 := by
  have hc : c < (e a).length := blt_lt hc
  unfold setAt at hset ⊢
  unfold getAt at hg
  rw [setP_app, hg]
  simp only [Option.bind_some, D.setP, D.elem, map_get h]
  rw [List.getElem?_eq_getElem hc]
  simpa only [D.setElem, Option.bind_some] using hset
theorem take_el {d : D} {t : Nat} (hx : get F t = .alias s (ps ++ [(n, c)])) (hg : getAt F s ps = some (.own (l.map e))) (h : l[n]? = some a) (hc : (e a)[c]? = some d) (he : d.ex1 = true) (hset : setAt F s ps (.own ((l.map e).set n ((e a).set c .undef))) = some F2) :
    takeOp E F (.tmp t) = some (d, kill F2 s (ps ++ [(n, c)])) := by
  have hcl : Nat.blt c (e a).length = true := Nat.ble_eq_true_of_le (List.getElem?_eq_some_iff.1 hc).1
  simp only [takeOp, hx, takeSlot, takeAt, getAt_el hg h hc, he, if_true, setAt_el hg h hcl hset]
def takeF (E : Env) (F : Fr) (y : Operand) : Fr := match takeOp E F y with
  | some (_, F1) => F1
  | none => []
def newF (E : Env) (F : Fr) (y : Operand) : Fr := match newElems E F y with
  | some (_, F1) => F1
  | none => []
def setG (F : Fr) (s : Nat) (ps : Path) (d : D) : Fr := (setAt F s ps d).getD []
theorem setG_eq {d : D} (h : (setAt F s ps d).isSome = true) : setAt F s ps d = some (setG F s ps d) := by
  obtain ⟨F', h⟩ := Option.isSome_iff_exists.1 h
  rw [h, setG, h]; rfl
theorem setAt_in {d' : D} (hg : getAt F s ps = some (.own (l.map e))) (h : l[n]? = some a) (hc : Nat.blt c (e a).length = true) (hb : (e a).set c d' = e b) (hset : (setAt F s ps (.own ((l.set n b).map e))).isSome = true) : setAt F s (ps ++ [(n, c)]) d' = some (setG F s ps (.own ((l.set n b).map e))) := by
  refine setAt_el hg h hc ?_
  rw [hb, ← map_set]
  exact setG_eq hset
theorem app1 {z : D} (ho : o.op = .call { callee := .builtin .append, args := #[x, y], argTypes := #[t, u] }) (hu : rowT E.P u = true) (ht : sliceT E.P t = some et) (hz : zeroT E.P et = some z) (hzl : z.cells.length = k) (hx : takeOp E F x = some (.own (l.map e), takeF E F x)) (hy : newElems E (takeF E F x) y = some (m.map e, newF E (takeF E F x) y)) (hs : sizeT E.P et = k) (hp : Nat.blt 0 k = true) (hb : bytesT E.P et = c) (hbp : Nat.blt 0 c = true) (hk : ∀ x, (e x).length = k)
    (hl : (l.length + m.length) * c ≤ 140737488355328) : opC E f V call F o = some (fin (newF E (takeF E F x) y) o.dst (.own ((l ++ m).map e))) :=
  op_append ho hu ht hz hzl hx hy hs hp hb hbp hk hl
theorem app2 {z : D} (ho : o.op = .call { callee := .builtin .append, args := #[x, y], argTypes := #[t, u] }) (hu : rowT E.P u = true) (ht : sliceT E.P t = some et) (hz : zeroT E.P et = some z) (hzl : z.cells.length = k) (hx : takeOp E F x = some (.own (l.map e), F1)) (hy : newElems E F1 y = some (m.map e, newF E F1 y)) (hs : sizeT E.P et = k) (hp : Nat.blt 0 k = true) (hb : bytesT E.P et = c) (hbp : Nat.blt 0 c = true) (hk : ∀ x, (e x).length = k)
    (hl : (l.length + m.length) * c ≤ 140737488355328) : opC E f V call F o = some (fin (newF E F1 y) o.dst (.own ((l ++ m).map e))) :=
  op_append ho hu ht hz hzl hx hy hs hp hb hbp hk hl
theorem store1 (ho : o.op = .store t x y) (hy : takeOp E F y = some (d, takeF E F y)) (hx : opd E (takeF E F y) x = some (.place s ps n c)) (hg : getAt (takeF E F y) s ps = some (.own (l.map e))) (h : l[n]? = some a) (hi : (E.P.info? t).isSome = true) (hs : sizeT E.P t = k) (hl : d.cells.length = k) (hk : Nat.ble (c + k) (e a).length = true)
    (hb : (e a).take c ++ d.cells ++ (e a).drop (c + k) = e b) (hset : setAt (takeF E F y) s ps (.own ((l.set n b).map e)) = some F2) :
    opC E f V call F o = some (fin (if (((e a).drop c).take k).any node1 then killF (deadCells s ps n c k) F2 else F2) o.dst (.tup [])) := op_store ho hy hx hg h hi hs hl hk hb hset
theorem store2 {cs : List D} (ho : o.op = .store t x y) (hy : takeOp E F y = some (d, takeF E F y)) (hx : opd E (takeF E F y) x = some (.place s ps n 0)) (hg : getAt (takeF E F y) s ps = some (.own ((l.map e).set n cs))) (h : l[n]? = some a) (hi : (E.P.info? t).isSome = true) (hs : sizeT E.P t = k) (hl : d.cells.length = k) (hk : cs.length = k)
    (hb : d.cells = e b) (hset : setAt (takeF E F y) s ps (.own ((l.set n b).map e)) = some F2) :
    opC E f V call F o = some (fin (if cs.any node1 then killF (deadCells s ps n 0 k) F2 else F2) o.dst (.tup [])) := op_store_hole ho hy hx hg h hi hs hl hk hb hset
def Fzn {α β : Type} (e : Enc α) (g : α → β) (e' : Enc β) : Prop := ∀ x, freezeCs (e x) = some (e' (g x))
theorem freezeEs_map {e : Enc α} {g : α → β} {e' : Enc β} (h : Fzn e g e') : ∀ (l : List α), freezeEs (l.map e) = some ((l.map g).map e')
  | [] => rfl
  | a :: l => by simp only [List.map_cons, freezeEs, h a, freezeEs_map h l]
theorem freeze_ow {e : Enc α} {e' : Enc α} (h : Fzn e id e') (l : List α) : (D.own (l.map e)).freeze = some (.sl (l.map e')) := by
  simp only [D.freeze, freezeEs_map h, Option.map_some, List.map_id]
theorem Fzn.ow {e e' : Enc α} (h : Fzn e id e') : Fzn (eOw e) id (eSl e') := fun l => by
  simp only [eOw, freezeCs, freeze_ow h l, eSl, id]
theorem snap_ow {e e' : Enc α} (h : Fzn e id e') (hg : getAt F s ps = some (.own (l.map e))) : snapD F (.alias s ps) = some (.sl (l.map e')) := by
  simp only [snapD, snap1, freezeAt, hg, freeze_ow h]
theorem snap_slat (hg : getAt F s ps = some (.sl (l.map e))) : snapD F (.alias s ps) = some (.sl (l.map e)) := by
  simp only [snapD, snap1, freezeAt, hg, D.freeze]
theorem snap_sub {e e' : Enc α} {off len : Nat} (h : Fzn e id e') (hg : getAt F s ps = some (.own (l.map e))) (hl : off + len ≤ l.length) : snapD F (.sub s ps off len) = some (.sl (((l.drop off).take len).map e')) := by
  simp [snapD, snap1, freezeAt, hg, freeze_ow h, hl]
theorem snap_subsl {off len : Nat} (hg : getAt F s ps = some (.sl (l.map e))) (hl : off + len ≤ l.length) : snapD F (.sub s ps off len) = some (.sl (((l.drop off).take len).map e)) := by
  simp [snapD, snap1, freezeAt, hg, D.freeze, hl]
def Flt {α : Type} (e : Enc α) : Prop := ∀ x, flatCs (e x) = true
theorem flatEs_map {e : Enc α} (h : Flt e) : ∀ (l : List α), flatEs (l.map e) = true
  | [] => rfl
  | a :: l => by simp only [List.map_cons, flatEs, h a, flatEs_map h l, Bool.and_self]
theorem flat_ow {e : Enc α} (h : Flt e) : (D.own (l.map e)).flat = true := by simp only [D.flat, flatEs_map h]
theorem Flt.ow {e : Enc α} (h : Flt e) : Flt (eOw e) := fun l => by simp only [eOw, flatCs, flat_ow h, Bool.and_self]
def eMap {κ ν : Type} (ek : κ → Value) (ev : ν → D) (l : List (κ × ν)) : D := .map (l.map fun x => (ek x.1, ev x.2))
def mget {κ ν : Type} [DecidableEq κ] (k : κ) : List (κ × ν) → Option ν
  | [] => none
  | (k', v) :: r => if k = k' then some v else mget k r
def mset {κ ν : Type} [DecidableEq κ] (k : κ) (v : ν) : List (κ × ν) → List (κ × ν)
  | [] => [(k, v)]
  | (k', v') :: r => if k = k' then (k', v) :: r else (k', v') :: mset k v r
section maps
variable {κ ν : Type} [DecidableEq κ] {ek : κ → Value} {ev : ν → D}
theorem look_map (hb : ∀ a b, keyBeq (ek a) (ek b) = decide (a = b)) (k : κ) : ∀ (l : List (κ × ν)), look (ek k) (l.map fun x => (ek x.1, ev x.2)) = (mget k l).map ev
  | [] => rfl
  | (k', v) :: r => by
    simp only [List.map_cons, look, hb, mget, decide_eq_true_eq]
    split
    · rfl
    · exact look_map hb k r
theorem upd_map (hb : ∀ a b, keyBeq (ek a) (ek b) = decide (a = b)) (k : κ) (v : ν) : ∀ (l : List (κ × ν)), upd (ek k) (ev v) (l.map fun x => (ek x.1, ev x.2)) = (mset k v l).map fun x => (ek x.1, ev x.2)
  | [] => rfl
  | (k', v') :: r => by
    simp only [List.map_cons, upd, hb, mset, decide_eq_true_eq]
    split
    · rfl
    · simp only [List.map_cons, upd_map hb k v r]
omit [DecidableEq κ] in
theorem keysT_map {P : Program} {kt : Nat} (hk : ∀ a, keyT P kt (ek a) = true) (l : List (κ × ν)) : keysT P kt (l.map fun x => (ek x.1, ev x.2)) = true := by
  simp [keysT, List.all_eq_true, hk]
variable {l : List (κ × ν)} {kv : κ} {v : ν} {kt vt : Nat} {z kd : D} {kx vx mx : Operand} {v0 : ν}
theorem val_lookup_t (hb : ∀ a b, keyBeq (ek a) (ek b) = decide (a = b)) (hk : ∀ a, keyT E.P kt (ek a) = true) (ho : o.op = .lookup t x kx true) (hx : opd E F x = some (.alias s ps)) (hg : getAt F s ps = some (eMap ek ev l)) (hkx : opd E F kx = some kd) (hkd : keyOf kd = some (ek kv)) (ht : mapT E.P t = some (kt, vt)) (hz : zeroT E.P vt = some (ev v0)) (hze : (ev v0).excl = false) :
    valC E f call F o = some (.tup [ev ((mget kv l).getD v0), .lit (.bool (mget kv l).isSome)]) := by
  unfold valC
  simp only [ho, hx, hkx, lookupD, ht, hkd, hg, eMap, hz, hk, keysT_map hk, look_map hb, Bool.and_self, if_true, hze]
  cases mget kv l <;> rfl
theorem val_lookup_f (hb : ∀ a b, keyBeq (ek a) (ek b) = decide (a = b)) (hk : ∀ a, keyT E.P kt (ek a) = true) (ho : o.op = .lookup t x kx false) (hx : opd E F x = some (.alias s ps)) (hg : getAt F s ps = some (eMap ek ev l)) (hkx : opd E F kx = some kd) (hkd : keyOf kd = some (ek kv)) (ht : mapT E.P t = some (kt, vt)) (hz : zeroT E.P vt = some (ev v0)) (hze : (ev v0).excl = false) :
    valC E f call F o = some (ev ((mget kv l).getD v0)) := by
  unfold valC
  simp only [ho, hx, hkx, lookupD, ht, hkd, hg, eMap, hz, hk, keysT_map hk, look_map hb, Bool.and_self, if_true, hze]
  cases mget kv l <;> rfl
theorem op_mapUpdate (hb : ∀ a b, keyBeq (ek a) (ek b) = decide (a = b)) (hk : ∀ a, keyT E.P kt (ek a) = true) (ho : o.op = .mapUpdate t mx kx vx) (hx : opd E F mx = some (.alias s ps)) (hg : getAt F s ps = some (eMap ek ev l)) (hkx : opd E F kx = some kd) (hkd : keyOf kd = some (ek kv)) (ht : mapT E.P t = some (kt, vt)) (hv : opd E F vx = some d) (hs : snapD F d = some (ev v)) (hf : (ev v).flat = true) (hset : setAt F s ps (eMap ek ev (mset kv v l)) = some F1) :
    opC E f V call F o = some (fin F1 o.dst (.tup [])) := by
  unfold opC
  simp only [ho, mapUpdateC, ht, hx, hkx, hv, hg, eMap, hkd, hs, hf, hk, keysT_map hk, upd_map hb, Bool.and_self, if_true]
  simp only [eMap] at hset
  rw [hset]; rfl
end maps
theorem kb_int {q : IntKind} (a b : Int) : keyBeq (Value.int q a) (Value.int q b) = decide (a = b) := by
  have : (q == q) = true := by cases q <;> rfl
  simp only [keyBeq, this, Bool.true_and]
  by_cases h : a = b <;> simp [h]
theorem kb_str (a b : ByteArray) : keyBeq (Value.string a) (Value.string b) = decide (a = b) := by
  obtain ⟨a⟩ := a
  obtain ⟨b⟩ := b
  show (a == b) = _
  by_cases h : a = b
  · subst h; simp
  · have : ¬ ByteArray.mk a = ByteArray.mk b := fun h2 => h (ByteArray.mk.inj h2)
    simp [h]
theorem kb_arr2 {q q' : IntKind} (a b : Int × Int) : keyBeq (Value.agg #[.int q a.1, .int q' a.2]) (Value.agg #[.int q b.1, .int q' b.2]) = decide (a = b) := by
  have h1 : ∀ q : IntKind, (q == q) = true := fun q => by cases q <;> rfl
  obtain ⟨a1, a2⟩ := a
  obtain ⟨b1, b2⟩ := b
  simp only [keyBeq, cellBeq, List.zip_cons_cons, List.zip_nil_right, List.all_cons, List.all_nil, h1, Bool.true_and, Prod.mk.injEq]
  by_cases h : a1 = b1 <;> by_cases h2 : a2 = b2 <;> simp [h, h2]
def mgetD {κ ν : Type} [DecidableEq κ] (k : κ) (l : List (κ × ν)) (z : ν) : ν := (mget k l).getD z
def mhas {κ ν : Type} [DecidableEq κ] (k : κ) (l : List (κ × ν)) : Bool := (mget k l).isSome
def bAnd (k : IntKind) (a b : Int) : Int := k.wrap (BitVec.ofInt k.bits a &&& BitVec.ofInt k.bits b).toNat
def bOr (k : IntKind) (a b : Int) : Int := k.wrap (BitVec.ofInt k.bits a ||| BitVec.ofInt k.bits b).toNat
def bXor (k : IntKind) (a b : Int) : Int := k.wrap (BitVec.ofInt k.bits a ^^^ BitVec.ofInt k.bits b).toNat
def bAndNot (k : IntKind) (a b : Int) : Int := k.wrap (BitVec.ofInt k.bits a &&& ~~~ BitVec.ofInt k.bits b).toNat
def bNot (k : IntKind) (n : Int) : Int := k.wrap (BitVec.ofInt k.bits (if k.signed then -1 else k.max) ^^^ BitVec.ofInt k.bits n).toNat
def shlw (k : IntKind) (a b : Int) : Int := k.wrap (a * 2 ^ (min b.toNat k.bits))
def shrw (k : IntKind) (a b : Int) : Int := a.fdiv (2 ^ (min b.toNat k.bits))
def imax (a b : Int) : Int := if b > a then b else a
def imin (a b : Int) : Int := if b < a then b else a
def bsize (b : ByteArray) : Int := b.size
def bsub (b : ByteArray) (i j : Nat) : ByteArray := b.extract i j
def u8i (b : UInt8) : Int := b.toNat
def eU : Enc Unit := fun _ => []
theorem cold_ow {b : Bool} {e e' : Enc α} {l : List α} (hb : b = true) (h : Fzn e id e') : coldD b (.own (l.map e)) = some (.sl (l.map e')) := by
  subst hb; exact freeze_ow h l
theorem val_eq {d' : D} (h : valC E f call F o = some d) (he : d = d') : valC E f call F o = some d' := he ▸ h
theorem val_bin {op : BinOp} {tx ty : Nat} {d1 d2 : D} (ho : o.op = .binOp op tx x y ty) (hx : opd E F x = some d1) (hy : opd E F y = some d2) (h : binD E op tx d1 d2 = some d) : valC E f call F o = some d := by
  unfold valC
  simp only [ho, hx, hy, h]
theorem bin_quo {i1 i2 : Int} (h : i2 ≠ 0) : binD E .quo t (.lit (.int q i1)) (.lit (.int q i2)) = some (.lit (.int q (q.wrap (i1.tdiv i2)))) := by
  simp [binD, binV, h]
theorem bin_rem {i1 i2 : Int} (h : i2 ≠ 0) : binD E .rem t (.lit (.int q i1)) (.lit (.int q i2)) = some (.lit (.int q (i1.tmod i2))) := by
  simp [binD, binV, h]
theorem bin_shl {q' : IntKind} {i1 i2 : Int} (h : 0 ≤ i2) : binD E .shl t (.lit (.int q i1)) (.lit (.int q' i2)) = some (.lit (.int q (q.wrap (i1 * 2 ^ (min i2.toNat q.bits))))) := by
  have : ¬ i2 < 0 := by omega
  simp [binD, binV, this]
theorem bin_shr {q' : IntKind} {i1 i2 : Int} (h : 0 ≤ i2) : binD E .shr t (.lit (.int q i1)) (.lit (.int q' i2)) = some (.lit (.int q (i1.fdiv (2 ^ (min i2.toNat q.bits))))) := by
  have : ¬ i2 < 0 := by omega
  simp [binD, binV, this]
theorem bin_cat {s1 s2 : ByteArray} (h : s1.size + s2.size ≤ 9223372036854775807) : binD E .add t (.lit (.string s1)) (.lit (.string s2)) = some (.lit (.string (s1 ++ s2))) := by
  simp [binD, binV, h]
theorem val_strat {s1 : ByteArray} {b1 : UInt8} (ho : o.op = .index t x ix) (hx : opd E F x = some (.lit (.string s1))) (hix : opd E F ix = some (.lit (.int q i))) (ht : E.P.underlying t = some .string) (h0 : 0 ≤ i) (h : s1[i.toNat]? = some b1) : valC E f call F o = some (.lit (.int .u8 b1.toNat)) := by
  unfold valC
  simp only [ho, hx, hix, Option.bind_some, asNat_int h0, ht, h, Option.map_some]
theorem val_strsub {s1 : ByteArray} {lo hi : Option Operand} {lo' hi' : Option Nat} (ho : o.op = .slice t x lo hi none) (hx : opd E F x = some (.lit (.string s1))) (h1 : optNat E F lo = some lo') (h2 : optNat E F hi = some hi') (ht : E.P.underlying t = some .string) (h3 : lo'.getD 0 ≤ hi'.getD s1.size) (h4 : hi'.getD s1.size ≤ s1.size) :
    valC E f call F o = some (.lit (.string (s1.extract (lo'.getD 0) (hi'.getD s1.size)))) := by
  unfold valC
  simp only [ho, hx, h1, h2, sliceD, ht]
  simp [h3, h4]
end
end Go.Own

namespace Go.Own
open D
section
variable {E : Env} {f : Nat} {V : List Nat} {F : Fr} {Q : Ex → Fr → Prop} {body : Code} {p : List Nat} {j : Nat} {s : St} {d d' : D} {cs cs' : List D}
theorem snaps_nil : snaps1 F [] = some [] := rfl
theorem snap1_of (h : snapD F d = some d') (hn : ∀ cs, d ≠ .agg cs) (hf : ∀ g cs, d ≠ .fn g cs) : snap1 F d = some d' := by
  cases d with
  | agg cs => exact absurd rfl (hn cs)
  | fn g cs => exact absurd rfl (hf g cs)
  | _ => exact h
def oneC : D → Bool
  | .agg _ => false
  | .fn _ _ => false
  | _ => true
theorem snaps_cons (h : snapD F d = some d') (hs : snaps1 F cs = some cs') (ho : oneC d = true := by rfl) : snaps1 F (d :: cs) = some (d' :: cs') := by
  have : snap1 F d = some d' := snap1_of h (fun cs hc => by subst hc; cases ho) (fun g cs hc => by subst hc; cases ho)
  simp only [snaps1, this, hs]
theorem snap_agg (hs : snaps1 F cs = some cs') : snapD F (.agg cs) = some (.agg cs') := by simp only [snapD, hs, Option.map_some]
theorem snap_fn {g : Nat} (hs : snaps1 F cs = some cs') : snapD F (.fn g cs) = some (.fn g cs') := by simp only [snapD, hs, Option.map_some]
theorem flts_nil : flatCs [] = true := rfl
theorem flts_cons (h : d.flat = true) (hs : flatCs cs = true) : flatCs (d :: cs) = true := by simp only [flatCs, h, hs, Bool.and_self]
theorem flat_agg (hs : flatCs cs = true) : (D.agg cs).flat = true := by simp only [D.flat, hs]
theorem flat_tup (hs : flatCs cs = true) : (D.tup cs).flat = true := by simp only [D.flat, hs]
theorem AtO.callN {x : Operand} {g : Nat} {caps : List D} {agl : List Arg} {ms : List (Option D)} {l : Option (Nat × Path)} {ld : Option D} {ds outs : List D} {r r' : D}
    (hok : opOK body p j s = true) (hc : calleeOf (operAt body p j).op = some x) (hx : opd E s.2 x = some (fn g caps)) (has : argsOf (argsIn (operAt body p j).op) caps.length = agl)
    (hm : passMoves E g 0 s.2 agl = some (ms, pmF E g s.2 agl)) (hl : lentFrom E g (pmF E g s.2 agl) x 0 agl = some l) (hh : holeC (pmF E g s.2 agl) l = some (ld, hoF (pmF E g s.2 agl) l)) (hr : passRest E g (pmF E g s.2 agl) (hoF (pmF E g s.2 agl) l) x ld 0 agl ms = some ds) (hret : Ret E g ds r outs)
    (hf : (if r.flat && outs.all flat then some (pmF E g s.2 agl) else frzAll (pmF E g s.2 agl) (snapSrcs E g (pmF E g s.2 agl) x 0 agl)) = some (pmF E g s.2 agl)) (hg : (giveBack (pmF E g s.2 agl) l outs).isSome = true) (hcold : coldD (E.eager f ((operAt body p j).dst.getD 0)) r = some r')
    (k : AtO E f V body p (j + 1) (blkTo body p s, fin (gbF (pmF E g s.2 agl) l outs) (operAt body p j).dst r') Q) : AtO E f V body p j s Q := by
  obtain ⟨F4, h4⟩ := Option.isSome_iff_exists.1 hg
  have : gbF (pmF E g s.2 agl) l outs = F4 := by unfold gbF; rw [h4]; rfl
  rw [this] at k
  exact AtO.callA hok hc hx has hm hl hh hr hret (F3 := pmF E g s.2 agl) hf h4 hcold k
def bstr (l : List UInt8) : ByteArray := ⟨l.toArray⟩
def tz32 (n : Int) : Int := lowest n.toNat 32 0
def bcmp (a b : ByteArray) : Int := if a.toList == b.toList then 0 else if Op.bytesLess a.toList b.toList then -1 else 1
theorem ret_prim {g : Nat} {pr : List D → Option (D × List D)} {ds : List D} {r : D} {outs : List D} (h : E.prim g = some pr) (h2 : pr ds = some (r, outs)) : Ret E g ds r outs :=
  Ret.of (n := 1) (by simp only [callN, h, h2])
theorem ret_write {g t e : Nat} {l : List UInt8} {b : ByteArray} (h : E.prim g = some (primWrite t e)) (h2 : l.length + b.size ≤ 140737488355328) : Ret E g [.bld t e l, .lit (.string b)] (.tup [.lit (.int .i64 b.size), .lit .nilIface]) [.bld t e (l ++ b.data.toList)] :=
  ret_prim h (by simp [primWrite, h2])
theorem ret_string {g t e : Nat} {l : List UInt8} (h : E.prim g = some (primString t e)) : Ret E g [.bld t e l] (.lit (.string (bstr l))) [.box [.undef, .undef]] :=
  ret_prim h (by simp [primString, bstr])
theorem ret_zeros {g : Nat} {n : Int} (h : E.prim g = some primZeros) (h2 : 0 ≤ n ∧ n < 4294967296) : Ret E g [.lit (.int .u32 n)] (.lit (.int .i64 (tz32 n))) [] :=
  ret_prim h (by simp [primZeros, tz32, h2])
theorem ret_cmp {g : Nat} {a b : ByteArray} (h : E.prim g = some primCmp) : Ret E g [.lit (.string a), .lit (.string b)] (.lit (.int .i64 (bcmp a b))) [] :=
  ret_prim h rfl
theorem ret_clone {g : Nat} {es : List (List D)} (h : E.prim g = some primClone) : Ret E g [.sl es] (.own es) [] := ret_prim h rfl
end
end Go.Own
namespace Go.Own
open D
theorem fcs_nil : freezeCs [] = some [] := rfl
theorem fcs_cons {c c' : D} {cs cs' : List D} (h : c.freeze = some c') (hs : freezeCs cs = some cs') : freezeCs (c :: cs) = some (c' :: cs') := by simp only [freezeCs, h, hs]
theorem snap_box {F : Fr} {s : Nat} {ps : Path} {cs cs' : List D} (hg : getAt F s ps = some (.box cs)) (h : freezeCs cs = some cs') : snapD F (.alias s ps) = some (.ref cs') := by
  simp only [snapD, snap1, freezeAt, hg, D.freeze, h, Option.map_some]
end Go.Own

namespace Go.Own
open D
def Less (A B : Fr) : Prop := ∀ s, isUndef (get A s) = true ∨ get B s = get A s
def Seen (A : Fr) (x : Operand) : Prop := ∀ t, x = .tmp t → isUndef (get A t) = false
theorem isUndef_iff {d : D} : isUndef d = true ↔ d = .undef := by cases d <;> simp [isUndef]
section
variable {E : Env} {A B : Fr}
theorem Less.seen (h : Less A B) {x : Operand} (hx : Seen A x) {t : Nat} (ht : x = .tmp t) : get B t = get A t := by
  rcases h t with h | h
  · rw [hx t ht] at h; cases h
  · exact h
theorem opd_mono (h : Less A B) {x : Operand} (hx : Seen A x) : opd E B x = opd E A x := by
  cases x with
  | tmp t => simp only [opd, h.seen hx rfl]
  | _ => rfl
theorem getAt_mono (h : Less A B) {s : Nat} {ps : Path} {c : D} (hc : getAt A s ps = some c) (hn : c ≠ .undef) : getAt B s ps = some c := by
  unfold getAt at hc ⊢
  rcases h s with h | h
  · rw [isUndef_iff] at h
    rw [h] at hc
    cases ps with
    | nil => simp only [D.getP, Option.some.injEq] at hc; exact absurd hc.symm hn
    | cons p ps => obtain ⟨i, o⟩ := p; simp [D.getP, D.elem] at hc
  · rw [h]; exact hc
theorem ptrOf_mono (h : Less A B) {d : D} {p : Ptr} (hp : ptrOf A d = some p) : ptrOf B d = some p := by
  cases d with
  | alias s ps =>
    simp only [ptrOf] at hp ⊢
    split at hp
    · rename_i hg; rw [getAt_mono h hg (by simp)]; exact hp
    · rename_i hg; rw [getAt_mono h hg (by simp)]; exact hp
    · cases hp
  | _ => exact hp
theorem elemsOf_mono (h : Less A B) {d : D} {es : List (List D)} (hp : elemsOf A d = some es) : elemsOf B d = some es := by
  cases d with
  | alias s ps =>
    simp only [elemsOf] at hp ⊢
    split at hp
    · rename_i hg; rw [getAt_mono h hg (by simp)]; exact hp
    · rename_i hg; rw [getAt_mono h hg (by simp)]; exact hp
    · cases hp
  | sub s ps i k =>
    simp only [elemsOf] at hp ⊢
    split at hp
    · rename_i hg; rw [getAt_mono h hg (by simp)]; exact hp
    · rename_i hg; rw [getAt_mono h hg (by simp)]; exact hp
    · cases hp
  | _ => exact hp
theorem loadD_mono (h : Less A B) {t : Nat} {x d : D} (hp : loadD E A t x = some d) : loadD E B t x = some d := by
  unfold loadD at hp ⊢
  split at hp
  · cases hp
  · rename_i hu
    rw [if_neg hu]
    split at hp
    · rename_i cs hq; rw [ptrOf_mono h hq]; exact hp
    · rename_i s ps i o hq
      rw [ptrOf_mono h hq]
      try simp only
      split at hp
      · rename_i nd hg
        rw [getAt_mono h hg (by rintro rfl; simp [D.elem] at hp)]
        exact hp
      · cases hp
    · cases hp
theorem indexAddrD_mono (h : Less A B) {t : Nat} {x i d : D} (hp : indexAddrD E A t x i = some d) : indexAddrD E B t x i = some d := by
  unfold indexAddrD at hp ⊢
  split at hp
  · cases hp
  · rename_i k hk
    try simp only
    split at hp
    · rename_i e he
      try simp only
      split at hp
      · exact hp
      · rename_i s ps
        try simp only
        split at hp
        · rename_i es hg; rw [getAt_mono h hg (by simp)]; exact hp
        · rename_i es hg; rw [getAt_mono h hg (by simp)]; exact hp
        · cases hp
      · rename_i s ps off len
        try simp only
        split at hp
        · rename_i hl
          rw [if_pos hl]
          split at hp
          · rename_i es hg; rw [getAt_mono h hg (by simp)]; exact hp
          · rename_i es hg; rw [getAt_mono h hg (by simp)]; exact hp
          · cases hp
        · cases hp
      · cases hp
    · rename_i he
      try simp only
      split at hp
      · rename_i m e ha
        try simp only
        split at hp
        · rename_i hm
          rw [if_pos hm]
          split at hp
          · cases hp
          · rename_i hz
            rw [if_neg hz]
            split at hp
            · rename_i hq; rw [ptrOf_mono h hq]; exact hp
            · rename_i hq; rw [ptrOf_mono h hq]; exact hp
            · cases hp
        · cases hp
      · cases hp
theorem lenD_mono (h : Less A B) {t : Nat} {x d : D} (hp : lenD E A t x = some d) : lenD E B t x = some d := by
  unfold lenD at hp ⊢
  split at hp
  · exact hp
  · exact hp
  · simp only [Option.map_eq_some_iff] at hp ⊢
    obtain ⟨es, he, hh⟩ := hp
    exact ⟨es, elemsOf_mono h he, hh⟩
  · rename_i s ps
    try simp only
    split at hp
    · rename_i hg; rw [getAt_mono h hg (by simp)]; exact hp
    · cases hp
  · cases hp
theorem convertD_mono (h : Less A B) {s t : Nat} {x d : D} (hp : convertD E A s t x = some d) : convertD E B s t x = some d := by
  unfold convertD at hp ⊢
  split at hp
  · exact hp
  · exact hp
  · exact hp
  · exact hp
  · rename_i e _ _
    try simp only
    split at hp
    · rename_i es he hes; rw [elemsOf_mono h hes, he]; exact hp
    · cases hp
  · cases hp
theorem sliceD_mono (h : Less A B) {t : Nat} {x d : D} {l hh : Option Nat} (hp : sliceD E A t x l hh = some d) : sliceD E B t x l hh = some d := by
  unfold sliceD at hp ⊢
  split at hp
  · exact hp
  · exact hp
  · try simp only
    split at hp
    · rename_i e es he hes; rw [elemsOf_mono h hes, he]; exact hp
    · cases hp
  · try simp only
    split at hp
    · rename_i e es he hes; rw [elemsOf_mono h hes, he]; exact hp
    · cases hp
  · cases hp
theorem lookupD_mono (h : Less A B) {t : Nat} {x k d : D} {ok : Bool} (hp : lookupD E A t x k ok = some d) : lookupD E B t x k ok = some d := by
  unfold lookupD at hp ⊢
  split at hp
  · try simp only
    split at hp
    · rename_i es z hg hz; rw [getAt_mono h hg (by simp), hz]; exact hp
    · cases hp
  · cases hp
theorem capsD_mono (h : Less A B) : ∀ {xs : List Operand}, (∀ x ∈ xs, Seen A x) → capsD E B xs = capsD E A xs
  | [], _ => rfl
  | x :: xs, hs => by
    simp only [capsD]
    rw [opd_mono h (hs x (by simp)), capsD_mono h (fun y hy => hs y (by simp [hy]))]
theorem freezeAt_mono (h : Less A B) {s : Nat} {ps : Path} {d : D} (hp : freezeAt A s ps = some d) : freezeAt B s ps = some d := by
  unfold freezeAt at hp ⊢
  split at hp
  · rename_i c hg
    rw [getAt_mono h hg (by rintro rfl; simp [D.freeze] at hp)]; exact hp
  · cases hp
theorem snap1_mono (h : Less A B) {d d' : D} (hp : snap1 A d = some d') : snap1 B d = some d' := by
  cases d with
  | alias s ps => exact freezeAt_mono h hp
  | sub s ps i k =>
    simp only [snap1] at hp ⊢
    cases hf : freezeAt A s ps with
    | none => simp [hf] at hp
    | some x => rw [hf] at hp; rw [freezeAt_mono h hf]; exact hp
  | place s ps i k =>
    simp only [snap1] at hp ⊢
    cases hf : freezeAt A s ps with
    | none => simp [hf] at hp
    | some x => rw [hf] at hp; rw [freezeAt_mono h hf]; exact hp
  | _ => exact hp
theorem snaps1_mono (h : Less A B) : ∀ {cs ds : List D}, snaps1 A cs = some ds → snaps1 B cs = some ds
  | [], _, hp => hp
  | c :: cs, ds, hp => by
    simp only [snaps1] at hp ⊢
    split at hp
    · rename_i c' cs' h1 h2
      rw [snap1_mono h h1, snaps1_mono h h2]; exact hp
    · cases hp
theorem snapD_mono (h : Less A B) {d d' : D} (hp : snapD A d = some d') : snapD B d = some d' := by
  have one : ∀ c, (∀ F, snapD F c = snap1 F c) → snapD A c = some d' → snapD B c = some d' := fun c e hc => by
    rw [e] at hc ⊢; exact snap1_mono h hc
  cases d with
  | agg cs =>
    simp only [snapD, Option.map_eq_some_iff] at hp ⊢
    obtain ⟨cs', h1, h2⟩ := hp
    exact ⟨cs', snaps1_mono h h1, h2⟩
  | fn f cs =>
    simp only [snapD, Option.map_eq_some_iff] at hp ⊢
    obtain ⟨cs', h1, h2⟩ := hp
    exact ⟨cs', snaps1_mono h h1, h2⟩
  | _ => exact one _ (fun _ => rfl) hp
theorem imm1_mono (h : Less A B) {d : D} (hp : imm1 A d = true) : imm1 B d = true := by
  cases d with
  | alias s ps =>
    simp only [imm1] at hp ⊢
    split at hp
    · rename_i hg; rw [getAt_mono h hg (by simp)]
    · rename_i hg; rw [getAt_mono h hg (by simp)]
    · cases hp
  | sub s ps i k =>
    simp only [imm1] at hp ⊢
    split at hp
    · rename_i hg; rw [getAt_mono h hg (by simp)]
    · rename_i hg; rw [getAt_mono h hg (by simp)]
    · cases hp
  | _ => exact hp
theorem immD_mono (h : Less A B) {d : D} (hp : immD A d = true) : immD B d = true := by
  have l : ∀ {cs : List D}, cs.all (imm1 A) = true → cs.all (imm1 B) = true := fun hc => by
    rw [List.all_eq_true] at hc ⊢
    exact fun x hx => imm1_mono h (hc x hx)
  have one : ∀ c, (∀ F, immD F c = imm1 F c) → immD A c = true → immD B c = true := fun c e hc => by
    rw [e] at hc ⊢; exact imm1_mono h hc
  cases d with
  | agg cs => exact l hp
  | fn f cs => exact l hp
  | _ => exact one _ (fun _ => rfl) hp
theorem givenC_mono (h : Less A B) {x : Operand} (hx : Seen A x) {d : D} (hp : givenC E A x = some d) : givenC E B x = some d := by
  cases x with
  | tmp t =>
    simp only [givenC, h.seen hx rfl] at hp ⊢
    split at hp
    · exact hp
    · exact hp
    · exact hp
    · exact hp
    · exact hp
    · rename_i s ps hg
      try simp only
      split at hp
      · rename_i hg; rw [getAt_mono h hg (by simp)]; exact hp
      · rename_i hg; rw [getAt_mono h hg (by simp)]; exact hp
      · cases hp
    · cases hp
  | _ => exact hp
theorem givenParts_mono (h : Less A B) : ∀ {ps : List (Nat × Operand)} {ds : List (Nat × D)}, (∀ p ∈ ps, Seen A p.2) → givenParts E A ps = some ds → givenParts E B ps = some ds
  | [], _, _, hp => hp
  | (i, x) :: ps, ds, hs, hp => by
    simp only [givenParts] at hp ⊢
    split at hp
    · rename_i d ds' h1 h2
      rw [givenC_mono h (hs (i, x) (by simp)) h1, givenParts_mono h (fun p hp => hs p (by simp [hp])) h2]; exact hp
    · cases hp
theorem argD_mono (h : Less A B) {c : Operand} (hc : Seen A c) {b : Arg} (hb : ∀ x, b = .opn x → Seen A x) : argD E B c b = argD E A c b := by
  cases b with
  | opn x => exact opd_mono (E := E) h (hb x rfl)
  | cap j => simp only [argD, capsOf, opd_mono h hc]
theorem passRest_mono (h : Less A B) {f : Nat} {c : Operand} (hc : Seen A c) {l : Option D} : ∀ {bs : List Arg} {i : Nat} {ms : List (Option D)} {ds : List D}, (∀ b ∈ bs, ∀ x, b = .opn x → Seen A x) → passRest E f A A c l i bs ms = some ds → passRest E f B B c l i bs ms = some ds
  | [], i, ms, ds, _, hp => by cases ms <;> exact hp
  | b :: bs, i, [], ds, _, hp => by simp [passRest] at hp
  | b :: bs, i, m :: ms, ds, hb, hp => by
    simp only [passRest] at hp ⊢
    rw [argD_mono h hc (hb b (by simp))]
    split at hp
    · rename_i d ds' h1 h2
      rw [passRest_mono h hc (fun y hy => hb y (by simp [hy])) h2]
      have : restOne m (E.mode f i) l ((argD E A c b).bind (snapD B)) = some d := by
        cases m with
        | some x => exact h1
        | none =>
          cases hm : E.mode f i with
          | inout => rw [hm] at h1; exact h1
          | move => rw [hm] at h1; exact h1
          | snap =>
            rw [hm] at h1
            simp only [restOne] at h1 ⊢
            cases ha : argD E A c b with
            | none => simp [ha] at h1
            | some x => rw [ha] at h1; exact snapD_mono h h1
      rw [this]; exact hp
    · cases hp
theorem snapSrcs_mono (h : Less A B) {f : Nat} {c : Operand} (hc : Seen A c) : ∀ {bs : List Arg} {i : Nat}, (∀ b ∈ bs, ∀ x, b = .opn x → Seen A x) → snapSrcs E f B c i bs = snapSrcs E f A c i bs
  | [], _, _ => rfl
  | b :: bs, i, hb => by
    simp only [snapSrcs]
    rw [argD_mono h hc (hb b (by simp)), snapSrcs_mono h hc (fun y hy => hb y (by simp [hy]))]
theorem valC_mono {f : Nat} {call : Nat → List D → Option (D × List D)} (h : Less A B) {o : Oper} (hs : ∀ x ∈ o.op.operands.toList, Seen A x) {d : D} (hv : valC E f call A o = some d) : valC E f call B o = some d := by
  unfold valC at hv ⊢
  cases hq : o.op with
  | move x =>
    rw [hq] at hv hs
    have hx := hs x (by simp [Op.operands])
    simp only at hv ⊢
    cases x with
    | tmp t => simp only [h.seen hx rfl, opd] at hv ⊢; exact hv
    | _ => exact hv
  | assign x =>
    rw [hq] at hv hs
    have hx := hs x (by simp [Op.operands])
    simp only at hv ⊢
    cases x with
    | tmp t => simp only [h.seen hx rfl] at hv ⊢; exact hv
    | _ => exact hv
  | pick c x y =>
    rw [hq] at hv hs
    simp only [opd_mono h (hs c (by simp [Op.operands])), opd_mono h (hs x (by simp [Op.operands])), opd_mono h (hs y (by simp [Op.operands]))] at hv ⊢
    split at hv
    · rename_i t ht
      cases t
      · simp only [Bool.false_eq_true, if_false] at hv ⊢; rw [opd_mono h (hs y (by simp [Op.operands]))]; exact hv
      · simp only [if_true] at hv ⊢; rw [opd_mono h (hs x (by simp [Op.operands]))]; exact hv
    · cases hv
  | alloc t => rw [hq] at hv; exact hv
  | box t x =>
    rw [hq] at hv hs
    simp only at hv ⊢
    cases hg : givenC E A x with
    | none => simp [hg] at hv
    | some d' => rw [hg] at hv; rw [givenC_mono h (hs x (by simp [Op.operands])) hg]; exact hv
  | build t ps =>
    rw [hq] at hv hs
    simp only at hv ⊢
    have hsp : ∀ p ∈ ps.toList, Seen A p.2 := fun p hp => hs p.2 (by simp only [Op.operands, List.toList_toArray]; exact List.mem_map.2 ⟨p, hp, rfl⟩)
    cases hz : zeroT E.P t with
    | none => simp [hz] at hv
    | some z =>
      cases hp : givenParts E A ps.toList with
      | none => simp [hz, hp] at hv
      | some ds => rw [hz, hp] at hv; rw [givenParts_mono h hsp hp]; exact hv
  | buildSlice t m ps =>
    rw [hq] at hv hs
    simp only at hv ⊢
    have hsp : ∀ p ∈ ps.toList, Seen A p.2 := fun p hp => hs p.2 (by simp only [Op.operands, List.toList_toArray]; exact List.mem_map.2 ⟨p, hp, rfl⟩)
    cases hsl : sliceT E.P t with
    | none => simp [hsl] at hv
    | some e =>
      simp only [hsl] at hv ⊢
      cases hz : zeroT E.P e with
      | none => simp [hz] at hv
      | some z =>
        cases hp : givenParts E A ps.toList with
        | none => simp [hz, hp] at hv
        | some ds => rw [hz, hp] at hv; rw [givenParts_mono h hsp hp]; exact hv
  | load t x =>
    rw [hq] at hv hs
    simp only [opd_mono h (hs x (by simp [Op.operands]))] at hv ⊢
    cases ho : opd E A x with
    | none => simp [ho] at hv
    | some d1 => simp only [ho] at hv ⊢; exact loadD_mono h hv
  | nilCheck x =>
    rw [hq] at hv hs
    simp only [opd_mono h (hs x (by simp [Op.operands]))] at hv ⊢
    split at hv
    · try simp only
      split at hv
      · rename_i hg; rw [getAt_mono h hg (by simp)]; exact hv
      · rename_i hg; rw [getAt_mono h hg (by simp)]; exact hv
      · cases hv
    · exact hv
    · exact hv
    · cases hv
  | binOp op t x y yt =>
    rw [hq] at hv hs
    simp only [opd_mono h (hs x (by simp [Op.operands])), opd_mono h (hs y (by simp [Op.operands]))] at hv ⊢
    exact hv
  | unOp op t x =>
    rw [hq] at hv hs
    simp only [opd_mono h (hs x (by simp [Op.operands]))] at hv ⊢
    exact hv
  | convert s t x =>
    rw [hq] at hv hs
    simp only [opd_mono h (hs x (by simp [Op.operands]))] at hv ⊢
    cases ho : opd E A x with
    | none => simp [ho] at hv
    | some d1 => simp only [ho] at hv ⊢; exact convertD_mono h hv
  | makeFunc fn first caps =>
    rw [hq] at hv hs
    cases fn with
    | func g =>
      simp only at hv ⊢
      rw [capsD_mono h (fun x hx => hs x (by simp [Op.operands]; right; simpa using hx))]; exact hv
    | _ => cases hv
  | makeMap t r => rw [hq] at hv; cases r <;> exact hv
  | makeSlice t l c =>
    rw [hq] at hv hs
    simp only [opd_mono h (hs l (by simp [Op.operands])), opd_mono h (hs c (by simp [Op.operands]))] at hv ⊢
    exact hv
  | slice t x lo hi mx =>
    rw [hq] at hv hs
    cases mx with
    | some m => cases hv
    | none =>
      have ol : optNat E B lo = optNat E A lo := by
        cases lo with
        | none => rfl
        | some y => simp only [optNat, opd_mono h (hs y (by simp [Op.operands]))]
      have oh : optNat E B hi = optNat E A hi := by
        cases hi with
        | none => rfl
        | some y => simp only [optNat, opd_mono h (hs y (by simp [Op.operands]))]
      simp only [opd_mono h (hs x (by simp [Op.operands])), ol, oh] at hv ⊢
      cases ho : opd E A x with
      | none => simp [ho] at hv
      | some d1 =>
        cases hl : optNat E A lo with
        | none => simp [ho, hl] at hv
        | some l =>
          cases hh : optNat E A hi with
          | none => simp [ho, hl, hh] at hv
          | some hi' => simp only [ho, hl, hh] at hv ⊢; exact sliceD_mono h hv
  | fieldAddr t x j =>
    rw [hq] at hv hs
    simp only [opd_mono h (hs x (by simp [Op.operands]))] at hv ⊢
    cases hf : fieldT E.P t j with
    | none => simp [hf] at hv
    | some fd =>
      cases ho : opd E A x with
      | none => simp [hf, ho] at hv
      | some d1 =>
        cases hp : ptrOf A d1 with
        | none => simp [hf, ho, hp] at hv
        | some p => simp only [hf, ho, Option.bind_some, hp, ptrOf_mono h hp] at hv ⊢; exact hv
  | field t x j =>
    rw [hq] at hv hs
    simp only [opd_mono h (hs x (by simp [Op.operands]))] at hv ⊢
    exact hv
  | indexAddr t x ix =>
    rw [hq] at hv hs
    simp only [opd_mono h (hs x (by simp [Op.operands])), opd_mono h (hs ix (by simp [Op.operands]))] at hv ⊢
    cases ho : opd E A x with
    | none => simp [ho] at hv
    | some d1 =>
      cases ho2 : opd E A ix with
      | none => simp [ho, ho2] at hv
      | some d2 => simp only [ho, ho2] at hv ⊢; exact indexAddrD_mono h hv
  | index t x ix =>
    rw [hq] at hv hs
    simp only [opd_mono h (hs x (by simp [Op.operands])), opd_mono h (hs ix (by simp [Op.operands]))] at hv ⊢
    exact hv
  | lookup t x k ok =>
    rw [hq] at hv hs
    simp only [opd_mono h (hs x (by simp [Op.operands])), opd_mono h (hs k (by simp [Op.operands]))] at hv ⊢
    cases ho : opd E A x with
    | none => simp [ho] at hv
    | some d1 =>
      cases ho2 : opd E A k with
      | none => simp [ho, ho2] at hv
      | some d2 => simp only [ho, ho2] at hv ⊢; exact lookupD_mono h hv
  | extract x i =>
    rw [hq] at hv hs
    have hx := hs x (by simp [Op.operands])
    cases x with
    | tmp t => simp only [h.seen hx rfl] at hv ⊢; exact hv
    | _ => cases hv
  | call c =>
    rw [hq] at hv hs
    simp only at hv ⊢
    have hargs : ∀ x ∈ c.args.toList, Seen A x := fun x hx' => hs x (by simp [Op.operands, Call.operands]; right; simpa using hx')
    cases hc : c.callee with
    | invoke => rw [hc] at hv; cases hv
    | value x =>
      rw [hc] at hv
      have hx : Seen A x := hs x (by simp [Op.operands, Call.operands, hc])
      simp only [opd_mono h hx] at hv ⊢
      cases ho : opd E A x with
      | none => simp [ho] at hv
      | some dx =>
        cases dx with
        | fn g caps =>
          simp only [ho] at hv ⊢
          split at hv
          · rename_i hso
            simp only [hso, if_true]
            have hbs : ∀ b ∈ argsOf c.args.toList caps.length, ∀ y, b = .opn y → Seen A y := fun b hb y hy => by
              subst hy
              simp only [argsOf, List.mem_append, List.mem_map, Arg.opn.injEq, exists_eq_right, reduceCtorEq, and_false, exists_false, or_false] at hb
              exact hargs y hb
            cases hp : passRest E g A A x none 0 (argsOf c.args.toList caps.length) ((argsOf c.args.toList caps.length).map fun _ => none) with
            | none => simp [hp] at hv
            | some ds =>
              simp only [hp] at hv
              simp only [passRest_mono h hx hbs hp, snapSrcs_mono h hx hbs]
              split at hv
              · rename_i r hcl
                split at hv
                · rename_i hf
                  have : (r.flat || (snapSrcs E g A x 0 (argsOf c.args.toList caps.length)).all (immD B)) = true := by
                    simp only [Bool.or_eq_true] at hf ⊢
                    rcases hf with hf | hf
                    · exact .inl hf
                    · right
                      rw [List.all_eq_true] at hf ⊢
                      exact fun y hy => immD_mono h (hf y hy)
                  simp only [this, if_true]; exact hv
                · cases hv
              · cases hv
          · cases hv
        | _ => simp [ho] at hv
    | builtin b =>
      rw [hc] at hv
      try simp only at hv ⊢
      cases b with
      | len =>
        simp only at hv ⊢
        split at hv
        · rename_i x t ts hb2 hb3
          simp only [opd_mono h (hargs x (by rw [hb2]; simp))] at hv ⊢
          cases ho : opd E A x with
          | none => simp [ho] at hv
          | some d1 => simp only [ho] at hv ⊢; exact lenD_mono h hv
        · cases hv
      | max =>
        simp only at hv ⊢
        split at hv
        · rename_i x y hb2
          simp only [opd_mono h (hargs x (by rw [hb2]; simp)), opd_mono h (hargs y (by rw [hb2]; simp))] at hv ⊢
          exact hv
        · cases hv
      | min =>
        simp only at hv ⊢
        split at hv
        · rename_i x y hb2
          simp only [opd_mono h (hargs x (by rw [hb2]; simp)), opd_mono h (hargs y (by rw [hb2]; simp))] at hv ⊢
          exact hv
        · cases hv
      | _ => cases hv
  | _ => rw [hq] at hv; cases hv
theorem seesAll_spec {ops : Array Oper} {o : Oper} (h : seesAll ops A o = true) : (∀ x ∈ o.op.operands.toList, Seen A x) ∧ ∀ t ∈ guardTmp ops o, isUndef (get A t) = false := by
  unfold seesAll at h
  rw [List.all_eq_true] at h
  refine ⟨fun x hx t ht => ?_, fun t ht => ?_⟩
  · have := h t (List.mem_append_left _ (by unfold tmpsOf; rw [List.mem_filterMap]; exact ⟨x, hx, by rw [ht]⟩))
    simpa using this
  · have := h t (List.mem_append_right _ ht)
    simpa using this
theorem wantedD_mono (h : Less A B) {ops : Array Oper} {o : Oper} (hs : ∀ t ∈ guardTmp ops o, isUndef (get A t) = false) : wantedD ops B o = wantedD ops A o := by
  unfold wantedD
  cases hg : o.guard with
  | none => rfl
  | some q =>
    obtain ⟨j, b⟩ := q
    try simp only
    cases ht : (ops[j]?).bind (·.dst) with
    | none => rfl
    | some t =>
      have : get B t = get A t := by
        rcases h t with h | h
        · rw [hs t (by unfold guardTmp; simp [hg, ht])] at h; cases h
        · exact h
      simp only [this]
theorem pureC_mono {f : Nat} {call : Nat → List D → Option (D × List D)} (h : Less A B) {ops : Array Oper} {o : Oper} (hs : seesAll ops A o = true) {d : D} (hv : pureC E f call ops A o = some d) : pureC E f call ops B o = some d := by
  obtain ⟨h1, h2⟩ := seesAll_spec hs
  unfold pureC at hv ⊢
  rw [wantedD_mono h h2]
  split at hv
  · exact valC_mono h h1 hv
  · exact hv
  · cases hv
end
end Go.Own

namespace Go.Own
open D
abbrev Rs := List (Nat × Option Nat × D)
def appL (L : Nat → Bool) : Rs → Fr → Fr
  | [], F => F
  | (i, t, d) :: r, F => appL L r (if L i then set0 F t d else F)
def hasKey (F : Fr) (t : Nat) : Bool := F.any fun x => x.1 == t
def opDst (ops : Array Oper) (i : Nat) : Option Nat := (ops[i]?).bind (·.dst)
theorem hasKey_put0 (F : Fr) (s t : Nat) (d : D) (h : hasKey F t = true) : hasKey (put0 F s d) t = true := by
  induction F with
  | nil => simp [hasKey] at h
  | cons x r ih =>
    simp only [put0]
    split
    · rename_i hk
      subst hk
      simpa [hasKey] using h
    · simp only [hasKey, List.any_cons, Bool.or_eq_true] at h ⊢
      rcases h with h | h
      · exact .inl h
      · exact .inr (ih h)
theorem hasKey_set0 {F : Fr} {s : Option Nat} {t : Nat} {d : D} (h : hasKey F t = true) : hasKey (set0 F s d) t = true := by
  cases s with
  | none => exact h
  | some s => exact hasKey_put0 F s t d h
theorem put0_comm : ∀ (F : Fr) {s t : Nat} (d e : D), s ≠ t → hasKey F s = true → hasKey F t = true → put0 (put0 F s d) t e = put0 (put0 F t e) s d
  | [], s, t, d, e, _, h, _ => by simp [hasKey] at h
  | (k, x) :: r, s, t, d, e, hst, h1, h2 => by
    by_cases hs : k = s
    · subst hs
      have ht : k ≠ t := hst
      simp [put0, ht]
    · by_cases ht : k = t
      · subst ht
        simp [put0, hs]
      · have h1' : hasKey r s = true := by simpa [hasKey, hs] using h1
        have h2' : hasKey r t = true := by simpa [hasKey, ht] using h2
        simp only [put0, hs, ht, if_false, put0_comm r d e hst h1' h2']
theorem set0_comm {F : Fr} {s t : Option Nat} {d e : D} (h : ∀ a b, s = some a → t = some b → a ≠ b) (h1 : ∀ a, s = some a → hasKey F a = true) (h2 : ∀ b, t = some b → hasKey F b = true) : set0 (set0 F s d) t e = set0 (set0 F t e) s d := by
  cases s with
  | none => rfl
  | some s => cases t with
    | none => rfl
    | some t => exact put0_comm F d e (h s t rfl rfl) (h1 s rfl) (h2 t rfl)
theorem get_set0 {F : Fr} {t : Option Nat} {d : D} (s : Nat) : get (set0 F t d) s = if t = some s then d else get F s := by
  cases t with
  | none => simp [set0]
  | some t =>
    simp only [set0]
    by_cases h : t = s
    · subst h; simp [get_put0_same]
    · simp [h, get_put0_other F d (Ne.symm h)]
structure RsOK (F : Fr) (rs : Rs) : Prop where
  key : ∀ x ∈ rs, ∀ t, x.2.1 = some t → hasKey F t = true
  idx : (rs.map (·.1)).Nodup
  dst : ∀ x ∈ rs, ∀ y ∈ rs, x.1 ≠ y.1 → ∀ t, x.2.1 = some t → y.2.1 ≠ some t
theorem appL_hasKey {L : Nat → Bool} : ∀ {rs : Rs} {F : Fr} {t : Nat}, hasKey F t = true → hasKey (appL L rs F) t = true
  | [], _, _, h => h
  | (i, t', d) :: rs, F, t, h => by
    simp only [appL]
    refine appL_hasKey ?_
    split
    · exact hasKey_set0 h
    · exact h
theorem appL_put {L : Nat → Bool} : ∀ {rs : Rs} {F : Fr}, RsOK F rs → ∀ {i : Nat} {t : Option Nat} {d : D}, (i, t, d) ∈ rs → L i = false → appL (fun k => L k || k == i) rs F = set0 (appL L rs F) t d
  | [], _, _, _, _, _, h, _ => by cases h
  | (j, t', d') :: rs, F, hok, i, t, d, hm, hL => by
    have hok' : ∀ F', (∀ t, hasKey F t = true → hasKey F' t = true) → RsOK F' rs := fun F' hF => ⟨fun x hx s hs => hF s (hok.key x (by simp [hx]) s hs), by have := hok.idx; simp only [List.map_cons, List.nodup_cons] at this; exact this.2, fun x hx y hy => hok.dst x (by simp [hx]) y (by simp [hy])⟩
    have hnj : ∀ x ∈ rs, x.1 ≠ j := fun x hx he => by
      have := hok.idx
      simp only [List.map_cons, List.nodup_cons, List.mem_map, not_exists, not_and] at this
      exact this.1 x hx he
    simp only [appL]
    rcases List.mem_cons.1 hm with hm | hm
    · obtain ⟨e1, e2, e3⟩ : j = i ∧ t' = t ∧ d' = d := by simp only [Prod.mk.injEq] at hm; exact ⟨hm.1.symm, hm.2.1.symm, hm.2.2.symm⟩
      subst e1 e2 e3
      simp only [hL, beq_self_eq_true, Bool.or_true, if_true, Bool.false_eq_true, if_false]
      have key : ∀ {rs : Rs} {F : Fr}, (∀ x ∈ rs, x.1 ≠ j) → (∀ x ∈ rs, ∀ a b, t' = some a → x.2.1 = some b → a ≠ b) → (∀ a, t' = some a → hasKey F a = true) → (∀ x ∈ rs, ∀ b, x.2.1 = some b → hasKey F b = true) → appL (fun k => L k || k == j) rs (set0 F t' d') = set0 (appL L rs F) t' d' := by
        intro rs
        induction rs with
        | nil => intro F _ _ _ _; rfl
        | cons y rs ih =>
          obtain ⟨k, t2, d2⟩ := y
          intro F h1 h2 h3 h4
          have hk : (k == j) = false := by simpa using h1 (k, t2, d2) (by simp)
          simp only [appL, hk, Bool.or_false]
          by_cases hLk : L k = true
          · simp only [hLk, if_true]
            rw [set0_comm (h2 (k, t2, d2) (by simp)) h3 (h4 (k, t2, d2) (by simp))]
            exact ih (fun x hx => h1 x (by simp [hx])) (fun x hx => h2 x (by simp [hx])) (fun a ha => hasKey_set0 (h3 a ha)) (fun x hx b hb => hasKey_set0 (h4 x (by simp [hx]) b hb))
          · have hLk' : L k = false := by simpa using hLk
            simp only [hLk', Bool.false_eq_true, if_false]
            exact ih (fun x hx => h1 x (by simp [hx])) (fun x hx => h2 x (by simp [hx])) h3 (fun x hx => h4 x (by simp [hx]))
      refine key hnj (fun x hx a b ha hb he => ?_) (fun a ha => hok.key (j, t', d') (by simp) a ha) (fun x hx => hok.key x (by simp [hx]))
      subst he
      exact hok.dst (j, t', d') (by simp) x (by simp [hx]) (fun he => hnj x hx he.symm) a ha hb
    · have hij : (j == i) = false := by have := hnj _ hm; simpa using Ne.symm this
      simp only [hij, Bool.or_false]
      by_cases hLj : L j = true
      · simp only [hLj, if_true]
        exact appL_put (hok' _ fun t ht => hasKey_set0 ht) hm hL
      · have hLj' : L j = false := by simpa using hLj
        simp only [hLj', Bool.false_eq_true, if_false]
        exact appL_put (hok' _ fun t ht => ht) hm hL
theorem appL_get_other {L : Nat → Bool} : ∀ {rs : Rs} {F : Fr} {s : Nat}, (∀ x ∈ rs, x.2.1 = some s → L x.1 = false) → get (appL L rs F) s = get F s
  | [], _, _, _ => rfl
  | (i, t, d) :: rs, F, s, h => by
    simp only [appL]
    rw [appL_get_other (fun x hx => h x (by simp [hx]))]
    split
    · rename_i hL
      rw [get_set0]
      split
      · rename_i ht
        have := h (i, t, d) (by simp) ht
        rw [this] at hL; cases hL
      · rfl
    · rfl
theorem appL_get_same {L : Nat → Bool} : ∀ {rs : Rs} {F : Fr}, RsOK F rs → ∀ {i s : Nat} {d : D}, (i, some s, d) ∈ rs → L i = true → get (appL L rs F) s = d
  | [], _, _, _, _, _, h, _ => by cases h
  | (j, t', d') :: rs, F, hok, i, s, d, hm, hL => by
    have hnj : ∀ x ∈ rs, x.1 ≠ j := fun x hx he => by
      have := hok.idx
      simp only [List.map_cons, List.nodup_cons, List.mem_map, not_exists, not_and] at this
      exact this.1 x hx he
    simp only [appL]
    rcases List.mem_cons.1 hm with hm | hm
    · obtain ⟨e1, e2, e3⟩ : j = i ∧ t' = some s ∧ d' = d := by simp only [Prod.mk.injEq] at hm; exact ⟨hm.1.symm, hm.2.1.symm, hm.2.2.symm⟩
      subst e1 e2 e3
      rw [appL_get_other (fun x hx hs => absurd hs (hok.dst (j, some s, d') (by simp) x (by simp [hx]) (fun he => hnj x hx he.symm) s rfl))]
      simp only [hL, if_true, get_set0]
    · have hok' : ∀ F', (∀ t, hasKey F t = true → hasKey F' t = true) → RsOK F' rs := fun F' hF => ⟨fun x hx s hs => hF s (hok.key x (by simp [hx]) s hs), by have := hok.idx; simp only [List.map_cons, List.nodup_cons] at this; exact this.2, fun x hx y hy => hok.dst x (by simp [hx]) y (by simp [hy])⟩
      split
      · exact appL_get_same (hok' _ fun t ht => hasKey_set0 ht) hm hL
      · exact appL_get_same (hok' _ fun t ht => ht) hm hL
theorem appL_congr {L L' : Nat → Bool} : ∀ {rs : Rs} {F : Fr}, (∀ x ∈ rs, L x.1 = L' x.1) → appL L rs F = appL L' rs F
  | [], _, _ => rfl
  | (i, t, d) :: rs, F, h => by
    simp only [appL]
    rw [h (i, t, d) (by simp)]
    exact appL_congr fun x hx => h x (by simp [hx])
theorem appL_append {L : Nat → Bool} : ∀ {rs rs' : Rs} {F : Fr}, appL L (rs ++ rs') F = appL L rs' (appL L rs F)
  | [], _, _ => rfl
  | (i, t, d) :: rs, rs', F => by simp only [List.cons_append, appL]; exact appL_append
theorem get_maskF (hid : List Nat) : ∀ (F : Fr) (s : Nat), get (maskF hid F) s = if hid.contains s then .undef else get F s
  | [], s => by simp [maskF, get]
  | (k, d) :: r, s => by
    have ih := get_maskF hid r s
    simp only [maskF, List.map_cons] at ih ⊢
    by_cases hk : k = s
    · subst hk
      split
      · simp [get]
      · simp [get]
    · split <;> simp only [get, hk, if_false] <;> exact ih
def Fact (E : Env) (f : Nat) (call : Nat → List D → Option (D × List D)) (ops : Array Oper) (F : Fr) (b : Nat) (rs : Rs) (x : Nat × Option Nat × D) : Prop :=
  ∃ o, ops[x.1]? = some o ∧ o.dst = x.2.1 ∧ ∃ blk : List Nat, (∀ j ∈ blk, b ≤ j ∧ j < x.1) ∧ (∀ j, b ≤ j → j < x.1 → j ∈ blk) ∧
    let Fi := appL (fun k => decide (k < x.1)) rs F
    pureC E f call ops (maskF (hiddenOf ops blk x.1) Fi) o = some x.2.2 ∧ seesAll ops (maskF (hiddenOf ops blk x.1) Fi) o = true ∧ (∀ t, o.dst = some t → get F t = .undef)
structure Stretch (E : Env) (f : Nat) (call : Nat → List D → Option (D × List D)) (ops : Array Oper) (F : Fr) (b e : Nat) (rs : Rs) : Prop where
  le : b ≤ e
  ind : rs.map (·.1) = List.range' b (e - b)
  ok : RsOK F rs
  facts : ∀ x ∈ rs, Fact E f call ops F b rs x
def blkOf (b i : Nat) : List Nat := (List.range' b (i - b)).reverse
theorem mem_blkOf {b i j : Nat} : j ∈ blkOf b i ↔ b ≤ j ∧ j < i := by
  unfold blkOf
  simp only [List.mem_reverse, List.mem_range'_1]
  omega
theorem blkOf_succ {b i : Nat} (h : b ≤ i) : blkOf b (i + 1) = i :: blkOf b i := by
  unfold blkOf
  rw [show i + 1 - b = (i - b) + 1 by omega, List.range'_concat, List.reverse_append]
  simp; omega
theorem drawC_stretch {E : Env} {f : Nat} {V : List Nat} {call : Nat → List D → Option (D × List D)} {ops : Array Oper} {F Fend : Fr} {b : Nat} :
    ∀ (k i : Nat) {rs : Rs}, i + k = ops.size → Stretch E f call ops F b i rs → drawC E f V call ops (List.range' i k) (blkOf b i) (appL (fun _ => true) rs F) = some Fend →
      ∃ e rs', Stretch E f call ops F b e rs' ∧ e ≤ ops.size ∧
        ((e = ops.size ∧ Fend = appL (fun _ => true) rs' F) ∨
         ∃ o, ops[e]? = some o ∧ anchored ops e = true ∧ ∃ x, wantedD ops (appL (fun _ => true) rs' F) o = some x ∧
           ∃ F', (if x then opC E f V call (appL (fun _ => true) rs' F) o else some (fin (appL (fun _ => true) rs' F) o.dst (.tup []))) = some F' ∧ drawC E f V call ops (List.range' (e + 1) (ops.size - (e + 1))) [] F' = some Fend)
  | 0, i, rs, hk, hs, hd => by
    simp only [List.range'_zero, drawC, Option.some.injEq] at hd
    exact ⟨i, rs, hs, by omega, .inl ⟨by omega, hd.symm⟩⟩
  | k + 1, i, rs, hk, hs, hd => by
    simp only [List.range'_succ, drawC] at hd
    cases ho : ops[i]? with
    | none => simp [ho] at hd
    | some o =>
      simp only [ho] at hd
      by_cases han : anchored ops i = true
      case neg =>
        rw [if_neg han] at hd
        cases hp : pureC E f call ops (maskF (hiddenOf ops (blkOf b i) i) (appL (fun _ => true) rs F)) o with
        | none => simp [hp] at hd
        | some d =>
        simp only [hp] at hd
        split at hd
        case isFalse => cases hd
        rename_i hc
        simp only [Bool.and_eq_true] at hc
        obtain ⟨⟨hc1, hc2⟩, hc3⟩ := hc
        have hidx : ∀ x ∈ rs, b ≤ x.1 ∧ x.1 < i := fun x hx => by
          have : x.1 ∈ rs.map (·.1) := List.mem_map.2 ⟨x, hx, rfl⟩
          rw [hs.ind, List.mem_range'_1] at this
          omega
        have hall : ∀ {rs' : Rs}, appL (fun k => decide (k < i)) (rs ++ rs') F = appL (fun k => decide (k < i)) rs' (appL (fun _ => true) rs F) := fun {rs'} => by
          rw [appL_append]
          rw [appL_congr (L := fun k => decide (k < i)) (L' := fun _ => true) (rs := rs) (fun x hx => by simpa using (hidx x hx).2)]
        have hdst : ∀ x ∈ rs, ∀ t, o.dst = some t → x.2.1 ≠ some t := fun x hx t ht hxt => by
          obtain ⟨hb1, hb2⟩ := hidx x hx
          obtain ⟨o', ho', hdo', _⟩ := hs.facts x hx
          simp only [newDst, ht, List.all_eq_true] at hc3
          have := hc3 x.1 (mem_blkOf.2 ⟨hb1, hb2⟩)
          simp only [ho', Option.bind_some, hdo', hxt] at this
          simp at this
        have hfree : ∀ t, o.dst = some t → get (appL (fun _ => true) rs F) t = .undef ∧ hasKey (appL (fun _ => true) rs F) t = true := fun t ht => by
          simp only [freeDst, ht, Bool.and_eq_true] at hc2
          exact ⟨isUndef_iff.1 hc2.1, hc2.2⟩
        have hgF : ∀ t, o.dst = some t → get F t = .undef := fun t ht => by
          have := (hfree t ht).1
          rw [appL_get_other (fun x hx hxt => absurd hxt (hdst x hx t ht))] at this
          exact this
        have hkF : ∀ t, o.dst = some t → hasKey F t = true := fun t ht => by
          have h1 := (hfree t ht).2
          have : ∀ {rs : Rs} {F : Fr}, RsOK F rs → hasKey (appL (fun _ => true) rs F) t = true → (∀ x ∈ rs, x.2.1 ≠ some t) → hasKey F t = true := by
            intro rs
            induction rs with
            | nil => intro F _ h _; exact h
            | cons y rs ih =>
              obtain ⟨j, t2, d2⟩ := y
              intro F hok h hne
              simp only [appL, if_true] at h
              have hok' : RsOK (set0 F t2 d2) rs := ⟨fun x hx s hs => hasKey_set0 (hok.key x (by simp [hx]) s hs), by have := hok.idx; simp only [List.map_cons, List.nodup_cons] at this; exact this.2, fun x hx y hy => hok.dst x (by simp [hx]) y (by simp [hy])⟩
              have h2 := ih hok' h (fun x hx => hne x (by simp [hx]))
              cases t2 with
              | none => exact h2
              | some s =>
                have hst : s ≠ t := fun he => hne (j, some s, d2) (by simp) (by rw [he])
                have : ∀ (F : Fr), hasKey (put0 F s d2) t = true → hasKey F t = true := by
                  intro F
                  induction F with
                  | nil => intro h; simp [put0, hasKey, hst] at h
                  | cons z r ih2 =>
                    obtain ⟨kk, zz⟩ := z
                    intro h
                    simp only [put0] at h
                    split at h
                    · rename_i hks; subst hks; simpa [hasKey] using h
                    · simp only [hasKey, List.any_cons, Bool.or_eq_true] at h ⊢
                      rcases h with h | h
                      · exact .inl h
                      · exact .inr (ih2 h)
                exact this F h2
          exact this hs.ok h1 (fun x hx => hdst x hx t ht)
        have hs' : Stretch E f call ops F b (i + 1) (rs ++ [(i, o.dst, d)]) := by
          refine ⟨by have := hs.le; omega, ?_, ⟨?_, ?_, ?_⟩, ?_⟩
          · rw [List.map_append, hs.ind]
            have := hs.le
            rw [show i + 1 - b = (i - b) + 1 by omega, List.range'_concat]
            simp; omega
          · intro x hx t ht
            rcases List.mem_append.1 hx with hx | hx
            · exact hs.ok.key x hx t ht
            · simp only [List.mem_singleton] at hx; subst hx; exact hkF t ht
          · rw [List.map_append, List.nodup_append]
            refine ⟨hs.ok.idx, by simp, ?_⟩
            rintro x hx y hy rfl
            simp only [List.map_cons, List.map_nil, List.mem_singleton] at hy
            rw [hs.ind, List.mem_range'_1] at hx
            omega
          · intro x hx y hy hne t hxt hyt
            rcases List.mem_append.1 hx with hx | hx
            · rcases List.mem_append.1 hy with hy | hy
              · exact hs.ok.dst x hx y hy hne t hxt hyt
              · simp only [List.mem_singleton] at hy; subst hy
                exact hdst x hx t hyt hxt
            · simp only [List.mem_singleton] at hx; subst hx
              rcases List.mem_append.1 hy with hy | hy
              · exact hdst y hy t hxt hyt
              · simp only [List.mem_singleton] at hy; subst hy; exact hne rfl
          · intro x hx
            rcases List.mem_append.1 hx with hx | hx
            · obtain ⟨o', e1, e2, blk, e3, e4, e5, e6, e7⟩ := hs.facts x hx
              have hlt := (hidx x hx).2
              have he : appL (fun k => decide (k < x.1)) (rs ++ [(i, o.dst, d)]) F = appL (fun k => decide (k < x.1)) rs F := by
                rw [appL_append]
                have : decide (i < x.1) = false := by simp; omega
                simp [appL, this]
              exact ⟨o', e1, e2, blk, e3, e4, by simp only [he]; exact e5, by simp only [he]; exact e6, e7⟩
            · simp only [List.mem_singleton] at hx; subst hx
              have he : appL (fun k => decide (k < i)) (rs ++ [(i, o.dst, d)]) F = appL (fun _ => true) rs F := by
                rw [hall]
                have : decide (i < i) = false := by simp
                simp [appL]
              exact ⟨o, ho, rfl, blkOf b i, fun j hj => mem_blkOf.1 hj, fun j h1 h2 => mem_blkOf.2 ⟨h1, h2⟩, by simp only [he]; exact hp, by simp only [he]; exact hc1, hgF⟩
        have hfin : appL (fun _ => true) (rs ++ [(i, o.dst, d)]) F = set0 (appL (fun _ => true) rs F) o.dst d := by
          rw [appL_append]; simp [appL]
        refine drawC_stretch k (i + 1) (by omega) hs' ?_
        rw [hfin, blkOf_succ hs.le]; exact hd
      case pos =>
        rw [if_pos han] at hd
        refine ⟨i, rs, hs, by omega, .inr ⟨o, ho, han, ?_⟩⟩
        cases hw : wantedD ops (appL (fun _ => true) rs F) o with
        | none => simp [hw] at hd
        | some x =>
          refine ⟨x, rfl, ?_⟩
          rw [hw] at hd
          have hkk : k = ops.size - (i + 1) := by omega
          cases x with
          | true =>
            simp only at hd
            cases hc : opC E f V call (appL (fun _ => true) rs F) o with
            | none => simp [hc] at hd
            | some F1 =>
              simp only [hc] at hd
              exact ⟨F1, by simp, by rw [← hkk]; exact hd⟩
          | false => exact ⟨_, by simp; rfl, by rw [← hkk]; exact hd⟩
end Go.Own

namespace Go.Own
open D
def inL (listed : Array Bool) (i : Nat) : Bool := listed.getD i false
def ClosedL (ops : Array Oper) (listed : Array Bool) : Prop := ∀ i o, ops[i]? = some o → inL listed i = true → ∀ e ∈ o.after, Region.binds .any e = true → inL listed e.on = true
theorem reach_listed {ops : Array Oper} {listed : Array Bool} (hc : ClosedL ops listed) : ∀ (n j i : Nat) (o : Oper), ops[i]? = some o → (∀ e ∈ o.after, Region.binds .any e = true → inL listed e.on = true) → reach ops n j i = true → inL listed j = true
  | 0, j, i, o, _, _, h => by simp [reach] at h
  | n + 1, j, i, o, ho, hp, h => by
    simp only [reach, ho, List.any_eq_true] at h
    obtain ⟨ed, hk, h⟩ := h
    simp only [Bool.and_eq_true, Bool.or_eq_true, beq_iff_eq, decide_eq_true_eq] at h
    obtain ⟨⟨hb, _⟩, h⟩ := h
    have hin := hp ed (by simpa using hk) hb
    rcases h with h | ⟨_, h⟩
    · rw [← h]; exact hin
    · cases hq : ops[ed.on]? with
      | none => cases n <;> simp [reach, hq] at h
      | some o' => exact reach_listed hc n j _ o' hq (hc _ o' hq hin) h
theorem mem_ready {ops : Array Oper} {listed : Array Bool} (hsz : listed.size = ops.size) {i : Nat} : i ∈ Region.ready .any ops listed ↔ ∃ o, ops[i]? = some o ∧ inL listed i = false ∧ ∀ e ∈ o.after, Region.binds .any e = true → inL listed e.on = true := by
  unfold Region.ready
  simp only [List.mem_filter, List.mem_range, Bool.and_eq_true, Bool.not_eq_true']
  constructor
  · rintro ⟨hi, h1, h2⟩
    rw [Array.getElem?_eq_getElem hi] at h2
    simp only [Option.map_some, Option.getD_some, Array.all_eq_true, Bool.or_eq_true, Bool.not_eq_true'] at h2
    refine ⟨ops[i], Array.getElem?_eq_getElem hi, ?_, fun e he hb => ?_⟩
    · have hl : i < listed.size := by omega
      unfold inL
      simp only [Array.getD_eq_getD_getElem?, Array.getElem?_eq_getElem hl, Option.getD_some] at h1 ⊢
      exact h1
    · obtain ⟨k, hk, rfl⟩ := Array.getElem_of_mem he
      rcases h2 k hk with h3 | h3
      · rw [h3] at hb; cases hb
      · exact h3
  · rintro ⟨o, ho, h1, h2⟩
    have hi := (Array.getElem?_eq_some_iff.1 ho).1
    refine ⟨hi, ?_, ?_⟩
    · have hl : i < listed.size := by omega
      unfold inL at h1
      simp only [Array.getD_eq_getD_getElem?, Array.getElem?_eq_getElem hl, Option.getD_some] at h1 ⊢
      exact h1
    · rw [ho]
      simp only [Option.map_some, Option.getD_some, Array.all_eq_true, Bool.or_eq_true, Bool.not_eq_true']
      intro k hk
      by_cases hb : Region.binds .any o.after[k] = true
      · exact .inr (h2 _ (Array.getElem_mem hk) hb)
      · exact .inl (by simpa using hb)
theorem inL_set {listed : Array Bool} {i : Nat} (hi : i < listed.size) (k : Nat) : inL (listed.setIfInBounds i true) k = (inL listed k || k == i) := by
  unfold inL
  simp only [Array.getD_eq_getD_getElem?, Array.getElem?_setIfInBounds]
  by_cases h : i = k
  · subst h; simp [hi]
  · have : (k == i) = false := by simpa using Ne.symm h
    simp [h, this]
def left (ops : Array Oper) (listed : Array Bool) : Nat := ((List.range ops.size).filter fun i => !inL listed i).length
theorem left_set {ops : Array Oper} {listed : Array Bool} {i : Nat} (hs : listed.size = ops.size) (hi : i < ops.size) (hn : inL listed i = false) : left ops (listed.setIfInBounds i true) < left ops listed := by
  unfold left
  have : (fun k => !inL (listed.setIfInBounds i true) k) = fun k => (!inL listed k) && !(k == i) := by
    funext k; rw [inL_set (by omega)]; simp
  rw [this]
  rw [show ((List.range ops.size).filter fun k => (!inL listed k) && !(k == i)) = ((List.range ops.size).filter fun k => !inL listed k).filter fun k => !(k == i) by rw [List.filter_filter]; congr 1; funext k; rw [Bool.and_comm]]
  refine List.length_filter_lt_length_iff_exists.2 ⟨i, ?_, by simp⟩
  rw [List.mem_filter, List.mem_range]
  exact ⟨hi, by simp [hn]⟩
section
variable {n : Nat} {R : Nat → Value} {M : Mem} {G : FT} {H : Blks} {w0 : World} {B : List Nat}
theorem fin_free {F : Fr} {dst : Option Nat} {d : D} (h : ∀ t, dst = some t → get F t = .undef) : fin F dst d = set0 F dst d := by
  cases dst with
  | none => rfl
  | some t => simp only [fin, put, h t rfl, D.quiet, if_true, set0]
theorem act_ok {E : Env} {f : Nat} {V : List Nat} {call : Nat → List D → Option (D × List D)} (hcall : CallsOK E call) (hgd : Good E M) {ops : Array Oper} (hfit : OpsFit n ops) {Q : Exit → Act → World → Prop} {F F' : Fr} {a : Act} {w : World} (h : Post n R M B w0 F a w) {i : Nat} {o : Oper} (ho : ops[i]? = some o) {x : Bool} (hw : wantedD ops F o = some x)
    (hop : (if x then opC E f V call F o else some (fin F o.dst (.tup []))) = some F') {K : Act → World → Prop} (hK : ∀ a' w', Post n R M B w0 F' a' w' → K a' w') : wpOp E.P ops Q i K a w := by
  obtain ⟨M1, G1, h1, e1⟩ := h
  unfold wpOp
  simp only [ho]
  rw [wantedD_ok h1 hfit.guard hw]
  cases x with
  | true =>
    simp only [if_true] at hop ⊢
    exact .inl (opC_ok hcall (hgd.mono e1.memle) h1 (hfit i o ho) hop fun a' w' hp => hK _ _ (hp.trans e1))
  | false =>
    simp only [Bool.false_eq_true, if_false, Option.some.injEq] at hop ⊢
    subst hop
    exact hK _ _ ((finish_unit h1 o.dst (hfit i o ho).2 (Evo.refl M1 _ _)).trans e1)
theorem drawn_any {E : Env} {f : Nat} {V : List Nat} {call : Nat → List D → Option (D × List D)} (hcall : CallsOK E call) (hgd : Good E M) {ops : Array Oper} (hfit : OpsFit n ops) (hback : edgesBack ops = true) {Q : Exit → Act → World → Prop} {Fend : Fr} (hQ : ∀ a' w', Post n R M B w0 Fend a' w' → Q .normal a' w') :
    ∀ (fuel : Nat) {listed : Array Bool} {b : Nat} {F : Fr} {a : Act} {w : World} {e : Nat} {rs : Rs}, listed.size = ops.size → left ops listed ≤ fuel → ClosedL ops listed → b ≤ ops.size → (∀ i, i < b → inL listed i = true) →
      Stretch E f call ops F b e rs → e ≤ ops.size → (∀ i, inL listed i = true → i < e) →
      ((e = ops.size ∧ Fend = appL (fun _ => true) rs F) ∨
         ∃ o, ops[e]? = some o ∧ anchored ops e = true ∧ ∃ x, wantedD ops (appL (fun _ => true) rs F) o = some x ∧
           ∃ F', (if x then opC E f V call (appL (fun _ => true) rs F) o else some (fin (appL (fun _ => true) rs F) o.dst (.tup []))) = some F' ∧ drawC E f V call ops (List.range' (e + 1) (ops.size - (e + 1))) [] F' = some Fend) →
      Post n R M B w0 (appL (inL listed) rs F) a w → wpAny E.P .any ops Q fuel listed a w := by
  intro fuel
  induction fuel with
  | zero =>
    intro listed b F a w e rs hsz hleft hcl hb hlow hst he hhigh hend hpost
    have hall : ∀ i, i < ops.size → inL listed i = true := fun i hi => by
      cases hin : inL listed i with
      | true => rfl
      | false =>
        have : i ∈ (List.range ops.size).filter fun i => !inL listed i := by rw [List.mem_filter, List.mem_range]; exact ⟨hi, by simp [hin]⟩
        have h0 := List.length_pos_of_mem this
        unfold left at hleft
        omega
    have hee : e = ops.size := by
      by_cases hz : ops.size = 0
      · omega
      · have := hhigh (ops.size - 1) (hall _ (by omega))
        omega
    have hF : Fend = appL (inL listed) rs F := by
      rcases hend with ⟨_, h⟩ | ⟨o, ho, _⟩
      · rw [h]
        refine appL_congr fun x hx => ?_
        have : x.1 ∈ rs.map (·.1) := List.mem_map.2 ⟨x, hx, rfl⟩
        rw [hst.ind, List.mem_range'_1] at this
        exact (hall x.1 (by have := hst.le; omega)).symm
      · have := (Array.getElem?_eq_some_iff.1 ho).1
        omega
    refine ⟨?_, ?_⟩
    · rw [List.eq_nil_iff_forall_not_mem]
      intro i hi
      obtain ⟨o, ho, h1, _⟩ := (mem_ready hsz).1 hi
      rw [hall i (Array.getElem?_eq_some_iff.1 ho).1] at h1
      cases h1
    · rw [← hF] at hpost; exact hQ _ _ hpost
  | succ fuel ih =>
    intro listed b F a w e rs hsz hleft hcl hb hlow hst he hhigh hend hpost
    have hidx : ∀ x ∈ rs, b ≤ x.1 ∧ x.1 < e := fun x hx => by
      have : x.1 ∈ rs.map (·.1) := List.mem_map.2 ⟨x, hx, rfl⟩
      rw [hst.ind, List.mem_range'_1] at this
      have := hst.le
      omega
    have first : ∀ m, m < ops.size → inL listed m = false → (∀ i, i < m → inL listed i = true) → m ∈ Region.ready .any ops listed := fun m hm hn hlt => by
      rw [mem_ready hsz]
      refine ⟨ops[m], Array.getElem?_eq_getElem hm, hn, fun ed hed hbd => ?_⟩
      have hbk := List.all_eq_true.1 hback m (List.mem_range.2 hm)
      rw [Array.getElem?_eq_getElem hm] at hbk
      simp only [List.all_eq_true] at hbk
      have := hbk ed (by simpa using hed)
      simp only [hbd, Bool.not_true, Bool.false_or, decide_eq_true_eq] at this
      exact hlt _ this
    have full : (∀ i, i < e → inL listed i = true) → appL (inL listed) rs F = appL (fun _ => true) rs F := fun hh => appL_congr fun x hx => hh x.1 (hidx x hx).2
    constructor
    · intro hnil
      have hall : ∀ i, i < ops.size → inL listed i = true := by
        intro i
        induction i using Nat.strongRecOn with
        | ind i ihh =>
          intro hi
          cases hin : inL listed i with
          | true => rfl
          | false =>
            have := first i hi hin (fun k hk => ihh k hk (by omega))
            rw [hnil] at this; cases this
      have hee : e = ops.size := by
        by_cases hz : ops.size = 0
        · omega
        · have := hhigh (ops.size - 1) (hall _ (by omega))
          omega
      rcases hend with ⟨_, h⟩ | ⟨o, ho, _⟩
      · rw [full (fun i hi => hall i (by omega)), ← h] at hpost
        exact hQ _ _ hpost
      · have := (Array.getElem?_eq_some_iff.1 ho).1
        omega
    · intro i hi
      obtain ⟨o, ho, hni, hpre⟩ := (mem_ready hsz).1 hi
      have hio := (Array.getElem?_eq_some_iff.1 ho).1
      have hbi : b ≤ i := by
        rcases Nat.lt_or_ge i b with h | h
        · rw [hlow i h] at hni; cases hni
        · exact h
      have hsz' : (listed.setIfInBounds i true).size = ops.size := by simpa using hsz
      have hcl' : ClosedL ops (listed.setIfInBounds i true) := by
        intro k ok hk hkin ed hed hbd
        rw [inL_set (by omega)] at hkin ⊢
        simp only [Bool.or_eq_true, beq_iff_eq] at hkin ⊢
        rcases hkin with hkin | rfl
        · exact .inl (hcl k ok hk hkin ed hed hbd)
        · rw [ho] at hk; cases hk
          exact .inl (hpre ed hed hbd)
      have hleft' : left ops (listed.setIfInBounds i true) ≤ fuel := by
        have := left_set hsz hio hni
        omega
      by_cases hie : i < e
      ·
        have hmem : i ∈ rs.map (·.1) := by rw [hst.ind, List.mem_range'_1]; have := hst.le; omega
        obtain ⟨x, hx, hx1⟩ := List.mem_map.1 hmem
        obtain ⟨i', t, d⟩ := x
        simp only at hx1
        subst hx1
        obtain ⟨o', ho', hdst, blk, hb1, hb2, hp, hsee, hfree⟩ := hst.facts _ hx
        simp only at ho' hdst hp hsee hb1 hb2
        rw [ho] at ho'; cases ho'
        subst hdst
        have hless : Less (maskF (hiddenOf ops blk i') (appL (fun k => decide (k < i')) rs F)) (appL (inL listed) rs F) := by
          intro s
          rw [get_maskF]
          by_cases hh : (hiddenOf ops blk i').contains s = true
          · left; simp only [hh, if_true]; rfl
          · simp only [hh, Bool.false_eq_true, if_false]
            by_cases hex : ∃ y ∈ rs, y.2.1 = some s
            · obtain ⟨⟨j, tj, dj⟩, hy, hys⟩ := hex
              simp only at hys
              subst hys
              by_cases hji : j < i'
              · have hbj := (hidx _ hy).1
                simp only at hbj
                have hr : reach ops ops.size j i' = true := by
                  cases hr : reach ops ops.size j i' with
                  | true => rfl
                  | false =>
                    exfalso
                    apply hh
                    rw [List.contains_iff_mem]
                    unfold hiddenOf
                    rw [List.mem_filterMap]
                    refine ⟨j, ?_, ?_⟩
                    · rw [List.mem_filter]; exact ⟨hb2 j hbj hji, by simp [hr]⟩
                    · obtain ⟨oj, hoj, hdj, _⟩ := hst.facts _ hy
                      simp only at hoj hdj
                      simp [hoj, hdj]
                have hLj : inL listed j = true := reach_listed hcl ops.size j i' o ho hpre hr
                right
                rw [appL_get_same hst.ok hy hLj, appL_get_same hst.ok hy (by simpa using hji)]
              · left
                have : get (appL (fun k => decide (k < i')) rs F) s = get F s := appL_get_other (fun y' hy' hs' => by
                  by_cases hjj : y'.1 = j
                  · rw [hjj]; simpa using hji
                  · exact absurd hs' (hst.ok.dst (j, some s, dj) hy y' hy' (fun h => hjj h.symm) s rfl))
                rw [this]
                obtain ⟨oj, hoj, hdj, _, _, _, _, _, hfj⟩ := hst.facts _ hy
                simp only at hdj
                rw [hfj s hdj]; rfl
            · right
              have hno : ∀ y ∈ rs, y.2.1 ≠ some s := fun y hy hs => hex ⟨y, hy, hs⟩
              rw [appL_get_other (fun y hy hs => absurd hs (hno y hy)), appL_get_other (fun y hy hs => absurd hs (hno y hy))]
        have hpc := pureC_mono hless hsee hp
        have hfr : ∀ s, o.dst = some s → get (appL (inL listed) rs F) s = .undef := fun s hs => by
          rw [appL_get_other (fun y hy hys => by
            by_cases hjj : y.1 = i'
            · rw [hjj]; exact hni
            · exact absurd hys (hst.ok.dst (i', o.dst, d) hx y hy (fun h => hjj h.symm) s hs))]
          exact hfree s hs
        unfold pureC at hpc
        have hwx : ∃ xb, wantedD ops (appL (inL listed) rs F) o = some xb ∧ (if xb then opC E f V call (appL (inL listed) rs F) o else some (fin (appL (inL listed) rs F) o.dst (.tup []))) = some (set0 (appL (inL listed) rs F) o.dst d) := by
          split at hpc
          · rename_i hwt
            refine ⟨true, hwt, ?_⟩
            simp only [if_true]
            rw [valC_opC hpc, fin_free hfr]
          · rename_i hwt
            refine ⟨false, hwt, ?_⟩
            simp only [Option.some.injEq] at hpc; subst hpc
            simp only [Bool.false_eq_true, if_false, fin_free hfr]
          · cases hpc
        obtain ⟨xb, hw, hop⟩ := hwx
        refine act_ok hcall hgd hfit hpost ho hw hop fun a' w' hp' => ?_
        refine ih hsz' hleft' hcl' hb (fun k hk => by rw [inL_set (by omega), hlow k hk]; rfl) hst he (fun k hk => ?_) hend ?_
        · rw [inL_set (by omega)] at hk
          simp only [Bool.or_eq_true, beq_iff_eq] at hk
          rcases hk with hk | rfl
          · exact hhigh k hk
          · exact hie
        · have : appL (inL (listed.setIfInBounds i' true)) rs F = appL (fun k => inL listed k || k == i') rs F := appL_congr fun y _ => inL_set (listed := listed) (i := i') (by omega) y.1
          rw [this, appL_put hst.ok hx hni]
          exact hp'
      ·
        rcases hend with ⟨hee, _⟩ | ⟨oe, hoe, han, xb, hw, F', hop, hrest⟩
        · omega
        · have hsize := (Array.getElem?_eq_some_iff.1 hoe).1
          have hanc := List.all_eq_true.1 han
          have hie' : i = e := by
            rcases Nat.lt_or_ge e i with hlt | hge
            · have := hanc i (List.mem_range.2 hio)
              rw [if_neg (by omega), if_pos hlt] at this
              have hin := reach_listed hcl ops.size e i o ho hpre this
              have := hhigh e hin
              omega
            · omega
          subst hie'
          rw [ho] at hoe; cases hoe
          have hallb : ∀ k, k < i → inL listed k = true := fun k hk => by
            have := hanc k (List.mem_range.2 (by omega))
            rw [if_pos hk] at this
            exact reach_listed hcl ops.size k i o ho hpre this
          rw [full hallb] at hpost
          refine act_ok hcall hgd hfit hpost ho hw hop fun a' w' hp' => ?_
          have hlow' : ∀ k, k < i + 1 → inL (listed.setIfInBounds i true) k = true := fun k hk => by
            rw [inL_set (by omega)]
            rcases Nat.lt_or_ge k i with h | h
            · rw [hallb k h]; rfl
            · have : k = i := by omega
              simp [this]
          obtain ⟨e2, rs2, hst2, he2, hend2⟩ := drawC_stretch (E := E) (f := f) (V := V) (call := call) (ops := ops) (F := F') (b := i + 1) (ops.size - (i + 1)) (i + 1) (rs := []) (by omega) ⟨Nat.le_refl _, by simp, ⟨by simp, by simp, by simp⟩, by simp⟩ (by simpa [blkOf, appL] using hrest)
          refine ih hsz' hleft' hcl' (by omega) hlow' hst2 he2 (fun k hk => ?_) hend2 ?_
          · rw [inL_set (by omega)] at hk
            simp only [Bool.or_eq_true, beq_iff_eq] at hk
            have := hst2.le
            rcases hk with hk | rfl
            · have := hhigh k hk; omega
            · omega
          · have : appL (inL (listed.setIfInBounds i true)) rs2 F' = F' := by
              have hnone : ∀ {rs : Rs} {F : Fr}, (∀ y ∈ rs, inL (listed.setIfInBounds i true) y.1 = false) → appL (inL (listed.setIfInBounds i true)) rs F = F := by
                intro rs
                induction rs with
                | nil => intro F _; rfl
                | cons y rs ihh =>
                  obtain ⟨k, t, d⟩ := y
                  intro F hy
                  simp only [appL, hy (k, t, d) (by simp), Bool.false_eq_true, if_false]
                  exact ihh fun y hy' => hy y (by simp [hy'])
              refine hnone fun y hy => ?_
              have : y.1 ∈ rs2.map (·.1) := List.mem_map.2 ⟨y, hy, rfl⟩
              rw [hst2.ind, List.mem_range'_1] at this
              rw [inL_set (listed := listed) (i := i) (by omega)]
              cases hin : inL listed y.1 with
              | true => have := hhigh y.1 hin; omega
              | false => simp; omega
            rw [this]; exact hp'
theorem fresh_ok : ∀ (l : List Oper) {F : Fr} {a : Act} {w : World}, (∀ o ∈ l, ∀ t, o.dst = some t → t < n) → Post n R M B w0 F a w → Post n R M B w0 (freshC F l) a w
  | [], _, _, _, _, h => h
  | o :: l, F, a, w, hl, h => by
    have one : ∀ t, t < n → Post n R M B w0 (put F t .undef) a w := fun t ht => by
      obtain ⟨M1, G1, h1, e1⟩ := h
      have hlt : t < a.tmps.size := by rw [h1.size]; exact ht
      have hb : (T.leaf .undef (a.tmps[t])).blocks = [] := by simp [T.blocks]
      have := finish (M := M1) (w := w) (B := keys (blocksF G1)) (t := .leaf .undef a.tmps[t]) (by rw [hb]; exact h1) (by simp [T.tidy]) (by simp [SlotOK, LOK, L1]) (some t) (fun d hd => by cases hd; exact ht) (by rw [hb]; simpa using Evo.refl M1 _ w)
      have he : a.put (some t) a.tmps[t] = a := by
        unfold Act.put
        have : a.tmps.setIfInBounds t a.tmps[t] = a.tmps := by
          apply Array.ext'
          rw [Array.toList_setIfInBounds]
          exact set_self (by rw [Array.getElem?_toList, Array.getElem?_eq_getElem hlt])
        show ({ a with tmps := a.tmps.setIfInBounds t a.tmps[t] } : Act) = a
        rw [this]
      simp only [T.erase, T.val, he, fin] at this
      exact this.trans e1
    simp only [freshC]
    split
    · rename_i t _ _
      have ht : o.dst = some t := by assumption
      cases isUndef (get F t) with
      | true => exact fresh_ok l (fun o ho => hl o (by simp [ho])) (one t (hl o (by simp) t ht))
      | false => exact fresh_ok l (fun o ho => hl o (by simp [ho])) h
    · exact fresh_ok l (fun o ho => hl o (by simp [ho])) h
    · rename_i t _ _
      have ht : o.dst = some t := by assumption
      exact fresh_ok l (fun o ho => hl o (by simp [ho])) (one t (hl o (by simp) t ht))
    · exact fresh_ok l (fun o ho => hl o (by simp [ho])) h
theorem region_drawn {E : Env} {f : Nat} {V : List Nat} {call : Nat → List D → Option (D × List D)} (hcall : CallsOK E call) (hgd : Good E M) (hm : E.P.follows .mixedOrders = true) {ops : Array Oper} (hfit : OpsFit n ops) {Q : Exit → Act → World → Prop} {id : Nat} {F Fend : Fr} {a : Act} {w : World} (h : Post n R M B w0 F a w)
    (hback : edgesBack ops = true) (hd : drawC E f V call ops (List.range ops.size) [] (freshC F ops.toList) = some Fend) (hQ : ∀ a' w', Post n R M B w0 Fend a' w' → Q .normal a' w') : (Code.region id ops true).wp E.P Q a w := by
  refine wp_region_any hm ?_
  have h2 : Post n R M B w0 (freshC F ops.toList) a { w with drawn := w.drawn + 1 } := by
    obtain ⟨M1, G1, h1, e1⟩ := fresh_ok ops.toList (fun o ho t ht => by
      obtain ⟨i, hi, rfl⟩ := List.getElem_of_mem ho
      exact (hfit i _ (by rw [Array.getElem?_eq_getElem (by simpa using hi)]; simp)).2 t ht) h
    exact ⟨M1, G1, h1.heapEq rfl, e1.heapEq rfl rfl rfl rfl⟩
  obtain ⟨e, rs, hst, he, hend⟩ := drawC_stretch (E := E) (f := f) (V := V) (call := call) (ops := ops) (F := freshC F ops.toList) (b := 0) ops.size 0 (rs := []) (by omega) ⟨Nat.le_refl _, by simp, ⟨by simp, by simp, by simp⟩, by simp⟩ (by simpa [blkOf, appL, List.range_eq_range'] using hd)
  have hrep : ∀ i, inL (Array.replicate ops.size false) i = false := fun i => by
    unfold inL
    simp only [Array.getD_eq_getD_getElem?, Array.getElem?_replicate]
    split <;> rfl
  refine drawn_any hcall hgd hfit hback hQ ops.size (b := 0) (by simp) ?_ (fun i o _ hi => by rw [hrep] at hi; cases hi) (Nat.zero_le _) (fun i hi => by omega) hst he (fun i hi => by rw [hrep] at hi; cases hi) hend ?_
  · unfold left
    have := List.length_filter_le (fun i => !inL (Array.replicate ops.size false) i) (List.range ops.size)
    simpa using this
  · have : appL (inL (Array.replicate ops.size false)) rs (freshC F ops.toList) = freshC F ops.toList := by
      generalize freshC F ops.toList = F0
      clear hst hend
      induction rs generalizing F0 with
      | nil => rfl
      | cons y rs ih => obtain ⟨k, t, d⟩ := y; simp only [appL, hrep k, Bool.false_eq_true, if_false]; exact ih F0
    rw [this]; exact h2
end
end Go.Own
