/- What the functions that the law reaches answer. No conditions. -/
import Derived.Test.YtdlkdimkhmpkkaaDoorAttrsetRestoredLaw3
import Derived.Test.YtdlkdimkhmpkkaaDoorAttrsetRestoredLaw7
set_option linter.all false

namespace Go.Own
theorem bl_nil : ((⟨#[]⟩ : ByteArray)).toList = [] := bl_mk (l := [])
def badByte (x : Int) : Bool := if x ≤ 32 then true else x == 127
def nameOk (s : ByteArray) : Bool := !s.toList.isEmpty && !s.toList.any (fun b => badByte (u8i b))
def eqS (x a : ByteArray) : Bool := decide (a = x)
def namesGo : List ByteArray → List ByteArray → Bool
  | _, [] => true
  | pre, a :: r => nameOk a && !pre.any (eqS a) && namesGo (pre ++ [a]) r
def namesF (l : List ByteArray) : Bool := namesGo [] l
def vN (l : List ByteArray) : Int := if 16 < l.length then 3 else if namesF l = true then 0 else 1
namespace slices_Index_sstring_string
theorem spec {l : List ByteArray} {x : ByteArray} (hn : l.length < Big) : C l x (ixI (eqS x) l) := by
  obtain ⟨r, h1, h2⟩ := enter l x (fun r => r = ixI (eqS x) l) (by
    refine index_loop (l := l) (p := eqS x) (L := fun i => L1 l x i _) (φ := fun r => r = ixI (eqS x) l) ?_ ?_ rfl
    · intro h; apply L1_step; rw [if_neg (by omega)]; exact h
    · intro k a ha hk h
      apply L1_step
      rw [if_pos (by omega)]
      refine ⟨a, lget_of ha, ?_⟩
      rw [wrap_succ (by unfold Big at hn; omega)]
      split
      · rename_i hh; rw [if_pos (by simp [eqS, bl_inj.1 hh])] at h; exact h
      · rename_i hh; rw [if_neg (by simp only [eqS, decide_eq_true_eq]; rintro rfl; exact hh rfl)] at h; exact h)
  rw [← h1]; exact h2
end slices_Index_sstring_string
theorem slices_Contains_sstring_string.spec {l : List ByteArray} {x : ByteArray} (hn : l.length < Big) : slices_Contains_sstring_string.C l x (l.any (eqS x)) := by
  obtain ⟨r, h1, h2⟩ := slices_Contains_sstring_string.enter l x (fun r => r = l.any (eqS x)) ⟨_, slices_Index_sstring_string.spec hn, by rw [ixI_any]⟩
  rw [← h1]; exact h2
theorem attrset_checked_1.spec {x : Int} : attrset_checked_1.C x (badByte x) := by
  obtain ⟨r, h1, h2⟩ := attrset_checked_1.enter x (fun r => r = badByte x) (by
    unfold badByte
    split <;> rfl)
  rw [← h1]; exact h2
theorem slices_ContainsFunc_sbyte_byte_attrset_checked_1.spec {l : List Int} (hl : l.length < 9223372036854775807) : slices_ContainsFunc_sbyte_byte_attrset_checked_1.C l (l.any badByte) := by
  obtain ⟨q, g1, g2⟩ := slices_IndexFunc_sbyte_byte_attrset_checked_1.enter l (fun r => r = ixI badByte l) (by
    refine index_loop (l := l) (p := badByte) (L := fun i => slices_IndexFunc_sbyte_byte_attrset_checked_1.L1 l i _) (φ := fun r => r = ixI badByte l) ?_ ?_ rfl
    · intro h; apply slices_IndexFunc_sbyte_byte_attrset_checked_1.L1_step; rw [if_neg (by omega)]; exact h
    · intro k b hb hk h
      apply slices_IndexFunc_sbyte_byte_attrset_checked_1.L1_step
      rw [if_pos (by omega)]
      refine ⟨b, lget_of hb, _, attrset_checked_1.spec, ?_⟩
      rw [wrap_succ (by omega)]; exact h)
  subst g1
  obtain ⟨r, h1, h2⟩ := slices_ContainsFunc_sbyte_byte_attrset_checked_1.enter l (fun r => r = l.any badByte) ⟨_, g2, ixI_any⟩
  rw [← h1]; exact h2
theorem names_loop {l : List ByteArray} {L : Int → Prop} {P Q : Prop} (stop : P → L (l.length : Int))
    (step : ∀ (k : Nat) a, l[k]? = some a → k < l.length → (if nameOk a = true then (if (l.take k).any (eqS a) = true then Q else L ((k + 1 : Nat) : Int)) else Q) → L k) (h : namesF l = true → P) (h' : namesF l = false → Q) : L 0 := by
  have : ∀ (r : List ByteArray) (k : Nat), l.drop k = r → k ≤ l.length → (namesGo (l.take k) r = true → P) → (namesGo (l.take k) r = false → Q) → L k := by
    intro r
    induction r with
    | nil => intro k hd hk h h'; have : k = l.length := by have := drop_ge hd; omega
             subst this; exact stop (h rfl)
    | cons a r ih =>
      intro k hd hk h h'
      have hlt := drop_lt hd
      refine step k a (drop_get hd) hlt ?_
      have hn := ih (k + 1) (drop_next hd) hlt
      have e : l.take (k + 1) = l.take k ++ [a] := by rw [List.take_add_one, drop_get hd]; rfl
      rw [e] at hn
      simp only [namesGo] at h h'
      split
      · rename_i h1
        split
        · rename_i h2
          exact h' (by simp [h1, h2])
        · rename_i h2
          have h2 := Bool.eq_false_iff.2 h2
          exact hn (fun hh => h (by simp [h1, h2, hh])) (fun hh => h' (by simp [h1, h2, hh]))
      · rename_i h1
        have h1 := Bool.eq_false_iff.2 h1
        exact h' (by simp [h1])
  exact this l 0 rfl (Nat.zero_le _) h h'
theorem bytesI_any {a : ByteArray} : (bytesI a).any badByte = a.toList.any fun b => badByte (u8i b) := by
  rw [bl_eq]; unfold bytesI
  rw [List.any_map]; rfl
theorem empty_iff {a : ByteArray} : a.toList = (⟨#[]⟩ : ByteArray).toList ↔ a.toList.isEmpty = true := by
  rw [bl_nil, List.isEmpty_iff]
theorem attrset_checked.spec {l : List ByteArray} (hs : ∀ a ∈ l, a.size ≤ 9223372036854775806) : attrset_checked.C l (vN l) := by
  obtain ⟨r, h1, h2⟩ := attrset_checked.enter l (fun r => r = vN l) (by
    unfold vN
    by_cases h16 : 16 < l.length
    · rw [if_pos (by omega), if_pos h16]
    · rw [if_neg (by omega), if_neg h16]
      refine names_loop (l := l) (L := fun i => attrset_checked.L1 l i _) (P := (0 : Int) = if namesF l = true then 0 else 1) (Q := (1 : Int) = if namesF l = true then 0 else 1) ?_ ?_ (fun h => by rw [if_pos h]) (fun h => by rw [if_neg (by rw [h]; decide)])
      · intro h; apply attrset_checked.L1_step; rw [if_neg (by omega)]; exact h
      · intro k a ha hk h
        apply attrset_checked.L1_step
        rw [if_pos (by omega)]
        refine ⟨a, lget_of ha, ?_⟩
        have hsz := hs a (List.mem_of_getElem? ha)
        by_cases he : a.toList.isEmpty = true
        · rw [if_pos (empty_iff.2 he)]
          rw [if_neg (by unfold nameOk; rw [he]; simp)] at h; exact h
        · rw [if_neg (fun hh => he (empty_iff.1 hh))]
          refine ⟨by omega, _, slices_ContainsFunc_sbyte_byte_attrset_checked_1.spec (by unfold bytesI; rw [List.length_map, ← bl_eq, ← bsize_nat]; omega), ?_⟩
          rw [bytesI_any]
          have he := Bool.eq_false_iff.2 he
          cases hb : a.toList.any fun b => badByte (u8i b) with
          | true =>
            rw [if_pos rfl]
            rw [if_neg (by unfold nameOk; rw [hb]; simp)] at h; exact h
          | false =>
            rw [if_neg (by decide)]
            rw [if_pos (by unfold nameOk; rw [hb, he]; rfl)] at h
            refine ⟨by omega, by omega, _, slices_Contains_sstring_string.spec (by rw [List.length_take]; unfold Big; omega), ?_⟩
            rw [Int.toNat_natCast, Nat.sub_zero, wrap_succ (by omega)]
            exact h)
  rw [← h1]; exact h2
namespace drossref02_ValidNames
theorem third {l : List ByteArray} {i : Nat} {a : ByteArray} {φ : Int → Prop} (ha : l[i]? = some a) (hl : l.length ≤ 16) (h : if (l.take i).any (eqS a) = true then φ 1 else L1 l ((i + 1 : Nat) : Int) φ) : L3 l i 0 φ := by
  have hi : i < l.length := (List.getElem?_eq_some_iff.1 ha).1
  have : ∀ (r : List ByteArray) (k : Nat), (l.take i).drop k = r → (if r.any (eqS a) = true then φ 1 else L1 l ((i + 1 : Nat) : Int) φ) → L3 l i k φ := by
    intro r
    induction r with
    | nil =>
      intro k hd h
      have := drop_ge hd
      rw [List.length_take] at this
      apply L3_step
      rw [if_neg (by omega), wrap_succ (by omega)]
      exact h
    | cons b r ih =>
      intro k hd h
      have hlt := drop_lt hd
      rw [List.length_take] at hlt
      have hb := drop_get hd
      rw [List.getElem?_take, if_pos (by omega)] at hb
      apply L3_step
      rw [if_pos (by omega)]
      refine ⟨b, lget_of hb, a, lget_of ha, ?_⟩
      rw [List.any_cons] at h
      split
      · rename_i hh; rw [if_pos (by simp [eqS, bl_inj.1 hh])] at h; exact h
      · rename_i hh
        have : eqS a b = false := by simp only [eqS, decide_eq_false_iff_not]; rintro rfl; exact hh rfl
        rw [this, Bool.false_or] at h
        rw [wrap_succ (by omega)]
        exact ih _ (drop_next hd) h
  exact this _ 0 rfl h
theorem second {l : List ByteArray} {i : Nat} {a : ByteArray} {φ : Int → Prop} (ha : l[i]? = some a) (hs : a.size ≤ 9223372036854775806) (h : if (a.toList.any fun b => badByte (u8i b)) = true then φ 1 else L3 l i 0 φ) : L2 l i 0 φ := by
  have : ∀ (r : List UInt8) (k : Nat), a.toList.drop k = r → (if (r.any fun b => badByte (u8i b)) = true then φ 1 else L3 l i 0 φ) → L2 l i k φ := by
    intro r
    induction r with
    | nil =>
      intro k hd h
      have := drop_ge hd
      apply L2_step
      refine ⟨a, lget_of ha, ?_⟩
      rw [bsize_eq, if_neg (by omega)]
      exact h
    | cons b r ih =>
      intro k hd h
      have hlt := drop_lt hd
      rw [bsize_nat] at hs
      have hb : a[k]? = some b := by rw [bget]; exact drop_get hd
      apply L2_step
      refine ⟨a, lget_of ha, ?_⟩
      rw [bsize_eq, if_pos (by omega)]
      refine ⟨b, ⟨by omega, by rw [Int.toNat_natCast]; exact hb⟩, ?_⟩
      rw [List.any_cons] at h
      by_cases h1 : u8i b ≤ 32
      · rw [if_pos h1]
        rw [if_pos (by unfold badByte; rw [if_pos h1]; rfl)] at h; exact h
      · rw [if_neg h1]
        refine ⟨b, ⟨by omega, by rw [Int.toNat_natCast]; exact hb⟩, ?_⟩
        by_cases h2 : u8i b = 127
        · rw [if_pos h2]
          rw [if_pos (by unfold badByte; rw [if_neg h1, h2]; rfl)] at h; exact h
        · rw [if_neg h2]
          have : badByte (u8i b) = false := by unfold badByte; rw [if_neg h1]; exact beq_eq_false_iff_ne.2 h2
          rw [this, Bool.false_or] at h
          rw [wrap_succ (by omega)]
          exact ih _ (drop_next hd) h
  exact this _ 0 rfl h
theorem spec {l : List ByteArray} (hs : ∀ a ∈ l, a.size ≤ 9223372036854775806) : C l (vN l) := by
  obtain ⟨r, h1, h2⟩ := enter l (fun r => r = vN l) (by
    unfold vN
    by_cases h16 : 16 < l.length
    · rw [if_pos (by omega), if_pos h16]
    · rw [if_neg (by omega), if_neg h16]
      refine names_loop (l := l) (L := fun i => L1 l i _) (P := (0 : Int) = if namesF l = true then 0 else 1) (Q := (1 : Int) = if namesF l = true then 0 else 1) ?_ ?_ (fun h => by rw [if_pos h]) (fun h => by rw [if_neg (by rw [h]; decide)])
      · intro h; apply L1_step; rw [if_neg (by omega)]; exact h
      · intro k a ha hk h
        apply L1_step
        rw [if_pos (by omega)]
        refine ⟨a, lget_of ha, ?_⟩
        have hsz := hs a (List.mem_of_getElem? ha)
        by_cases he : a.toList.isEmpty = true
        · rw [if_pos (empty_iff.2 he)]
          rw [if_neg (by unfold nameOk; rw [he]; simp)] at h; exact h
        · rw [if_neg (fun hh => he (empty_iff.1 hh))]
          have he := Bool.eq_false_iff.2 he
          refine second ha hsz ?_
          cases hb : a.toList.any fun b => badByte (u8i b) with
          | true =>
            rw [if_pos rfl]
            rw [if_neg (by unfold nameOk; rw [hb]; simp)] at h; exact h
          | false =>
            rw [if_neg (by decide)]
            rw [if_pos (by unfold nameOk; rw [hb, he]; rfl)] at h
            exact third ha (by omega) h)
  rw [← h1]; exact h2
end drossref02_ValidNames
def fewT : List ByteArray → Int → Int
  | [], t => t
  | a :: r, t => fewT r (IntKind.wrap .i64 (t + bsize a))
def fewF (x : ByteArray) (l : List ByteArray) : Bool := if fewT l (bsize x) ≤ 400 then decide ((l.length : Int) ≤ 40) else false
theorem drossref02_Few.spec {x : ByteArray} {l : List ByteArray} (hl : l.length ≤ 9223372036854775807) : drossref02_Few.C x l (fewF x l) := by
  obtain ⟨r, h1, h2⟩ := drossref02_Few.enter x l (fun r => r = fewF x l) (by
    have : ∀ (r : List ByteArray) (k : Nat) (t : Int), l.drop k = r → fewT r t = fewT l (bsize x) → drossref02_Few.L1 l t k (fun r => r = fewF x l) := by
      intro r
      induction r with
      | nil =>
        intro k t hd he
        have := drop_ge hd
        apply drossref02_Few.L1_step
        rw [if_neg (by omega)]
        unfold fewF
        rw [← he]
        show if t ≤ 400 then _ else _
        have e0 : fewT [] t = t := rfl
        rw [e0]
        by_cases h : t ≤ 400
        · rw [if_pos h, if_pos h]
        · rw [if_neg h, if_neg h]
      | cons a r ih =>
        intro k t hd he
        have hlt := drop_lt hd
        apply drossref02_Few.L1_step
        rw [if_pos (by omega)]
        refine ⟨a, lget_drop hd, ?_⟩
        rw [wrap_succ (by omega)]
        exact ih _ _ (drop_next hd) he
    exact this l 0 _ rfl rfl)
  rw [← h1]; exact h2
theorem fewT_eq : ∀ {l : List ByteArray} {t : Int}, (∀ a ∈ l, a.size ≤ 140737488351232) → 0 ≤ t → t + l.length * 140737488351232 < 9223372036854775807 → t ≤ fewT l t ∧ ∀ a ∈ l, bsize a ≤ fewT l t
  | [], t, _, _, _ => ⟨Int.le_refl _, fun a h => by cases h⟩
  | a :: r, t, h, h0, hb => by
    have ha := h a (by simp)
    have hlen : ((a :: r).length : Int) = r.length + 1 := by simp
    rw [hlen] at hb
    have hba : bsize a = (a.size : Int) := rfl
    have e : IntKind.wrap .i64 (t + bsize a) = t + bsize a := wrap_id (by omega) (by omega)
    have e2 : fewT (a :: r) t = fewT r (t + bsize a) := by
      show fewT r (IntKind.wrap .i64 (t + bsize a)) = _
      rw [e]
    rw [e2]
    obtain ⟨i1, i2⟩ := fewT_eq (l := r) (t := t + bsize a) (fun b hb => h b (by simp [hb])) (by omega) (by omega)
    refine ⟨by omega, fun b hb => ?_⟩
    rcases List.mem_cons.1 hb with rfl | hb
    · omega
    · exact i2 b hb
theorem few_true {x : ByteArray} {l : List ByteArray} (hx : x.size ≤ 140737488351232) (hs : ∀ a ∈ l, a.size ≤ 140737488351232) (h : fewF x l = true) : l.length ≤ 40 ∧ x.size ≤ 400 ∧ ∀ a ∈ l, a.size ≤ 400 := by
  unfold fewF at h
  split at h
  · rename_i h4
    have h40 := of_decide_eq_true h
    have hbx : bsize x = (x.size : Int) := rfl
    obtain ⟨i1, i2⟩ := fewT_eq (l := l) (t := bsize x) hs (by omega) (by omega)
    refine ⟨by omega, by omega, fun a ha => ?_⟩
    have := i2 a ha
    have hba : bsize a = (a.size : Int) := rfl
    omega
  · cases h
end Go.Own

namespace Go.Own
def consW (b : UInt8) : List (List UInt8) → List (List UInt8)
  | [] => [[b]]
  | w :: ws => (b :: w) :: ws
def spl : List UInt8 → List (List UInt8)
  | [] => [[]]
  | b :: r => if b = 32 then [] :: spl r else consW b (spl r)
def tlJ (r : List (List UInt8)) : List UInt8 := r.flatMap fun b => 32 :: b
def jn : List (List UInt8) → List UInt8
  | [] => []
  | a :: r => a ++ tlJ r
theorem spl_ne : ∀ {l : List UInt8}, spl l ≠ []
  | [] => by simp [spl]
  | b :: r => by
    rw [spl]
    split
    · simp
    · cases h : spl r <;> simp [consW]
theorem jn_spl : ∀ {l : List UInt8}, jn (spl l) = l
  | [] => rfl
  | b :: r => by
    have ih := jn_spl (l := r)
    cases h : spl r with
    | nil => exact absurd h spl_ne
    | cons w ws =>
      rw [h] at ih
      have ih : w ++ tlJ ws = r := ih
      rw [spl, h]
      split
      · rename_i hb
        subst hb
        show [] ++ tlJ (w :: ws) = _
        have : tlJ (w :: ws) = (32 :: w) ++ tlJ ws := rfl
        rw [this, List.nil_append, List.cons_append, ih]
      · show (b :: w) ++ tlJ ws = _
        rw [List.cons_append, ih]
theorem spl_none : ∀ {l : List UInt8}, l.count 32 = 0 → spl l = [l]
  | [], _ => rfl
  | b :: r, h => by
    have hb : b ≠ 32 := by rintro rfl; simp at h
    have hr : r.count 32 = 0 := by
      rw [List.count_cons] at h; omega
    rw [spl, if_neg hb, spl_none hr]; rfl
theorem spl_join : ∀ {r : List (List UInt8)} {a : List UInt8}, a.count 32 = 0 → (∀ b ∈ r, b.count 32 = 0) → spl (a ++ tlJ r) = a :: r
  | [], [], _, _ => rfl
  | c :: r, [], _, h => by
    have e : [] ++ tlJ (c :: r) = 32 :: (c ++ tlJ r) := rfl
    rw [e, spl, if_pos rfl, spl_join (h c (by simp)) fun b hb => h b (by simp [hb])]
  | r, b :: a, h1, h => by
    have hb : b ≠ 32 := by rintro rfl; simp at h1
    have ha : a.count 32 = 0 := by rw [List.count_cons] at h1; omega
    rw [List.cons_append, spl, if_neg hb, spl_join ha h]; rfl
theorem ib_split : ∀ {l : List UInt8}, 0 < l.count 32 → ∃ m : Nat, Lib.indexByte l 32 = (m : Int) ∧ m < l.length ∧ spl l = l.take m :: spl (l.drop (m + 1)) ∧ (l.drop (m + 1)).count 32 + 1 = l.count 32
  | [], h => by simp at h
  | b :: r, h => by
    by_cases hb : b = 32
    · subst hb
      refine ⟨0, rfl, by simp, ?_, ?_⟩
      · rw [spl, if_pos rfl]; rfl
      · rw [List.count_cons]; simp
    · have hc : (b :: r).count 32 = r.count 32 := by rw [List.count_cons]; simp [hb]
      rw [hc] at h ⊢
      obtain ⟨m, h1, h2, h3, h4⟩ := ib_split h
      refine ⟨m + 1, ?_, by simp; omega, ?_, by simpa using h4⟩
      · rw [Lib.indexByte, if_neg (by simpa using hb), h1, if_neg (by simp)]; omega
      · rw [spl, if_neg hb, h3]; rfl
theorem ib_none : ∀ {l : List UInt8}, l.count 32 = 0 → Lib.indexByte l 32 = -1
  | [], _ => rfl
  | b :: r, h => by
    have hb : b ≠ 32 := by rintro rfl; simp at h
    have hr : r.count 32 = 0 := by rw [List.count_cons] at h; omega
    rw [Lib.indexByte, if_neg (by simpa using hb), ib_none hr]; rfl
theorem spl_len : ∀ {n : Nat} {l : List UInt8}, l.count 32 = n → (spl l).length = n + 1
  | 0, l, h => by rw [spl_none h]; rfl
  | n + 1, l, h => by
    obtain ⟨m, _, _, h3, h4⟩ := ib_split (l := l) (by omega)
    rw [h3, List.length_cons, spl_len (n := n) (by omega)]
abbrev sp32 : ByteArray := ⟨#[32]⟩
theorem strings_Index.spec {s : ByteArray} : strings_Index.C s sp32 (Lib.indexByte s.toList 32) := by
  have e : byteIx s (u8i 32) = Lib.indexByte s.toList 32 := by unfold byteIx; rw [bl_eq]; rfl
  obtain ⟨q, g1, g2⟩ := internal_stringslite_IndexByte.enter s (u8i 32) (fun r => r = Lib.indexByte s.toList 32) e
  subst g1
  obtain ⟨p, f1, f2⟩ := internal_stringslite_Index.enter s sp32 (fun r => r = Lib.indexByte s.toList 32) (by
    rw [if_neg (by decide)]
    split
    · rename_i h
      rw [← h]
      have : sp32.toList = [32] := bl_mk (l := [32])
      rw [this]; rfl
    · rw [if_pos (by decide)]
      exact ⟨32, ⟨by decide, rfl⟩, _, g2, rfl⟩)
  subst f1
  obtain ⟨r, h1, h2⟩ := strings_Index.enter s sp32 (fun r => r = Lib.indexByte s.toList 32) ⟨_, f2, rfl⟩
  rw [← h1]; exact h2
theorem strings_Count.spec {s : ByteArray} : strings_Count.C s sp32 (s.toList.count 32 : Nat) := by
  have e : byteCnt s (u8i 32) = (s.toList.count 32 : Nat) := by unfold byteCnt Lib.countByte; rw [bl_eq]; rfl
  obtain ⟨r, h1, h2⟩ := strings_Count.enter s sp32 (fun r => r = ((s.toList.count 32 : Nat) : Int)) (by
    rw [if_neg (by decide), if_pos (by decide)]
    exact ⟨32, ⟨by decide, rfl⟩, e⟩)
  rw [← h1]; exact h2
theorem bstr_toList {s : ByteArray} : bstr s.toList = s := bl_inj.1 (by rw [bl_bstr])
theorem sub_bstr {s : ByteArray} {i j : Nat} : bsub s i j = bstr ((s.toList.drop i).take (j - i)) := bl_inj.1 (by
  have : s.toList = s.data.toList := bl_eq
  rw [bl_bstr, this]; exact Lib.extract_toList s i j)
namespace strings_genSplit
theorem loop {N : Nat} (hN : N ≤ 1000000) {φ : List ByteArray × Bool → Prop} (n : Nat) : ∀ (s : ByteArray) (done : List ByteArray) (y : List ByteArray), s.size ≤ 1000000 → s.toList.count 32 = n → done.length + n = N → y.length = N + 1 → y.take done.length = done → φ (done ++ (spl s.toList).map bstr, true) → L1 s sp32 0 N y done.length φ := by
  induction n with
  | zero =>
    intro s done y hs hc hn hy ht h
    apply L1_step
    rw [if_neg (by omega)]
    apply L3_step
    obtain ⟨a, ha⟩ := lget_lt (l := y) (i := (done.length : Int)) (by omega) (by omega)
    have hset : lset y (done.length : Int) s = y.set done.length s := by simp [lset]
    have htk : (y.set done.length s).take (done.length + 1) = done ++ [s] := by
      rw [List.take_add_one, List.getElem?_set_self (by omega), List.take_set_of_le (by omega), ht]; rfl
    refine ⟨a, ha, ?_⟩
    rw [wrap_succ (by omega), hset]
    refine ⟨by omega, ⟨by omega, by rw [Int.toNat_natCast, List.length_set]; omega⟩, by rw [Int.toNat_natCast, List.length_set]; omega, ?_⟩
    rw [Int.toNat_natCast, Nat.sub_zero, htk]
    rw [spl_none hc] at h
    have e : (done ++ [s]).isEmpty = false := by simp
    rw [e]
    have e2 : done ++ List.map bstr [s.toList] = done ++ [s] := by rw [List.map_cons, List.map_nil, bstr_toList]
    rw [e2] at h
    exact h
  | succ n ih =>
    intro s done y hs hc hn hy ht h
    obtain ⟨m, h1, h2, h3, h4⟩ := ib_split (l := s.toList) (by omega)
    have hsz := bsize_nat (s := s)
    apply L1_step
    rw [if_pos (by omega)]
    refine ⟨_, strings_Index.spec, ?_⟩
    rw [h1, if_neg (by omega)]
    have e1 : IntKind.wrap .i64 ((m : Int) + 0) = m := by rw [Int.add_zero]; exact wrap_id (by omega) (by omega)
    have e2 : IntKind.wrap .i64 ((m : Int) + bsize sp32) = ((m + 1 : Nat) : Int) := wrap_succ (by omega)
    rw [e1, e2, Int.toNat_natCast, Int.toNat_natCast]
    obtain ⟨a, ha⟩ := lget_lt (l := y) (i := (done.length : Int)) (by omega) (by omega)
    have hset : lset y (done.length : Int) (bsub s 0 m) = y.set done.length (bsub s 0 m) := by simp [lset]
    refine ⟨by omega, ⟨by omega, by omega⟩, a, ha, by omega, ⟨by omega, Nat.le_refl _⟩, ?_⟩
    rw [wrap_succ (by omega), hset]
    have ed : (bsub s (m + 1) s.size).toList = s.toList.drop (m + 1) := by
      rw [sub_bstr, bl_bstr, List.take_of_length_le (by rw [List.length_drop]; omega)]
    have ew : bsub s 0 m = bstr (s.toList.take m) := by rw [sub_bstr, List.drop_zero, Nat.sub_zero]
    have := ih (bsub s (m + 1) s.size) (done ++ [bsub s 0 m]) (y.set done.length (bsub s 0 m)) (by rw [bsize_nat, ed, List.length_drop]; omega) (by rw [ed]; omega) (by rw [List.length_append, List.length_singleton]; omega) (by rw [List.length_set]; exact hy) (by
      rw [List.length_append, List.length_singleton, List.take_add_one, List.getElem?_set_self (by omega), List.take_set_of_le (by omega), ht]; rfl) (by
      rw [ed, List.append_assoc, List.singleton_append, ew]
      rw [h3, List.map_cons] at h
      exact h)
    rw [List.length_append, List.length_singleton] at this
    exact this
theorem spec {s : ByteArray} (hs : s.size ≤ 1000000) : C s sp32 0 (-1) ((spl s.toList).map bstr, true) := by
  have hc : s.toList.count 32 ≤ s.toList.length := List.count_le_length
  have hsz := bsize_nat (s := s)
  obtain ⟨r, h1, h2⟩ := enter s sp32 0 (-1) (fun r => r = ((spl s.toList).map bstr, true)) (by
    rw [if_neg (by decide), if_neg (by
      have : sp32.toList = [32] := bl_mk (l := [32])
      rw [this, bl_nil]; decide), if_pos (by decide)]
    refine ⟨_, strings_Count.spec, ?_⟩
    apply L2_step
    have e1 : IntKind.wrap .i64 (bsize s + 1) = ((s.size + 1 : Nat) : Int) := wrap_succ (by omega)
    have e2 : IntKind.wrap .i64 (((s.toList.count 32 : Nat) : Int) + 1) = ((s.toList.count 32 + 1 : Nat) : Int) := wrap_succ (by omega)
    rw [e1, e2]
    have e3 : imin ((s.toList.count 32 + 1 : Nat) : Int) ((s.size + 1 : Nat) : Int) = ((s.toList.count 32 + 1 : Nat) : Int) := by unfold imin; rw [if_neg (by omega)]
    rw [e3]
    have e4 : IntKind.wrap .i64 (((s.toList.count 32 + 1 : Nat) : Int) - 1) = ((s.toList.count 32 : Nat) : Int) := by
      rw [wrap_id (by omega) (by omega)]; omega
    rw [e4, Int.toNat_natCast]
    refine ⟨by omega, ?_⟩
    exact loop (N := s.toList.count 32) (by omega) (s.toList.count 32) s [] _ hs rfl (by simp) (by simp) (by simp) (by simp))
  rw [← h1]; exact h2
end strings_genSplit
theorem strings_Split.spec {s : ByteArray} (hs : s.size ≤ 1000000) : strings_Split.C s sp32 ((spl s.toList).map bstr) := by
  obtain ⟨r, h1, h2⟩ := strings_Split.enter s sp32 (fun r => r = (spl s.toList).map bstr) ⟨_, strings_genSplit.spec hs, rfl⟩
  rw [← h1]; exact h2
def wordsF (s : ByteArray) : List ByteArray := if s.toList = [] then [] else (spl s.toList).map bstr
def app (w : List UInt8) : List (List UInt8) → List (List UInt8)
  | [] => [w]
  | v :: vs => (w ++ v) :: vs
theorem app_nil {ws : List (List UInt8)} (h : ws ≠ []) : app [] ws = ws := by
  cases ws with
  | nil => exact absurd rfl h
  | cons v vs => rfl
theorem app_cons {w : List UInt8} {b : UInt8} {ws : List (List UInt8)} : app w (consW b ws) = app (w ++ [b]) ws := by
  cases ws with
  | nil => rfl
  | cons v vs => simp [app, consW]
theorem bstr_append {a b : List UInt8} : bstr a ++ bstr b = bstr (a ++ b) := bl_inj.1 (by
  rw [bl_bstr, bl_eq]
  simp [bstr, ByteArray.data_append])
theorem drossref02_words.spec {s : ByteArray} (hs : s.size ≤ 1000000) : drossref02_words.C s (wordsF s) := by
  have hsz := bsize_nat (s := s)
  obtain ⟨r, h1, h2⟩ := drossref02_words.enter s (fun r => r = wordsF s) (by
    unfold wordsF
    rw [bl_nil]
    split
    · rfl
    · have : ∀ (r : List UInt8) (k : Nat) (done : List (List UInt8)) (w : List UInt8), s.toList.drop k = r → done.length + w.length ≤ k → done ++ app w (spl r) = spl s.toList → drossref02_words.L1 s ((done ++ [w]).map bstr) k (fun r => r = (spl s.toList).map bstr) := by
        intro r
        induction r with
        | nil =>
          intro k done w hd hl he
          have := drop_ge hd
          apply drossref02_words.L1_step
          rw [bsize_eq, if_neg (by omega), ← he]
          simp [spl, app]
        | cons b r ih =>
          intro k done w hd hl he
          have hlt := drop_lt hd
          apply drossref02_words.L1_step
          rw [bsize_eq, if_pos (by omega)]
          refine ⟨b, bget_of (drop_get hd), ?_⟩
          have hlen : ((done ++ [w]).map bstr).length = done.length + 1 := by simp
          by_cases hb : b = 32
          · subst hb
            rw [if_pos (show u8i 32 = 32 from rfl)]
            refine ⟨by omega, ?_⟩
            apply drossref02_words.L2_step
            rw [wrap_succ (by omega)]
            have := ih (k + 1) (done ++ [w]) [] (drop_next hd) (by rw [List.length_append, List.length_singleton, List.length_nil]; omega) (by
              rw [app_nil spl_ne, ← he, spl, if_pos rfl, app, List.append_nil, List.append_assoc]; rfl)
            rw [List.map_append] at this
            exact this
          · rw [if_neg (fun h => hb (u8i_inj.1 (h.trans (show (32 : Int) = u8i 32 from rfl))))]
            have e1 : IntKind.wrap .i64 ((((done ++ [w]).map bstr).length : Int) - 1) = (done.length : Int) := by
              rw [hlen, wrap_id (by omega) (by omega)]; omega
            have hg : ((done ++ [w]).map bstr)[done.length]? = some (bstr w) := by simp
            have e2 : bsub s k (k + 1) = bstr [b] := by
              rw [sub_bstr, hd, Nat.add_sub_cancel_left]; rfl
            rw [e1]
            refine ⟨bstr w, lget_of hg, by omega, ?_⟩
            rw [wrap_succ (by omega), Int.toNat_natCast, Int.toNat_natCast, e2]
            refine ⟨by omega, ⟨by omega, by omega⟩, ?_, ?_⟩
            · rw [bsize_nat, bsize_nat, bl_bstr, bl_bstr, List.length_singleton]; omega
            · apply drossref02_words.L2_step
              rw [wrap_succ (by omega), bstr_append]
              have := ih (k + 1) done (w ++ [b]) (drop_next hd) (by rw [List.length_append, List.length_singleton]; omega) (by
                rw [← app_cons, ← he, spl, if_neg hb])
              have hset : lset ((done ++ [w]).map bstr) (done.length : Int) (bstr (w ++ [b])) = (done ++ [w ++ [b]]).map bstr := by
                simp [lset]
              rw [hset]
              exact this
      exact this s.toList 0 [] [] rfl (Nat.zero_le _) (app_nil spl_ne))
  rw [← h1]; exact h2
end Go.Own

namespace Go.Own
namespace attrset_Members
theorem loop {φ : List Int → Prop} : ∀ (n : Nat) (acc : List Int), n < 2 ^ 32 → acc.length + (bitsOf n).length ≤ 1000 → φ (acc ++ (bitsOf n).map fun (i : Nat) => (i : Int)) → L1 n acc φ := by
  intro n
  induction n using Nat.strongRecOn with
  | _ n ih =>
    intro acc hn hl h
    apply L1_step
    by_cases h0 : n = 0
    · subst h0
      rw [bitsOf_zero] at h
      rw [if_pos (by omega)]; simpa using h
    · rw [if_neg (by omega)]
      rw [bitsOf_cons h0 hn] at hl h
      simp only [List.length_cons] at hl
      refine ⟨by omega, by omega, ?_⟩
      have e1 : IntKind.wrap .u32 ((n : Int) - 1) = ((n - 1 : Nat) : Int) := by
        have : (n : Int) - 1 = ((n - 1 : Nat) : Int) := by omega
        rw [this]
        exact wrap_top (k := .u32) (by simp only [top]; omega)
      rw [e1, bAnd_nat (k := .u32) (by simpa [top] using hn) (by simp only [top]; omega)]
      refine ih _ (clear_lt h0) _ (Nat.lt_of_le_of_lt Nat.and_le_left hn) (by rw [List.length_append, List.length_singleton]; omega) ?_
      have e2 : tz32 (n : Int) = ((lowest n 32 0 : Nat) : Int) := by unfold tz32; rw [Int.toNat_natCast]
      rw [e2]
      simpa using h
theorem spec {n : Nat} (hn : n < 2 ^ 32) : C n ((bitsOf n).map fun (i : Nat) => (i : Int)) := by
  obtain ⟨r, h1, h2⟩ := enter n (fun r => r = (bitsOf n).map fun (i : Nat) => (i : Int)) (loop n [] hn (by have := bitsOf_len (n := n); simp; omega) (by simp))
  rw [← h1]; exact h2
end attrset_Members
end Go.Own

namespace Go.Own
namespace drossref02_Full
theorem loop {k : Nat} {φ : Int → Prop} (h : φ (fullN k)) : ∀ (m i : Nat), i + m = min k 32 → L1 k ((2 ^ i - 1 : Nat) : Int) i φ
  | 0, i, hi => by
    apply L1_step
    have e : ((2 ^ i - 1 : Nat) : Int) = (fullN k : Int) := by unfold fullN; rw [← hi, Nat.add_zero]
    rw [e]
    split
    · rw [if_neg (by omega)]; exact h
    · exact h
  | m + 1, i, hi => by
    apply L1_step
    rw [if_pos (by omega), if_pos (by omega)]
    refine ⟨by omega, ?_⟩
    have hp : 2 ^ (i + 1) ≤ 2 ^ 32 := Nat.pow_le_pow_right (by decide) (by omega)
    have h2 : 0 < 2 ^ i := Nat.pos_of_ne_zero (by simp)
    rw [Nat.pow_succ] at hp
    rw [shl1_nat (k := .u32) (by simp only [top]; omega), bOr_nat (k := .u32) (by simp only [top]; omega) (by simp only [top]; omega), wrap_succ (by omega)]
    have e : (2 ^ i - 1) ||| 2 ^ i = 2 ^ (i + 1) - 1 := by
      apply Nat.eq_of_testBit_eq
      intro j
      rw [Nat.testBit_or, Nat.testBit_two_pow_sub_one, Nat.testBit_two_pow, Nat.testBit_two_pow_sub_one]
      by_cases h1 : j < i
      · have : j < i + 1 := by omega
        simp [h1, this]
      · by_cases h3 : i = j
        · subst h3; simp
        · have : ¬ j < i + 1 := by omega
          simp [h1, h3, this]
    rw [e]
    exact loop h m (i + 1) (by omega)
theorem spec {k : Nat} : C k (fullN k) := by
  obtain ⟨r, h1, h2⟩ := enter k (fun r => r = (fullN k : Int)) (loop (φ := fun r => r = (fullN k : Int)) rfl (min k 32) 0 (by omega))
  rw [← h1]; exact h2
end drossref02_Full
end Go.Own

namespace Go.Own
namespace drossref02_Has
theorem spec {n i : Nat} (hn : n < 2 ^ 32) : C n i (n.testBit i) := by
  obtain ⟨r, h1, h2⟩ := enter n i (fun r => r = n.testBit i) (by
    rw [if_pos (by omega)]
    split
    · refine ⟨by omega, ?_⟩
      rw [bit_nat (k := .u32) (by simpa [top] using hn) (by decide)]
      cases n.testBit i <;> rfl
    · rw [Nat.testBit_lt_two_pow (Nat.lt_of_lt_of_le hn (Nat.pow_le_pow_right (by decide) (by omega)))])
  rw [← h1]; exact h2
end drossref02_Has
end Go.Own


namespace Go.Own
theorem drossref02_Members.spec {n : Nat} (hn : n < 2 ^ 32) : drossref02_Members.C n ((bitsOf n).map fun (i : Nat) => (i : Int)) := by
  obtain ⟨r, h1, h2⟩ := drossref02_Members.enter n (fun r => r = (bitsOf n).map fun (i : Nat) => (i : Int)) (by
    have : ∀ (m k : Nat), 32 - k ≤ m → k ≤ 32 → drossref02_Members.L1 n (((List.range k).filter fun i => n.testBit i).map fun (i : Nat) => (i : Int)) k (fun r => r = (bitsOf n).map fun (i : Nat) => (i : Int)) := by
      intro m
      induction m with
      | zero =>
        intro k hm hk
        apply drossref02_Members.L1_step
        rw [if_neg (by omega)]
        have e : k = 32 := by omega
        subst e; rfl
      | succ m ih =>
        intro k hm hk
        apply drossref02_Members.L1_step
        by_cases hlt : k < 32
        · rw [if_pos (by omega)]
          refine ⟨_, drossref02_Has.spec hn, ?_⟩
          have hlen : (((List.range k).filter fun i => n.testBit i).map fun (i : Nat) => (i : Int)).length ≤ 32 := by
            rw [List.length_map]
            exact Nat.le_trans (List.length_filter_le _ _) (by simp; omega)
          have := ih (k + 1) (by omega) (by omega)
          rw [List.range_succ, List.filter_append, List.map_append] at this
          by_cases hb : n.testBit k = true
          · rw [if_pos hb]
            refine ⟨by omega, ?_⟩
            apply drossref02_Members.L2_step
            rw [wrap_succ (by omega)]
            simpa [hb] using this
          · rw [if_neg hb]
            apply drossref02_Members.L2_step
            rw [wrap_succ (by omega)]
            simpa [hb] using this
        · rw [if_neg (by omega)]
          have e : k = 32 := by omega
          subst e; rfl
    exact this 32 0 (by omega) (by omega))
  rw [← h1]; exact h2
end Go.Own

namespace Go.Own
def ofF : List Int → Int → Int × Int
  | [], s => (s, 0)
  | a :: r, s => if a < 0 then (0, 7) else if 16 ≤ a then (0, 7) else ofF r (bOr .u32 s (shlw .u32 1 a))
theorem attrset_Of.spec {l : List Int} (hl : l.length < 9223372036854775807) : attrset_Of.C l (ofF l 0) := by
  obtain ⟨r, h1, h2⟩ := attrset_Of.enter l (fun r => r = ofF l 0) (by
    have : ∀ (r : List Int) (k : Nat) (s : Int), l.drop k = r → ofF r s = ofF l 0 → attrset_Of.L1 l s k (fun r => r = ofF l 0) := by
      intro r
      induction r with
      | nil =>
        intro k s hd he
        apply attrset_Of.L1_step
        have := drop_ge hd
        rw [if_neg (by omega)]; exact he
      | cons a r ih =>
        intro k s hd he
        have hlt := drop_lt hd
        apply attrset_Of.L1_step
        rw [if_pos (by omega)]
        refine ⟨a, lget_drop hd, ?_⟩
        have e0 : ofF (a :: r) s = if a < 0 then (0, 7) else if 16 ≤ a then (0, 7) else ofF r (bOr .u32 s (shlw .u32 1 a)) := rfl
        rw [e0] at he
        by_cases h1 : a < 0
        · rw [if_pos h1] at he ⊢; exact he
        · rw [if_neg h1] at he ⊢
          by_cases h2 : 16 ≤ a
          · rw [if_pos h2] at he ⊢; exact he
          · rw [if_neg h2] at he ⊢
            refine ⟨by omega, ?_⟩
            rw [wrap_succ (by omega)]
            exact ih _ _ (drop_next hd) he
    exact this l 0 0 rfl rfl)
  rw [← h1]; exact h2
theorem drossref02_Of.spec {l : List Int} (hl : l.length < 9223372036854775807) : drossref02_Of.C l (ofF l 0) := by
  obtain ⟨r, h1, h2⟩ := drossref02_Of.enter l (fun r => r = ofF l 0) (by
    have : ∀ (r : List Int) (k : Nat) (s : Int), l.drop k = r → ofF r s = ofF l 0 → drossref02_Of.L1 l s k (fun r => r = ofF l 0) := by
      intro r
      induction r with
      | nil =>
        intro k s hd he
        apply drossref02_Of.L1_step
        have := drop_ge hd
        rw [if_neg (by omega)]; exact he
      | cons a r ih =>
        intro k s hd he
        have hlt := drop_lt hd
        apply drossref02_Of.L1_step
        rw [if_pos (by omega)]
        refine ⟨a, lget_drop hd, ?_⟩
        have e0 : ofF (a :: r) s = if a < 0 then (0, 7) else if 16 ≤ a then (0, 7) else ofF r (bOr .u32 s (shlw .u32 1 a)) := rfl
        rw [e0] at he
        by_cases h1 : a < 0
        · rw [if_pos h1] at he ⊢; exact he
        · rw [if_neg h1] at he ⊢
          by_cases h2 : 16 ≤ a
          · rw [if_pos h2] at he ⊢; exact he
          · rw [if_neg h2] at he ⊢
            refine ⟨by omega, ?_⟩
            rw [wrap_succ (by omega)]
            exact ih _ _ (drop_next hd) he
    exact this l 0 0 rfl rfl)
  rw [← h1]; exact h2
theorem slices_Equal_sint_int.spec {l m : List Int} (hl : l.length < 9223372036854775807) : slices_Equal_sint_int.C l m (decide (l = m)) := by
  obtain ⟨r, h1, h2⟩ := slices_Equal_sint_int.enter l m (fun r => r = decide (l = m)) (by
    by_cases hlm : l.length = m.length
    · rw [if_pos (by omega)]
      refine same_loop hlm (L := fun i => slices_Equal_sint_int.L1 l m i _) (φ := fun r => r = decide (l = m)) ?_ ?_ rfl
      · intro h; apply slices_Equal_sint_int.L1_step; rw [if_neg (by omega)]; exact h
      · intro k a b ha hb hk h
        apply slices_Equal_sint_int.L1_step
        rw [if_pos (by omega)]
        refine ⟨a, lget_of ha, b, lget_of hb, ?_⟩
        rw [wrap_succ (by omega)]; exact h
    · rw [if_neg (by omega)]
      have : ¬ l = m := fun h => hlm (by rw [h])
      simp [this])
  rw [← h1]; exact h2
end Go.Own

namespace Go.Own
theorem namesGo_iff : ∀ {r pre : List ByteArray}, namesGo pre r = true → (∀ a ∈ r, nameOk a = true) ∧ r.Nodup ∧ ∀ a ∈ r, ∀ b ∈ pre, b ≠ a
  | [], _, _ => ⟨(fun a h => by cases h), List.nodup_nil, (fun a h => by cases h)⟩
  | x :: r, pre, h => by
    simp only [namesGo, Bool.and_eq_true, Bool.not_eq_true'] at h
    obtain ⟨⟨h1, h2⟩, h3⟩ := h
    obtain ⟨i1, i2, i3⟩ := namesGo_iff h3
    have hx : ∀ b ∈ pre, b ≠ x := fun b hb he => by
      have := List.any_eq_false.1 h2 b hb
      simp [eqS, he] at this
    refine ⟨fun a ha => ?_, ?_, fun a ha b hb => ?_⟩
    · rcases List.mem_cons.1 ha with rfl | ha
      · exact h1
      · exact i1 a ha
    · rw [List.nodup_cons]
      exact ⟨fun hm => i3 x hm x (by simp) rfl, i2⟩
    · rcases List.mem_cons.1 ha with rfl | ha
      · exact hx b hb
      · exact i3 a ha b (by simp [hb])
theorem vN_zero {l : List ByteArray} (h : vN l = 0) : l.length ≤ 16 ∧ (∀ a ∈ l, nameOk a = true) ∧ l.Nodup := by
  unfold vN at h
  split at h
  · cases h
  · split at h
    · rename_i h1 h2
      obtain ⟨i1, i2, _⟩ := namesGo_iff h2
      exact ⟨by omega, i1, i2⟩
    · cases h
def ixsL (l : List ByteArray) : List ByteArray → Option (List Int)
  | [] => some []
  | w :: r => if ixI (eqS w) l < 0 then none else (ixsL l r).map (ixI (eqS w) l :: ·)
def chainB : Int → List Int → Bool
  | _, [] => true
  | p, a :: r => if a ≤ p then false else chainB a r
def ascB : List Int → Bool
  | [] => true
  | a :: r => chainB a r
theorem asc_loop {is : List Int} {L : Int → Prop} {A B : Prop} (stop : ∀ k : Nat, is.length ≤ k → k ≤ is.length + 1 → A → L k)
    (step : ∀ (k : Nat) a p, is[k + 1]? = some a → is[k]? = some p → k + 1 < is.length → (if a ≤ p then B else L ((k + 2 : Nat) : Int)) → L ((k + 1 : Nat) : Int)) (h1 : ascB is = true → A) (h2 : ascB is = false → B) : L 1 := by
  cases his : is with
  | nil => rw [his] at stop h1; exact stop 1 (by simp) (by simp) (h1 rfl)
  | cons a r =>
    have : ∀ (r : List Int) (k : Nat) (p : Int), is.drop (k + 1) = r → is[k]? = some p → (chainB p r = true → A) → (chainB p r = false → B) → L ((k + 1 : Nat) : Int) := by
      intro r
      induction r with
      | nil =>
        intro k p hd hp g1 g2
        have := drop_ge hd
        have hk := (List.getElem?_eq_some_iff.1 hp).1
        exact stop (k + 1) (by omega) (by omega) (g1 rfl)
      | cons b r ih =>
        intro k p hd hp g1 g2
        have hlt := drop_lt hd
        refine step k b p (drop_get hd) hp hlt ?_
        by_cases hb : b ≤ p
        · rw [if_pos hb]
          exact g2 (by rw [chainB, if_pos hb])
        · rw [if_neg hb]
          rw [chainB, if_neg hb] at g1 g2
          exact ih (k + 1) b (drop_next hd) (drop_get hd) g1 g2
    exact this r 0 a (by rw [his]; rfl) (by rw [his]; rfl) (by rw [his] at h1; exact h1) (by rw [his] at h2; exact h2)
def tailF (is : List Int) : Int × Int := if ascB is = true then ofF is 0 else (0, 2)
def wordsE (o : Option (List Int)) : Int × Int := match o with
  | none => (0, 4)
  | some is => tailF is
def wordsR (l ws : List ByteArray) : Int × Int := if ws.any (eqS ⟨#[]⟩) = true then (0, 2) else wordsE (ixsL l ws)
def namedR (s : ByteArray) (l : List ByteArray) : Int × Int := if vN l = 0 then wordsR l (wordsF s) else (0, vN l)
theorem tailF_true {is : List Int} (h : ascB is = true) : ofF is 0 = tailF is := by unfold tailF; rw [if_pos h]
theorem tailF_false {is : List Int} (h : ascB is = false) : (0, 2) = tailF is := by unfold tailF; rw [if_neg (by rw [h]; decide)]
theorem spl_count_le {s : ByteArray} : (spl s.toList).length ≤ s.size + 1 := by
  rw [spl_len rfl, bsize_nat]
  have : s.toList.count 32 ≤ s.toList.length := List.count_le_length
  omega
theorem wordsF_len {s : ByteArray} : (wordsF s).length ≤ s.size + 1 := by
  unfold wordsF
  split
  · simp
  · rw [List.length_map]; exact spl_count_le
namespace attrset_Named
theorem words {l ws : List ByteArray} (hl : l.length ≤ 16) (hw : ws.length ≤ 1000000) {φ : Int × Int → Prop} (h : φ (wordsE (ixsL l ws))) : L1 l ws [] 0 φ := by
  have : ∀ (r : List ByteArray) (k : Nat) (is : List Int), ws.drop k = r → k ≤ ws.length → is.length = k → wordsE ((ixsL l r).map (is ++ ·)) = wordsE (ixsL l ws) → L1 l ws is k φ := by
    intro r
    induction r with
    | nil =>
      intro k is hd hk hi he
      have := drop_ge hd
      apply L1_step
      rw [if_neg (by omega)]
      have he : tailF is = wordsE (ixsL l ws) := by rw [← he]; simp [ixsL, wordsE]
      rw [← he] at h
      refine asc_loop (is := is) (L := fun i => L2 is i φ) (A := φ (ofF is 0)) (B := φ (0, 2)) ?_ ?_ (fun e => by rw [tailF_true e]; exact h) (fun e => by rw [tailF_false e]; exact h)
      · intro k h1 h2 hA
        apply L2_step
        rw [if_neg (by omega)]
        exact ⟨_, attrset_Of.spec (by omega), hA⟩
      · intro k a p ha hp hlt hh
        apply L2_step
        rw [if_pos (by omega)]
        have e1 : IntKind.wrap .i64 (((k + 1 : Nat) : Int) - 1) = (k : Int) := by rw [wrap_id (by omega) (by omega)]; omega
        rw [e1]
        refine ⟨a, lget_of ha, p, lget_of hp, ?_⟩
        rw [wrap_succ (by omega)]
        exact hh
    | cons w r ih =>
      intro k is hd hk hi he
      have hlt := drop_lt hd
      apply L1_step
      rw [if_pos (by omega)]
      refine ⟨w, lget_drop hd, _, slices_Index_sstring_string.spec (by unfold Big; omega), ?_⟩
      rw [ixsL] at he
      by_cases hx : ixI (eqS w) l < 0
      · rw [if_pos hx] at he ⊢
        rw [← he] at h; exact h
      · rw [if_neg hx] at he ⊢
        refine ⟨by omega, ?_⟩
        rw [wrap_succ (by omega)]
        refine ih (k + 1) _ (drop_next hd) (by omega) (by rw [List.length_append, List.length_singleton]; omega) ?_
        rw [← he]
        cases ixsL l r <;> simp
  exact this ws 0 [] rfl (Nat.zero_le _) rfl (by cases ixsL l ws <;> simp)
theorem spec {s : ByteArray} {l : List ByteArray} (hs : s.size ≤ 100000) (hl : ∀ a ∈ l, a.size ≤ 400) : C s l (namedR s l) := by
  obtain ⟨r, h1, h2⟩ := enter s l (fun r => r = namedR s l) (by
    refine ⟨_, attrset_checked.spec (fun a ha => by have := hl a ha; omega), ?_⟩
    unfold namedR
    split
    · rename_i hv
      obtain ⟨v1, _, _⟩ := vN_zero hv
      have hwl := wordsF_len (s := s)
      rw [bl_nil]
      by_cases he : s.toList = []
      · rw [if_pos he]
        have : wordsF s = [] := by unfold wordsF; rw [if_pos he]
        rw [this, hv]; rfl
      · rw [if_neg he]
        have e : wordsF s = (spl s.toList).map bstr := by unfold wordsF; rw [if_neg he]
        have hsp := strings_Split.spec (s := s) (by omega)
        rw [← e] at hsp
        refine ⟨_, hsp, _, slices_Contains_sstring_string.spec (by unfold Big; omega), ?_⟩
        unfold wordsR
        split
        · rfl
        · exact words (φ := fun r => r = wordsE (ixsL l (wordsF s))) v1 (by omega) rfl
    · rfl)
  rw [← h1]; exact h2
end attrset_Named
def lastFrom (w : ByteArray) : List ByteArray → Nat → Int → Int
  | [], _, c => c
  | a :: r, k, c => lastFrom w r (k + 1) (if a = w then (k : Int) else c)
theorem lastFrom_not {w : ByteArray} : ∀ {r : List ByteArray} {k : Nat} {c : Int}, w ∉ r → lastFrom w r k c = c
  | [], _, _, _ => rfl
  | a :: r, k, c, h => by
    rw [List.mem_cons, not_or] at h
    rw [lastFrom, if_neg (fun e => h.1 e.symm), lastFrom_not h.2]
theorem last_ix {w : ByteArray} : ∀ {r : List ByteArray} {k : Nat}, r.Nodup → lastFrom w r k (-1) = ixFrom (eqS w) r k
  | [], _, _ => rfl
  | a :: r, k, h => by
    rw [List.nodup_cons] at h
    rw [lastFrom, ixFrom]
    by_cases e : a = w
    · rw [if_pos e, if_pos (by simp [eqS, e])]
      exact lastFrom_not (by rw [← e]; exact h.1)
    · rw [if_neg e, if_neg (by simp [eqS, e])]
      exact last_ix h.2
namespace drossref02_Named
theorem third {l ws : List ByteArray} {is : List Int} {i : Nat} {w : ByteArray} (hw : ws[i]? = some w) (hl : l.length ≤ 16) (hn : l.Nodup) (hi : is.length ≤ 1000000) (hiw : i ≤ 1000000) {φ : Int × Int → Prop} (h : if ixI (eqS w) l < 0 then φ (0, 4) else L2 l ws (is ++ [ixI (eqS w) l]) ((i + 1 : Nat) : Int) φ) : L3 l ws is i (-1) 0 φ := by
  have : ∀ (r : List ByteArray) (k : Nat) (c : Int), l.drop k = r → k ≤ l.length → lastFrom w r k c = ixI (eqS w) l → L3 l ws is i c k φ := by
    intro r
    induction r with
    | nil =>
      intro k c hd hk he
      have := drop_ge hd
      have he : c = ixI (eqS w) l := he
      apply L3_step
      rw [if_neg (by omega), he]
      split
      · rename_i hx; rw [if_pos hx] at h; exact h
      · rename_i hx; rw [if_neg hx] at h
        refine ⟨by omega, ?_⟩
        rw [wrap_succ (by omega)]; exact h
    | cons a r ih =>
      intro k c hd hk he
      have hlt := drop_lt hd
      apply L3_step
      rw [if_pos (by omega)]
      refine ⟨a, lget_drop hd, w, lget_of hw, ?_⟩
      rw [lastFrom] at he
      by_cases e : a = w
      · rw [if_pos e] at he
        rw [if_pos (by rw [e])]
        apply L5_step
        rw [wrap_succ (by omega)]
        exact ih (k + 1) _ (drop_next hd) (by omega) he
      · rw [if_neg e] at he
        rw [if_neg (fun hh => e (bl_inj.1 hh))]
        apply L5_step
        rw [wrap_succ (by omega)]
        exact ih (k + 1) _ (drop_next hd) (by omega) he
  exact this l 0 (-1) rfl (Nat.zero_le _) (last_ix hn)
theorem words {l ws : List ByteArray} (hl : l.length ≤ 16) (hn : l.Nodup) (hw : ws.length ≤ 1000000) {φ : Int × Int → Prop} (h : φ (wordsE (ixsL l ws))) : L2 l ws [] 0 φ := by
  have : ∀ (r : List ByteArray) (k : Nat) (is : List Int), ws.drop k = r → k ≤ ws.length → is.length = k → wordsE ((ixsL l r).map (is ++ ·)) = wordsE (ixsL l ws) → L2 l ws is k φ := by
    intro r
    induction r with
    | nil =>
      intro k is hd hk hi he
      have := drop_ge hd
      apply L2_step
      rw [if_neg (by omega)]
      have he : tailF is = wordsE (ixsL l ws) := by rw [← he]; simp [ixsL, wordsE]
      rw [← he] at h
      refine asc_loop (is := is) (L := fun i => L4 is i φ) (A := φ (ofF is 0)) (B := φ (0, 2)) ?_ ?_ (fun e => by rw [tailF_true e]; exact h) (fun e => by rw [tailF_false e]; exact h)
      · intro k h1 h2 hA
        apply L4_step
        rw [if_neg (by omega)]
        exact ⟨_, drossref02_Of.spec (by omega), hA⟩
      · intro k a p ha hp hlt hh
        apply L4_step
        rw [if_pos (by omega)]
        have e1 : IntKind.wrap .i64 (((k + 1 : Nat) : Int) - 1) = (k : Int) := by rw [wrap_id (by omega) (by omega)]; omega
        rw [e1]
        refine ⟨a, lget_of ha, p, lget_of hp, ?_⟩
        rw [wrap_succ (by omega)]
        exact hh
    | cons w r ih =>
      intro k is hd hk hi he
      have hlt := drop_lt hd
      apply L2_step
      rw [if_pos (by omega)]
      refine third (drop_get hd) hl hn (by omega) (by omega) ?_
      rw [ixsL] at he
      by_cases hx : ixI (eqS w) l < 0
      · rw [if_pos hx] at he ⊢
        rw [← he] at h; exact h
      · rw [if_neg hx] at he ⊢
        refine ih (k + 1) _ (drop_next hd) (by omega) (by rw [List.length_append, List.length_singleton]; omega) ?_
        rw [← he]
        cases ixsL l r <;> simp
  exact this ws 0 [] rfl (Nat.zero_le _) rfl (by cases ixsL l ws <;> simp)
theorem spec {s : ByteArray} {l : List ByteArray} (hs : s.size ≤ 100000) (hl : ∀ a ∈ l, a.size ≤ 400) : C s l (namedR s l) := by
  obtain ⟨r, h1, h2⟩ := enter s l (fun r => r = namedR s l) (by
    refine ⟨_, drossref02_ValidNames.spec (fun a ha => by have := hl a ha; omega), ?_⟩
    unfold namedR
    split
    · rename_i hv
      obtain ⟨v1, _, v3⟩ := vN_zero hv
      have hwl := wordsF_len (s := s)
      refine ⟨_, drossref02_words.spec (by omega), ?_⟩
      generalize wordsF s = ws at *
      have : ∀ (r : List ByteArray) (k : Nat), ws.drop k = r → (if r.any (eqS ⟨#[]⟩) = true then (0, 2) else wordsE (ixsL l ws)) = wordsR l ws → L1 l ws k (fun r => r = wordsR l ws) := by
        intro r
        induction r with
        | nil =>
          intro k hd he
          have := drop_ge hd
          apply L1_step
          rw [if_neg (by omega)]
          exact words (φ := fun r => r = wordsR l ws) v1 v3 (by omega) he
        | cons w r ih =>
          intro k hd he
          have hlt := drop_lt hd
          apply L1_step
          rw [if_pos (by omega)]
          refine ⟨w, lget_drop hd, ?_⟩
          rw [List.any_cons] at he
          by_cases e : w = ⟨#[]⟩
          · rw [if_pos (by rw [e])]
            rw [if_pos (by simp [eqS, e])] at he; exact he
          · rw [if_neg (fun hh => e (bl_inj.1 hh))]
            have e2 : eqS ⟨#[]⟩ w = false := by simp [eqS, e]
            rw [e2, Bool.false_or] at he
            rw [wrap_succ (by omega)]
            exact ih (k + 1) (drop_next hd) he
      exact this ws 0 rfl rfl
    · rfl)
  rw [← h1]; exact h2
end drossref02_Named
end Go.Own

namespace Go.Own
def jnB (ps : List ByteArray) : ByteArray := bstr (jn (ps.map ByteArray.toList))
theorem jn_snoc {ps : List (List UInt8)} {a : List UInt8} (h : ps ≠ []) : jn (ps ++ [a]) = jn ps ++ (32 :: a) := by
  cases ps with
  | nil => exact absurd rfl h
  | cons p ps =>
    show p ++ tlJ (ps ++ [a]) = (p ++ tlJ ps) ++ _
    unfold tlJ
    rw [List.flatMap_append, List.append_assoc]
    simp
theorem jn_len {ps : List (List UInt8)} (h : ∀ p ∈ ps, p.length ≤ 400) : (jn ps).length ≤ 401 * ps.length := by
  have ht : ∀ r : List (List UInt8), (∀ p ∈ r, p.length ≤ 400) → (tlJ r).length ≤ 401 * r.length := by
    intro r
    induction r with
    | nil => intro _; simp [tlJ]
    | cons a r ih =>
      intro h
      have e : tlJ (a :: r) = 32 :: (a ++ tlJ r) := rfl
      have h1 := h a (by simp)
      have h2 := ih fun p hp => h p (by simp [hp])
      rw [e, List.length_cons, List.length_append, List.length_cons]; omega
  cases ps with
  | nil => simp [jn]
  | cons a r =>
    have h1 := h a (by simp)
    have h2 := ht r fun p hp => h p (by simp [hp])
    show (a ++ tlJ r).length ≤ _
    rw [List.length_append, List.length_cons]; omega
theorem sp32_list : sp32.toList = [32] := bl_mk (l := [32])
namespace strings_Join
theorem third {ps : List ByteArray} {p : ByteArray} {t : List ByteArray} (hps : ps = p :: t) (hl : ps.length ≤ 40) (hs : ∀ a ∈ ps, a.size ≤ 400) {φ : ByteArray → Prop} (h : φ (jnB ps)) : L3 ps sp32 p.toList 0 φ := by
  have etl : List.take (ps.length - 1) (List.drop 1 ps) = t := by
    subst hps
    rw [List.drop_succ_cons, List.drop_zero, List.length_cons, Nat.add_sub_cancel, List.take_length]
  have hlt : t.length + 1 = ps.length := by rw [hps, List.length_cons]
  have : ∀ (r : List ByteArray) (k : Nat) (acc : List UInt8), t.drop k = r → acc.length ≤ 401 * (k + 1) → k ≤ t.length → acc ++ tlJ (r.map ByteArray.toList) = jn (ps.map ByteArray.toList) → L3 ps sp32 acc k φ := by
    intro r
    induction r with
    | nil =>
      intro k acc hd ha hk he
      have := drop_ge hd
      apply L3_step
      rw [etl, if_neg (by omega)]
      have : acc = jn (ps.map ByteArray.toList) := by rw [← he]; simp [tlJ]
      rw [this]; exact h
    | cons a r ih =>
      intro k acc hd ha hk he
      have hlt2 := drop_lt hd
      have hsz := hs a (by rw [hps]; exact List.mem_cons_of_mem _ (List.mem_of_getElem? (drop_get hd)))
      have h32 : sp32.size = 1 := rfl
      have e32 : sp32.data.toList = [32] := rfl
      have e2 : a.data.toList = a.toList := bl_eq.symm
      have e3 : a.size = a.toList.length := bsize_nat
      apply L3_step
      rw [etl, if_pos (by omega)]
      refine ⟨a, lget_drop hd, by omega, by rw [List.length_append, e32, List.length_singleton]; omega, ?_⟩
      rw [wrap_succ (by omega), e32, e2]
      refine ih (k + 1) _ (drop_next hd) (by rw [List.length_append, List.length_append, List.length_singleton]; omega) (by omega) ?_
      rw [← he, List.map_cons]
      show (acc ++ [32]) ++ a.toList ++ _ = acc ++ (32 :: (a.toList ++ tlJ (r.map ByteArray.toList)))
      simp
  refine this t 0 p.toList rfl ?_ (Nat.zero_le _) ?_
  · have := hs p (by rw [hps]; simp)
    rw [bsize_nat] at this; omega
  · rw [hps]; rfl
theorem sizes {ps : List ByteArray} {p : ByteArray} {t : List ByteArray} (hps : ps = p :: t) (hl : ps.length ≤ 40) (hs : ∀ a ∈ ps, a.size ≤ 400) {φ : ByteArray → Prop} (h : φ (jnB ps)) : ∀ (r : List ByteArray) (k : Nat) (n : Int), ps.drop k = r → k ≤ ps.length → 0 ≤ n → n ≤ 100 + 400 * k → L1 ps sp32 n k φ := by
  intro r
  induction r with
  | nil =>
    intro k n hd hk h0 hn
    have := drop_ge hd
    have hlt : t.length + 1 = ps.length := by rw [hps, List.length_cons]
    have hsz := hs p (by rw [hps]; simp)
    have e2 : p.data.toList = p.toList := bl_eq.symm
    apply L1_step
    rw [if_neg (by omega)]
    refine ⟨⟨h0, by omega⟩, p, by rw [hps]; rfl, by omega, ⟨by omega, Nat.le_refl _⟩, ?_⟩
    rw [List.nil_append, e2]
    exact third hps hl hs h
  | cons a r ih =>
    intro k n hd hk h0 hn
    have hlt := drop_lt hd
    have hsz := hs a (List.mem_of_getElem? (drop_get hd))
    have hb : bsize a = (a.size : Int) := rfl
    apply L1_step
    rw [if_pos (by omega)]
    refine ⟨a, lget_drop hd, ?_⟩
    have e1 : IntKind.wrap .i64 (9223372036854775807 - n) = 9223372036854775807 - n := wrap_id (by omega) (by omega)
    have e2 : IntKind.wrap .i64 (n + bsize a) = n + bsize a := wrap_id (by omega) (by omega)
    rw [e1, if_neg (by omega), e2, wrap_succ (by omega)]
    exact ih (k + 1) _ (drop_next hd) (by omega) (by omega) (by omega)
theorem spec {ps : List ByteArray} (hl : ps.length ≤ 40) (hs : ∀ a ∈ ps, a.size ≤ 400) : C ps sp32 (jnB ps) := by
  obtain ⟨r, h1, h2⟩ := enter ps sp32 (fun r => r = jnB ps) (by
    match hps : ps with
    | [] =>
      rw [if_pos (by simp)]; rfl
    | [a] =>
      rw [if_neg (by simp), if_pos (by simp)]
      refine ⟨a, rfl, ?_⟩
      unfold jnB
      have : jn ([a].map ByteArray.toList) = a.toList := by simp [jn, tlJ]
      rw [this, bstr_toList]
    | p :: q :: t =>
      have hlen : (p :: q :: t).length = t.length + 2 := rfl
      rw [hlen] at hl ⊢
      rw [if_neg (by omega), if_neg (by omega), if_pos (by decide)]
      have e1 : IntKind.wrap .i64 (((t.length + 2 : Nat) : Int) - 1) = ((t.length + 1 : Nat) : Int) := by
        rw [wrap_id (by omega) (by omega)]; omega
      rw [e1]
      refine ⟨by omega, ?_⟩
      have hpos : (0 : Int) < ((t.length + 1 : Nat) : Int) := by omega
      have e2 : Int.tdiv 9223372036854775807 ((t.length + 1 : Nat) : Int) = 9223372036854775807 / ((t.length + 1 : Nat) : Int) := Int.tdiv_eq_ediv_of_nonneg (by decide)
      have h2 : 2 ≤ (9223372036854775807 : Int) / ((t.length + 1 : Nat) : Int) := (Int.le_ediv_iff_mul_le hpos).2 (by omega)
      have h3 : (9223372036854775807 : Int) / ((t.length + 1 : Nat) : Int) ≤ 9223372036854775807 := Int.ediv_le_self _ (by decide)
      have hb : bsize sp32 = 1 := rfl
      rw [e2, wrap_id (by omega) (by omega), hb, if_neg (by omega)]
      apply L2_step
      have e3 : IntKind.wrap .i64 (1 * ((t.length + 1 : Nat) : Int)) = ((t.length + 1 : Nat) : Int) := by
        rw [wrap_id (by omega) (by omega)]; omega
      have e4 : IntKind.wrap .i64 (0 + ((t.length + 1 : Nat) : Int)) = ((t.length + 1 : Nat) : Int) := by
        rw [wrap_id (by omega) (by omega)]; omega
      rw [e3, e4]
      exact sizes (φ := fun r => r = jnB (p :: q :: t)) rfl (by rw [hlen]; exact hl) hs (Eq.refl _) _ 0 _ rfl (by omega) (by omega) (by omega))
  rw [← h1]; exact h2
end strings_Join
def pickN (l : List ByteArray) : List Nat → Option (List ByteArray)
  | [] => some []
  | i :: r => match l[i]? with
    | none => none
    | some a => (pickN l r).map (a :: ·)
def namesE (o : Option (List ByteArray)) : ByteArray × Int := match o with
  | some ps => (jnB ps, 0)
  | none => ((⟨#[]⟩ : ByteArray), 6)
def namesR (n : Nat) (l : List ByteArray) : ByteArray × Int := if vN l = 0 then namesE (pickN l (bitsOf n)) else ((⟨#[]⟩ : ByteArray), vN l)
theorem drop_map {l : List Nat} {k : Nat} {i : Nat} {r : List Nat} (h : l.drop k = i :: r) : lget (l.map fun (i : Nat) => (i : Int)) (k : Int) = some (i : Int) := by
  refine lget_of ?_
  rw [List.getElem?_map, drop_get h]; rfl
theorem attrset_Names.spec {n : Nat} {l : List ByteArray} (hn : n < 2 ^ 32) (hs : ∀ a ∈ l, a.size ≤ 400) : attrset_Names.C n l (namesR n l) := by
  obtain ⟨r, h1, h2⟩ := attrset_Names.enter n l (fun r => r = namesR n l) (by
    refine ⟨_, attrset_checked.spec (fun a ha => by have := hs a ha; omega), ?_⟩
    unfold namesR
    split
    · refine ⟨_, attrset_Members.spec hn, ?_⟩
      have hbl := bitsOf_len (n := n)
      generalize bitsOf n = b at *
      have : ∀ (r : List Nat) (k : Nat) (parts : List ByteArray), b.drop k = r → k ≤ b.length → parts.length = k → (∀ a ∈ parts, a.size ≤ 400) → namesE ((pickN l r).map (parts ++ ·)) = namesE (pickN l b) → attrset_Names.L1 l parts (b.map fun (i : Nat) => (i : Int)) k (fun r => r = namesE (pickN l b)) := by
        intro r
        induction r with
        | nil =>
          intro k parts hd hkb hk hp he
          have := drop_ge hd
          apply attrset_Names.L1_step
          rw [List.length_map, if_neg (by omega)]
          refine ⟨_, strings_Join.spec (by omega) hp, ?_⟩
          rw [← he]
          simp [pickN, namesE]
        | cons i r ih =>
          intro k parts hd hkb hk hp he
          have hlt := drop_lt hd
          apply attrset_Names.L1_step
          rw [List.length_map, if_pos (by omega)]
          refine ⟨_, drop_map hd, ?_⟩
          rw [pickN] at he
          cases hi : l[i]? with
          | none =>
            rw [hi] at he
            rw [List.getElem?_eq_none_iff] at hi
            rw [if_pos (by omega), ← he]; rfl
          | some a =>
            rw [hi] at he
            have hil := (List.getElem?_eq_some_iff.1 hi).1
            rw [if_neg (by omega)]
            refine ⟨a, lget_of hi, by omega, ?_⟩
            rw [wrap_succ (by omega)]
            refine ih (k + 1) _ (drop_next hd) (by omega) (by rw [List.length_append, List.length_singleton]; omega) ?_ ?_
            · intro c hc
              rcases List.mem_append.1 hc with hc | hc
              · exact hp c hc
              · rw [List.mem_singleton.1 hc]; exact hs a (List.mem_of_getElem? hi)
            · rw [← he]
              cases pickN l r <;> simp
      exact this b 0 [] rfl (Nat.zero_le _) rfl (fun a h => by cases h) (by cases pickN l b <;> simp)
    · rfl)
  rw [← h1]; exact h2
theorem drossref02_Names.spec {n : Nat} {l : List ByteArray} (hn : n < 2 ^ 32) (hs : ∀ a ∈ l, a.size ≤ 400) : drossref02_Names.C n l (namesR n l) := by
  obtain ⟨r, h1, h2⟩ := drossref02_Names.enter n l (fun r => r = namesR n l) (by
    refine ⟨_, drossref02_ValidNames.spec (fun a ha => by have := hs a ha; omega), ?_⟩
    unfold namesR
    split
    · refine ⟨_, drossref02_Members.spec hn, ?_⟩
      have hbl := bitsOf_len (n := n)
      generalize bitsOf n = b at *
      have : ∀ (r : List Nat) (k : Nat) (parts : List ByteArray), b.drop k = r → parts.length = k → (∀ a ∈ parts, a.size ≤ 400) → namesE ((pickN l r).map (parts ++ ·)) = namesE (pickN l b) → drossref02_Names.L1 l (jnB parts) (b.map fun (i : Nat) => (i : Int)) k (fun r => r = namesE (pickN l b)) := by
        intro r
        induction r with
        | nil =>
          intro k parts hd hk hp he
          have := drop_ge hd
          apply drossref02_Names.L1_step
          rw [List.length_map, if_neg (by omega), ← he]
          simp [pickN, namesE]
        | cons i r ih =>
          intro k parts hd hk hp he
          have hlt := drop_lt hd
          have hjl : (jnB parts).size ≤ 401 * parts.length := by
            rw [bsize_nat]
            unfold jnB
            rw [bl_bstr]
            have := jn_len (ps := parts.map ByteArray.toList) (by
              intro p hp2
              obtain ⟨a, ha, rfl⟩ := List.mem_map.1 hp2
              have := hp a ha
              rw [bsize_nat] at this; exact this)
            rwa [List.length_map] at this
          apply drossref02_Names.L1_step
          rw [List.length_map, if_pos (by omega)]
          refine ⟨_, drop_map hd, ?_⟩
          rw [pickN] at he
          cases hi : l[i]? with
          | none =>
            rw [hi] at he
            rw [List.getElem?_eq_none_iff] at hi
            rw [if_pos (by omega), ← he]; rfl
          | some a =>
            rw [hi] at he
            have hil := (List.getElem?_eq_some_iff.1 hi).1
            have hsa := hs a (List.mem_of_getElem? hi)
            have go : ∀ y : ByteArray, y.size ≤ 401 * 40 → y ++ a = jnB (parts ++ [a]) → drossref02_Names.L2 l y (b.map fun (i : Nat) => (i : Int)) k (fun r => r = namesE (pickN l b)) := by
              intro y hy hya
              apply drossref02_Names.L2_step
              refine ⟨_, drop_map hd, a, lget_of hi, by omega, ?_⟩
              rw [wrap_succ (by omega), hya]
              refine ih (k + 1) _ (drop_next hd) (by rw [List.length_append, List.length_singleton]; omega) ?_ ?_
              · intro c hc
                rcases List.mem_append.1 hc with hc | hc
                · exact hp c hc
                · rw [List.mem_singleton.1 hc]; exact hsa
              · rw [← he]
                cases pickN l r <;> simp
            rw [if_neg (by omega)]
            have h1s : (⟨#[32]⟩ : ByteArray).size = 1 := rfl
            by_cases hk0 : k = 0
            · rw [if_neg (by omega)]
              refine go _ (by omega) ?_
              have : parts = [] := List.length_eq_zero_iff.1 (by omega)
              subst this
              have e1 : jnB [] = bstr [] := rfl
              have e2 : jnB ([] ++ [a]) = bstr a.toList := by unfold jnB; simp [jn, tlJ]
              have e3 : a = bstr a.toList := bstr_toList.symm
              rw [e1, e2]
              conv => lhs; rw [e3, bstr_append]
              rfl
            · rw [if_pos (by omega)]
              refine ⟨by omega, ?_⟩
              have e4 : jnB parts ++ sp32 = bstr (jn (parts.map ByteArray.toList) ++ [32]) := bstr_append (a := jn (parts.map ByteArray.toList)) (b := [32])
              refine go _ ?_ ?_
              · rw [e4, bsize_nat, bl_bstr, List.length_append, List.length_singleton]
                rw [bsize_nat] at hjl
                unfold jnB at hjl
                rw [bl_bstr] at hjl
                omega
              · have e3 : a = bstr a.toList := bstr_toList.symm
                rw [e4]
                conv => lhs; rw [e3, bstr_append]
                unfold jnB
                rw [List.map_append, List.map_cons, List.map_nil, jn_snoc (by
                  intro h
                  have : parts = [] := List.map_eq_nil_iff.1 h
                  subst this
                  simp at hk; omega)]
                simp
      exact this b 0 [] rfl rfl (fun a h => by cases h) (by cases pickN l b <;> simp)
    · rfl)
  rw [← h1]; exact h2
end Go.Own

namespace Go.Own
theorem ofF_nat : ∀ {js : List Nat} {s : Nat}, (∀ j ∈ js, j < 16) → s < 65536 → ∃ n : Nat, n < 65536 ∧ ofF (js.map fun (j : Nat) => (j : Int)) s = ((n : Int), 0) ∧ ∀ i, n.testBit i = (s.testBit i || decide (i ∈ js))
  | [], s, _, hs => ⟨s, hs, rfl, fun i => by simp⟩
  | j :: js, s, h, hs => by
    have hj := h j (by simp)
    have hp : 2 ^ j < 65536 := by
      have : 2 ^ j ≤ 2 ^ 15 := Nat.pow_le_pow_right (by omega) (by omega)
      omega
    have e1 : shlw .u32 1 (j : Int) = ((2 ^ j : Nat) : Int) := shl1_nat (k := .u32) (by simp only [top]; omega)
    have e2 : bOr .u32 (s : Int) ((2 ^ j : Nat) : Int) = ((s ||| 2 ^ j : Nat) : Int) := bOr_nat (k := .u32) (by simp only [top]; omega) (by simp only [top]; omega)
    have hs2 : s ||| 2 ^ j < 65536 := Nat.or_lt_two_pow (n := 16) hs hp
    obtain ⟨n, h1, h2, h3⟩ := ofF_nat (js := js) (s := s ||| 2 ^ j) (fun i hi => h i (by simp [hi])) hs2
    refine ⟨n, h1, ?_, fun i => ?_⟩
    · rw [List.map_cons, ofF, if_neg (by omega), if_neg (by omega), e1, e2]; exact h2
    · rw [h3, Nat.testBit_or, Nat.testBit_two_pow]
      by_cases hij : j = i
      · subst hij; simp
      · have : ¬ i = j := fun h => hij h.symm
        simp [hij, this]
theorem chain_iff : ∀ {js : List Nat} {p : Nat}, chainB (p : Int) (js.map fun (j : Nat) => (j : Int)) = true ↔ (p :: js).Pairwise (· < ·)
  | [], p => by simp [chainB]
  | j :: js, p => by
    rw [List.map_cons, chainB]
    by_cases h : (j : Int) ≤ (p : Int)
    · rw [if_pos h]
      constructor
      · intro h; cases h
      · intro hp
        have := (List.pairwise_cons.1 hp).1 j (by simp)
        omega
    · rw [if_neg h, chain_iff, List.pairwise_cons]
      constructor
      · intro hp
        refine List.pairwise_cons.2 ⟨fun a ha => ?_, List.pairwise_cons.2 hp⟩
        rcases List.mem_cons.1 ha with rfl | ha
        · omega
        · have := hp.1 a ha; omega
      · intro hp
        exact List.pairwise_cons.1 (List.pairwise_cons.1 hp).2
theorem asc_iff {js : List Nat} : ascB (js.map fun (j : Nat) => (j : Int)) = true ↔ js.Pairwise (· < ·) := by
  cases js with
  | nil => simp [ascB]
  | cons j js => rw [List.map_cons, ascB, chain_iff]
theorem eqS_iff {x a : ByteArray} : eqS x a = true ↔ a = x := by simp [eqS]
theorem ixs_pick {l : List ByteArray} : ∀ {ws : List ByteArray} {is : List Int}, ixsL l ws = some is → ∃ js : List Nat, is = (js.map fun (j : Nat) => (j : Int)) ∧ (∀ j ∈ js, j < l.length) ∧ pickN l js = some ws
  | [], is, h => by
    rw [ixsL, Option.some.injEq] at h
    exact ⟨[], by rw [← h]; rfl, (fun j hj => by cases hj), rfl⟩
  | w :: ws, is, h => by
    rw [ixsL] at h
    split at h
    · cases h
    · rename_i hx
      obtain ⟨is2, h1, h2⟩ := Option.map_eq_some_iff.1 h
      obtain ⟨js, g1, g2, g3⟩ := ixs_pick h1
      rcases ixI_spec (l := l) (p := eqS w) with ⟨k1, _⟩ | ⟨n, a, k1, k2, k3, _⟩
      · omega
      · have ha := eqS_iff.1 k3
        refine ⟨n :: js, ?_, ?_, ?_⟩
        · rw [← h2, k1, g1]; rfl
        · intro j hj
          rcases List.mem_cons.1 hj with rfl | hj
          · exact (List.getElem?_eq_some_iff.1 k2).1
          · exact g2 j hj
        · rw [pickN, k2, g3, ha]; rfl
theorem pick_ixs {l : List ByteArray} (hn : l.Nodup) : ∀ {js : List Nat} {ps : List ByteArray}, pickN l js = some ps → ixsL l ps = some (js.map fun (j : Nat) => (j : Int)) ∧ (∀ p ∈ ps, p ∈ l) ∧ ∀ j ∈ js, j < l.length
  | [], ps, h => by
    rw [pickN, Option.some.injEq] at h
    subst h
    exact ⟨rfl, (fun p hp => by cases hp), (fun j hj => by cases hj)⟩
  | j :: js, ps, h => by
    rw [pickN] at h
    cases hj : l[j]? with
    | none => rw [hj] at h; cases h
    | some a =>
      rw [hj] at h
      obtain ⟨qs, h1, h2⟩ := Option.map_eq_some_iff.1 h
      obtain ⟨g1, g2, g3⟩ := pick_ixs hn h1
      have hjl := (List.getElem?_eq_some_iff.1 hj)
      have hix : ixI (eqS a) l = (j : Int) := by
        rcases ixI_spec (l := l) (p := eqS a) with ⟨_, k2⟩ | ⟨n, b, k1, k2, k3, _⟩
        · have := k2 a (List.mem_of_getElem? hj)
          rw [eqS_iff.2 rfl] at this; cases this
        · have hb := eqS_iff.1 k3
          have hnl := List.getElem?_eq_some_iff.1 k2
          have : n = j := (List.getElem_inj hn).1 (by rw [hnl.2, hjl.2, hb])
          rw [k1, this]
      subst h2
      refine ⟨?_, fun p hp => ?_, fun i hi => ?_⟩
      · rw [ixsL, hix, if_neg (by omega), g1]; rfl
      · rcases List.mem_cons.1 hp with rfl | hp
        · exact List.mem_of_getElem? hj
        · exact g2 p hp
      · rcases List.mem_cons.1 hi with rfl | hi
        · exact hjl.1
        · exact g3 i hi
theorem bits_of {n : Nat} {js : List Nat} (hn : n < 65536) (hs : js.Pairwise (· < ·)) (h : ∀ i, n.testBit i = ((0 : Nat).testBit i || decide (i ∈ js))) : bitsOf n = js := by
  refine asc_ext id bitsOf_sorted hs fun i => ?_
  rw [bitsOf_mem (by omega), h]
  simp
theorem of_bits {n : Nat} (hn : n < 65536) : ofF ((bitsOf n).map fun (j : Nat) => (j : Int)) 0 = ((n : Int), 0) := by
  have hlt : ∀ j ∈ bitsOf n, j < 16 := fun j hj => by
    rw [bitsOf_mem (by omega)] at hj
    false_or_by_contra
    rename_i h
    rw [Nat.testBit_lt_two_pow (Nat.lt_of_lt_of_le (show n < 2 ^ 16 from hn) (Nat.pow_le_pow_right (by decide) (by omega)))] at hj
    cases hj
  obtain ⟨m, h1, h2, h3⟩ := ofF_nat (s := 0) hlt (by decide)
  have : m = n := Nat.eq_of_testBit_eq fun i => by
    rw [h3, Nat.zero_testBit, Bool.false_or]
    by_cases h : n.testBit i = true
    · rw [h]; exact decide_eq_true ((bitsOf_mem (by omega)).2 h)
    · rw [Bool.eq_false_iff.2 h]; exact decide_eq_false fun hh => h ((bitsOf_mem (by omega)).1 hh)
  rw [this] at h2
  exact h2
theorem map_bstr {ps : List (List UInt8)} : (ps.map bstr).map ByteArray.toList = ps := by
  rw [List.map_map]
  have : (ByteArray.toList ∘ bstr) = id := funext fun l => bl_bstr
  rw [this, List.map_id]
theorem map_toList {ps : List ByteArray} : (ps.map ByteArray.toList).map bstr = ps := by
  rw [List.map_map]
  have : (bstr ∘ ByteArray.toList) = id := funext fun l => bstr_toList
  rw [this, List.map_id]
theorem jn_words {s : ByteArray} : jnB (wordsF s) = s := by
  unfold wordsF
  split
  · rename_i h
    have : s = bstr s.toList := bstr_toList.symm
    rw [this, h]; rfl
  · unfold jnB
    rw [map_bstr, jn_spl, bstr_toList]
theorem nameOk_iff {s : ByteArray} (h : nameOk s = true) : s.toList ≠ [] ∧ s.toList.count 32 = 0 := by
  unfold nameOk at h
  rw [Bool.and_eq_true, Bool.not_eq_true', Bool.not_eq_true'] at h
  refine ⟨(fun e => by rw [e] at h; cases h.1), List.count_eq_zero.2 fun hm => ?_⟩
  have := List.any_eq_false.1 h.2 32 hm
  exact this rfl
theorem words_jn {ps : List ByteArray} (h : ∀ p ∈ ps, nameOk p = true) : wordsF (jnB ps) = ps := by
  unfold wordsF jnB
  rw [bl_bstr]
  cases ps with
  | nil => rfl
  | cons p t =>
    obtain ⟨h1, h2⟩ := nameOk_iff (h p (by simp))
    have e : jn ((p :: t).map ByteArray.toList) = p.toList ++ tlJ (t.map ByteArray.toList) := rfl
    rw [if_neg (by rw [e]; intro hh; exact h1 (List.append_eq_nil_iff.1 hh).1), e, spl_join h2 (fun b hb => by
      obtain ⟨q, hq, rfl⟩ := List.mem_map.1 hb
      exact (nameOk_iff (h q (by simp [hq]))).2)]
    exact map_toList (ps := p :: t)
theorem named_good (s : ByteArray) (l : List ByteArray) : ∃ n : Nat, n < 65536 ∧ (namedR s l).1 = (n : Int) ∧ ((namedR s l).2 = 0 → namesR n l = (s, 0)) := by
  have z : ∀ e : Int, e ≠ 0 → ∃ n : Nat, n < 65536 ∧ ((0 : Int), e).1 = (n : Int) ∧ (((0 : Int), e).2 = 0 → namesR n l = (s, 0)) := fun e he => ⟨0, by decide, rfl, fun h => absurd h he⟩
  unfold namedR
  split
  · rename_i hv
    obtain ⟨v1, _, v3⟩ := vN_zero hv
    unfold wordsR
    split
    · exact z 2 (by decide)
    · cases hi : ixsL l (wordsF s) with
      | none => exact z 4 (by decide)
      | some is =>
        obtain ⟨js, h1, h2, h3⟩ := ixs_pick hi
        show ∃ n : Nat, n < 65536 ∧ (tailF is).1 = (n : Int) ∧ ((tailF is).2 = 0 → namesR n l = (s, 0))
        unfold tailF
        split
        · rename_i ha
          rw [h1] at ha ⊢
          obtain ⟨n, g1, g2, g3⟩ := ofF_nat (s := 0) (js := js) (fun j hj => by have := h2 j hj; omega) (by decide)
          have g2 : ofF (js.map fun (j : Nat) => (j : Int)) 0 = ((n : Int), 0) := g2
          rw [g2]
          refine ⟨n, g1, rfl, fun _ => ?_⟩
          unfold namesR
          rw [if_pos hv, bits_of g1 (asc_iff.1 ha) g3, h3]
          show (jnB (wordsF s), (0 : Int)) = _
          rw [jn_words]
        · exact z 2 (by decide)
  · rename_i hv
    exact z _ hv
theorem names_good {n : Nat} {l : List ByteArray} (hn : n < 65536) : (namesR n l).2 = 0 ∧ namedR (namesR n l).1 l = ((n : Int), 0) ∨ (namesR n l).2 ≠ 0 ∧ (namesR n l).1 = ⟨#[]⟩ := by
  unfold namesR
  split
  · rename_i hv
    obtain ⟨v1, v2, v3⟩ := vN_zero hv
    cases hp : pickN l (bitsOf n) with
    | none => exact .inr ⟨by decide, rfl⟩
    | some ps =>
      left
      obtain ⟨g1, g2, g3⟩ := pick_ixs v3 hp
      have hok : ∀ p ∈ ps, nameOk p = true := fun p h => v2 p (g2 p h)
      refine ⟨rfl, ?_⟩
      show namedR (jnB ps) l = _
      unfold namedR wordsR
      rw [if_pos hv, words_jn hok, if_neg (by
        intro h
        obtain ⟨p, hp1, hp2⟩ := List.any_eq_true.1 h
        have := (nameOk_iff (hok p hp1)).1
        rw [eqS_iff.1 hp2] at this
        exact this bl_nil), g1]
      show tailF _ = _
      unfold tailF
      rw [if_pos (asc_iff.2 bitsOf_sorted), of_bits hn]
  · rename_i hv
    exact .inr ⟨hv, rfl⟩
theorem names_size {n : Nat} {l : List ByteArray} (hs : ∀ a ∈ l, a.size ≤ 400) : (namesR n l).1.size ≤ 100000 := by
  have mem : ∀ {js : List Nat} {ps : List ByteArray}, pickN l js = some ps → ps.length = js.length ∧ ∀ p ∈ ps, p ∈ l := by
    intro js
    induction js with
    | nil => intro ps h; rw [pickN, Option.some.injEq] at h; subst h; exact ⟨rfl, fun p hp => by cases hp⟩
    | cons j js ih =>
      intro ps h
      rw [pickN] at h
      cases hj : l[j]? with
      | none => rw [hj] at h; cases h
      | some a =>
        rw [hj] at h
        obtain ⟨qs, h1, h2⟩ := Option.map_eq_some_iff.1 h
        obtain ⟨g1, g2⟩ := ih h1
        subst h2
        refine ⟨by simp [g1], fun p hp => ?_⟩
        rcases List.mem_cons.1 hp with rfl | hp
        · exact List.mem_of_getElem? hj
        · exact g2 p hp
  unfold namesR
  split
  · cases hp : pickN l (bitsOf n) with
    | none => show (⟨#[]⟩ : ByteArray).size ≤ _; decide
    | some ps =>
      obtain ⟨h1, h2⟩ := mem hp
      have hb := bitsOf_len (n := n)
      show (jnB ps).size ≤ _
      unfold jnB
      rw [bsize_nat, bl_bstr]
      have := jn_len (ps := ps.map ByteArray.toList) (by
        intro p hp2
        obtain ⟨a, ha, rfl⟩ := List.mem_map.1 hp2
        have := hs a (h2 a ha)
        rw [bsize_nat] at this; exact this)
      rw [List.length_map] at this
      omega
  · show (⟨#[]⟩ : ByteArray).size ≤ _; decide
end Go.Own
