/- An interpreter of function bodies without memory, proved sound for the model. No conditions. -/
import Derived.Test.YtjiphhbagdangaaOwn4
set_option linter.all false

namespace Go.Own
open D
section
variable {E : Env} {f : Nat} {V : List Nat} {call : Caller} {F F1 F2 : Fr} {o : Oper}
theorem opsC_cons {ops : Array Oper} {l : List Nat} {i : Nat} (hi : ops[i]? = some o) (hw : wantedD ops F o = some true) (h : opC E f V call F o = some F1) : opsC E f V call ops (i :: l) F = opsC E f V call ops l F1 := by
  simp only [opsC, hi, hw, h]
theorem opsC_app {ops : Array Oper} : ∀ {l m : List Nat} {F F1 : Fr}, opsC E f V call ops l F = some F1 → opsC E f V call ops (l ++ m) F = opsC E f V call ops m F1
  | [], m, F, F1, h => by simp only [opsC, Option.some.injEq] at h; subst h; rfl
  | i :: l, m, F, F1, h => by
    simp only [List.cons_append, opsC] at h ⊢
    split at h
    · exact opsC_app h
    · split at h
      · split at h
        · exact opsC_app h
        · cases h
      · exact opsC_app h
      · cases h
theorem reg_of {ops : Array Oper} {F' : Fr} (h : opsC E f V call ops (List.range ops.size) F = some F1) (hn : norm V F1 = F') : regC E f V call ops false F = some F' := by
  simp [regC, h, hn]
theorem reg_first {ops : Array Oper} {l : List Nat} {F' : Fr} (hr : List.range ops.size = 0 :: l) (hi : ops[0]? = some o) (hw : wantedD ops F o = some true) (h : opC E f V call F o = some F1) (k : (opsC E f V call ops l F1).map (norm V) = some F') : regC E f V call ops false F = some F' := by
  simp only [regC, Bool.false_eq_true, if_false, hr]
  rw [opsC_cons hi hw h]
  exact k
theorem index_sl {t e k i : Nat} {q : IntKind} {x ix : Operand} {es : List (List D)} {c : List D} (ho : o.op = .indexAddr t x ix) (hx : opd E F x = some (.sl es)) (hix : opd E F ix = some (.lit (.int q (i : Int)))) (ht : sliceT E.P t = some e) (hs : sizeT E.P e = k)
    (hc : es[i]? = some c) (hk : c.length = k) : opC E f V call F o = some (fin F o.dst (.ref c)) := by
  unfold opC
  have e0 : (0 : Int) ≤ (i : Int) := Int.natCast_nonneg i
  simp only [ho, hx, hix, indexAddrD, asNat, asInt, ht, hs, if_pos e0, Int.toNat_natCast, hc, hk, if_true, Option.map_some]
theorem index_own {t e k i s : Nat} {ps : Path} {q : IntKind} {x ix : Operand} {es : List (List D)} {c : List D} (ho : o.op = .indexAddr t x ix) (hx : opd E F x = some (.alias s ps)) (hg : getAt F s ps = some (.own es)) (hix : opd E F ix = some (.lit (.int q (i : Int)))) (ht : sliceT E.P t = some e) (hs : sizeT E.P e = k)
    (hc : es[i]? = some c) (hk : c.length = k) : opC E f V call F o = some (fin F o.dst (.place s ps i 0)) := by
  unfold opC
  have e0 : (0 : Int) ≤ (i : Int) := Int.natCast_nonneg i
  simp only [ho, hx, hix, indexAddrD, asNat, asInt, ht, hs, hg, if_pos e0, Int.toNat_natCast, hc, hk, if_true, Option.map_some]
theorem load_own {t i s k : Nat} {ps : Path} {x : Operand} {es : List (List D)} {ec : List D} {d : D} (ho : o.op = .load t x) (hx : opd E F x = some (.place s ps i 0)) (hg : getAt F s ps = some (.own es)) (hc : es[i]? = some ec) (hu : (E.P.underlying t).isNone = false) (hs : sizeT E.P t = k) (hk : ec.length = k)
    (hd : ofCells (isAggT E.P t) (viewCells s ps i 0 ec) = some d) : opC E f V call F o = some (fin F o.dst d) := by
  unfold opC
  have e1 : (ec.drop 0).take k = ec := by rw [List.drop_zero, ← hk, List.take_length]
  have e2 : 0 + k ≤ ec.length := by omega
  simp only [ho, hx, loadD, hu, ptrOf, hg, D.elem, hc, hs, if_pos e2, e1, hd]
  simp
theorem store_own {t i s k : Nat} {ps : Path} {x y : Operand} {es : List (List D)} {ec : List D} {d : D} (ho : o.op = .store t x y) (hy : takeOp E F y = some (d, F1)) (hx : opd E F1 x = some (.place s ps i 0)) (hg : getAt F1 s ps = some (.own es)) (hc : es[i]? = some ec) (hi : (E.P.info? t).isSome = true) (hs : sizeT E.P t = k) (hk : ec.length = k) (hl : d.cells.length = k)
    (hn : ec.any node1 = false) (hset : setAt F1 s ps (.own (es.set i d.cells)) = some F2) : opC E f V call F o = some (fin F2 o.dst (.tup [])) := by
  unfold opC
  have e1 : (ec.drop 0).take k = ec := by rw [List.drop_zero, ← hk, List.take_length]
  have e2 : d.cells.length = k ∧ 0 + k ≤ ec.length := ⟨hl, by omega⟩
  have e3 : ec.drop (0 + k) = [] := by rw [Nat.zero_add, ← hk, List.drop_length]
  simp only [ho, hi, if_true, hy, hx, storeD, ptrOf, hg, D.elem, hc, hs, if_pos e2, List.take_zero, List.nil_append, e3, List.append_nil, D.setElem, hset, e1, hn]
  simp
end
end Go.Own
