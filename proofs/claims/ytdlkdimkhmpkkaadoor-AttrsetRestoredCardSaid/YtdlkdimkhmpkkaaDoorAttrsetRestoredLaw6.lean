/- What the functions that the law reaches answer. No conditions. -/
import Derived.Test.YtdlkdimkhmpkkaaDoorProg
import Derived.Laws.IdiomCopy
import Derived.Lib.MakeNoZero
import Derived.Test.YtdlkdimkhmpkkaaDoorBase5
import Derived.Test.YtdlkdimkhmpkkaaDoorOwn29
import Derived.Test.YtdlkdimkhmpkkaaDoorOwn32
set_option linter.all false

namespace Go.Own.Bld
open Go.Proofs Go.Lib Go.RowKit
theorem sizeByte : (Tryd.prog.info? 5).map (·.size) = some 1 := by kernel_rfl
set_option maxHeartbeats 2000000 in
set_option maxRecDepth 1000000 in
theorem grow0 (b c n : Nat) (ao : Option Addr) (w : World) (hbk : w.heap[b]? = some (.cells #[.pointer (some ⟨b, 0, none⟩), .slice ao 0 c] 80 (0, 0))) (hn : 2 * c + n ≤ 281474976710656) :
    Calls Tryd.prog 82 #[.pointer (some ⟨b, 0, none⟩), .int .i64 n] w fun e w' => e = .returned (.tuple #[]) ∧ ∃ g cap cur, w'.heap[b]? = some (.cells #[.pointer (some ⟨b, 0, none⟩), .slice (some ⟨g, 0, none⟩) 0 cap] 80 (0, 0)) ∧
      w.heap.size ≤ g ∧ w'.heap[g]? = some (.cells cur 5 (0, 0)) ∧ cur.size = cap ∧ cap ≤ maxLen ∧ w'.os = w.os ∧ w'.tape = w.tape ∧ w'.output = w.output ∧ w.heap.size ≤ w'.heap.size ∧ ∀ k, k < w.heap.size → k ≠ b → w'.heap[k]? = w.heap[k]? := by
  obtain ⟨cs, hrun, hle, hmax⟩ := Lib.run_makeNoZero (P := Tryd.prog) (w := w.drew) #[3] 77 5 Tryd.underlying77 (2 * c + n) hn
  have hlt : b < w.heap.size := by
    rcases Nat.lt_or_ge b w.heap.size with h' | h'
    · exact h'
    · simp [Array.getElem?_eq_none h'] at hbk
  have hw : IntKind.i64.wrap (IntKind.i64.wrap (2 * (c : Int)) + (n : Int)) = ((2 * c + n : Nat) : Int) := by
    rw [IntKind.wrap_i64, IntKind.wrap_i64]
    omega
  have hcall : (callFunc 99 #[.int .i64 (IntKind.i64.wrap (IntKind.i64.wrap (2 * (c : Int)) + (n : Int)))]).run Tryd.prog w.drew = .ok (.value (.slice (some ⟨w.drew.heap.size, 0, none⟩) (2 * c + n) cs.size)) (w.drew.drew.drew.alloc (.cells cs 5)) := by
    rw [hw, run_callFunc_extern Tryd.func99 (by kernel_rfl) (by kernel_rfl) (by kernel_rfl) (e := Extern.BytealgMakeNoZero.makeNoZero #[3] #[77]) (by kernel_rfl), hrun]
    rfl
  have c1 : w.drew.cell? ⟨b, 1, none⟩ = some (.slice ao 0 c) := by
    have : w.drew.heap[b]? = _ := hbk
    rw [Lib.cell_of_heap this]; rfl
  have hb2 : (w.alloc (.cells cs 5)).heap[b]? = some (.cells #[.pointer (some ⟨b, 0, none⟩), .slice ao 0 c] 80 (0, 0)) := (Lib.alloc_old w _ b hlt).trans hbk
  have c2 : (w.alloc (.cells cs 5)).cell? ⟨b, 1, none⟩ = some (.slice ao 0 c) := by
    rw [Lib.cell_of_heap hb2]; rfl
  have f2 : (w.alloc (.cells cs 5)).frozen? ⟨b, 1, none⟩ = false := Lib.frozen_of_heap hb2 1
  have hcopy : ∀ W : World, (Builtin.copy_ #[77, 77] 3 #[.slice (some ⟨w.heap.size, 0, none⟩) 0 cs.size, .slice ao 0 c]).run Tryd.prog W = .ok (goInt 0) W :=
    fun W => run_copy_none W 77 77 3 5 _ _ 0 cs.size 0 c Tryd.underlying77 sizeByte rfl
  have hfin : ∀ W : World, W.heap = ((w.setCell ⟨b, 1, none⟩ (.slice (some ⟨w.heap.size, 0, none⟩) 0 cs.size)).alloc (.cells cs 5)).heap → W.os = w.os → W.tape = w.tape → W.output = w.output → ∃ g cap cur, W.heap[b]? = some (.cells #[.pointer (some ⟨b, 0, none⟩), .slice (some ⟨g, 0, none⟩) 0 cap] 80 (0, 0)) ∧
      w.heap.size ≤ g ∧ W.heap[g]? = some (.cells cur 5 (0, 0)) ∧ cur.size = cap ∧ cap ≤ maxLen ∧ W.os = w.os ∧ W.tape = w.tape ∧ W.output = w.output ∧ w.heap.size ≤ W.heap.size ∧ ∀ k, k < w.heap.size → k ≠ b → W.heap[k]? = w.heap[k]? := by
    intro W hW h1 h2 h3
    have hz : (w.setCell ⟨b, 1, none⟩ (.slice (some ⟨w.heap.size, 0, none⟩) 0 cs.size)).heap.size = w.heap.size := (Same.set b 1 w _).size
    have hold : ∀ k, k < w.heap.size → W.heap[k]? = (w.setCell ⟨b, 1, none⟩ (.slice (some ⟨w.heap.size, 0, none⟩) 0 cs.size)).heap[k]? := fun k hk => by
      rw [hW]; exact Lib.alloc_old _ _ k (by rw [hz]; exact hk)
    refine ⟨w.heap.size, cs.size, cs, (hold b hlt).trans (set1 hbk), Nat.le_refl _, ?_, rfl, hmax (by unfold maxLen; omega), h1, h2, h3, ?_, fun k hk hkb => (hold k hk).trans ((Same.set b 1 w _).block k hkb)⟩
    · have := heap_alloc_new (w.setCell ⟨b, 1, none⟩ (.slice (some ⟨w.heap.size, 0, none⟩) 0 cs.size)) (.cells cs 5)
      rw [hz] at this
      rw [hW]; exact this
    · have : W.heap.size = w.heap.size + 1 := by rw [hW]; exact (Array.size_push _).trans (by rw [hz])
      omega
  clear hw
  have mixed := mixed
  go_enter Tryd.func82, Tryd.ntmps82
  go_wp2
  go_region_o
  all_goals (go_wp2; go_end0; exact ⟨rfl, hfin _ rfl rfl rfl rfl⟩)
end Go.Own.Bld

namespace Go.Own.Bld
open Go.Proofs Go.Lib Go.RowKit
set_option maxHeartbeats 2000000 in
set_option maxRecDepth 1000000 in
theorem grow1 (b c n : Nat) (ao : Option Addr) (w : World) (p : Value) (hb : w.heap[b]? = some (.cells #[p, .slice ao 0 c] 80 (0, 0))) (hp : p = .pointer none ∨ p = .pointer (some ⟨b, 0, none⟩)) (hn : n ≤ 70368744177664) (hc : c ≤ maxLen) :
    Calls Tryd.prog 68 #[.pointer (some ⟨b, 0, none⟩), .int .i64 n] w fun e w' => e = .returned (.tuple #[]) ∧ ∃ v', w'.heap[b]? = some (.cells #[.pointer (some ⟨b, 0, none⟩), v'] 80 (0, 0)) ∧
      (v' = .slice ao 0 c ∨ ∃ g cap cur, v' = .slice (some ⟨g, 0, none⟩) 0 cap ∧ w.heap.size ≤ g ∧ w'.heap[g]? = some (.cells cur 5 (0, 0)) ∧ cur.size = cap ∧ cap ≤ maxLen) ∧ w'.os = w.os ∧ w'.tape = w.tape ∧ w'.output = w.output ∧ w.heap.size ≤ w'.heap.size ∧ ∀ k, k < w.heap.size → k ≠ b → w'.heap[k]? = w.heap[k]? := by
  have mixed := mixed
  have e1 : ∀ args w, (callFunc 81 args).run Tryd.prog w = .ok (.enter 81 args) w := enters_of Tryd.func81 (by kernel_rfl) rfl
  have e2 : ∀ args w, (callFunc 82 args).run Tryd.prog w = .ok (.enter 82 args) w := enters_of Tryd.func82 (by kernel_rfl) rfl
  go_enter Tryd.func68, Tryd.ntmps68
  go_wp2_with (go_at_fn 81; refine (copy b w p _ hb hp).mono ?_)
  rintro e w1 ⟨rfl, hbk, hs1⟩
  have c1 : w1.drew.cell? ⟨b, 1, none⟩ = some (.slice ao 0 c) := by
    have : w1.drew.heap[b]? = _ := hbk
    rw [Lib.cell_of_heap this]; rfl
  have hsz := hs1.size
  have hn0 : ¬ ((n : Int) < 0) := by omega
  go_wp2
  go_region_o
  have hwc : wrap64 (c : Int) = (c : Int) := by
    unfold maxLen at hc
    unfold wrap64
    omega
  all_goals by_cases hcn : (c : Int) < (n : Int)
  · simp only [hwc, hcn, decide_true]
    go_wp2_with (go_at_fn 82; refine (grow0 b c n ao w1.drew hbk (by omega)).mono ?_)
    rintro e w2 ⟨rfl, g, cap, cur, i1, i2, i3, i4, i5, i6, i7, i8, i9, i10⟩
    go_wp2
    go_end0
    refine ⟨rfl, _, i1, .inr ⟨g, cap, cur, rfl, ?_, i3, i4, i5⟩, i6.trans hs1.os, i7.trans hs1.tape, i8.trans hs1.output, ?_, fun k hk hkb => (i10 k ?_ hkb).trans (hs1.block k hkb)⟩
    · have : w1.drew.heap.size = w1.heap.size := rfl
      omega
    · have : w1.drew.heap.size = w1.heap.size := rfl
      omega
    · have : w1.drew.heap.size = w1.heap.size := rfl
      omega
  · simp only [hwc, hcn, decide_false]
    go_wp2
    go_end0
    exact ⟨rfl, _, hbk, .inl rfl, hs1.os, hs1.tape, hs1.output, Nat.le_of_eq hsz.symm, fun k hk hkb => hs1.block k hkb⟩
theorem growOK : GrowOK Tryd.prog 68 80 5 := fun b c n ao w p hb hp hn hc => grow1 b c n ao w p hb hp hn hc
end Go.Own.Bld
