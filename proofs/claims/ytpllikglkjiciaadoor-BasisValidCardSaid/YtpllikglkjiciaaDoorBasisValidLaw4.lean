/- What the functions that the law reaches answer. No conditions. -/
import Derived.Shelf.SlicesE.Clone
import Derived.Lib.JoinLaws
import Derived.Test.YtpllikglkjiciaaDoorProg
import Derived.Test.YtpllikglkjiciaaDoorOwn23
import Derived.Test.YtpllikglkjiciaaDoorOwn28
set_option linter.all false

namespace Go.Own.Clo8
open Go.Proofs Go.Lib Go.RowKit Go.Shelf
theorem infoE : (Tryd.prog.info? 31).map (fun i => (i.size, i.bytes)) = some (2, 8) := by kernel_rfl
theorem zeroE : ((Tryd.prog.info? 31).bind (·.zero)).map (fun z => Nat.beq z.cells.size 2 && z.cells.toList.all Value.oneCell') = some true := by kernel_rfl
set_option maxHeartbeats 2000000 in
set_option maxRecDepth 100000 in
theorem empty (a : Addr) (c : Nat) (w : World) : Calls Tryd.prog 8 #[.slice (some a) 0 c] w fun e w' => e = .returned (.slice (some ⟨w.heap.size, 0, none⟩) 0 0) ∧ w'.heap[w.heap.size]? = some (.cells #[] 31 (0, 0)) ∧ Below w.heap.size w w' := by
  have q22 : ∀ (w : World) (a : Option Addr) (n c n' c' : Nat), (binOp .eql 22 (.slice a n c) (.slice none n' c')).run Tryd.prog w = .ok (.bool a.isNone) w := fun w a n c n' c' => Lib.run_eql_slice_nil w _ _ a n c n' c' Tryd.underlying22
  obtain ⟨i, hi, h2⟩ := Option.map_eq_some_iff.1 infoE
  go_enter Tryd.func8, Tryd.ntmps8
  go_wp2_with (at_builtin; refine wpList_append_room_src _ rfl _ _ 22 22 rfl 31 i Tryd.underlying22 hi w.heap.size 0 0 0 rfl _ rfl 0 [] ?src (Nat.le_refl _) (by intro j hj; simp at hj) (by intro j hj; simp at hj) ?_)
  case src => exact Src.ofSlice _ Tryd.underlying22 a 0 c [] (by simp) (by intro j u hj; simp at hj) (by intro u hu; cases hu)
  go_ret
  refine ⟨rfl, ?_, (Below.refl _ w).alloc (Nat.le_refl _) _⟩
  show (w.heap.push (Obj.cells #[] 31))[w.heap.size]? = _
  rw [Array.getElem?_push_size]
set_option maxHeartbeats 2000000 in
set_option maxRecDepth 100000 in
theorem copied (i : TypeInfo) (z : Value) (hi : Tryd.prog.info? 31 = some i) (hs : i.size = 2) (hb : i.bytes = 8) (hz : i.zero = some z) (b off n c : Nat) (news : List Value) (w : World) (hl : news.length = n * 2) (h0 : 0 < n) (hn : n ≤ maxLen) (hbig : n * 8 ≤ 140737488355328)
    (hc : ∀ j u, news[j]? = some u → w.cell? ⟨b, off + j, none⟩ = some u) :
    Calls Tryd.prog 8 #[.slice (some ⟨b, off, none⟩) n c] w fun q w' => ∃ g cap, q = .returned (.slice (some ⟨g, 0, none⟩) n cap) ∧ w.heap.size ≤ g ∧ n ≤ cap ∧ cap ≤ maxLen ∧ w'.heap[g]? = some (.cells (news.toArray ++ Builtin.zeroCells z.cells (cap - n)) 31 (0, 0)) ∧ Below w.heap.size w w' := by
  have q22 : ∀ (w : World) (a : Option Addr) (n c n' c' : Nat), (binOp .eql 22 (.slice a n c) (.slice none n' c')).run Tryd.prog w = .ok (.bool a.isNone) w := fun w a n c n' c' => Lib.run_eql_slice_nil w _ _ a n c n' c' Tryd.underlying22
  have A : Aside (∀ j u, news[j]? = some u → w.cell? ⟨b, off + j, none⟩ = some u) := hc
  clear hc
  obtain ⟨zc, hzc⟩ : ∃ zc : Nat → Array Value, ∀ m, Builtin.zeroCells z.cells m = zc m := ⟨_, fun _ => rfl⟩
  go_enter Tryd.func8, Tryd.ntmps8
  go_wp2_with (at_builtin; refine wpList_clone rfl _ _ 22 31 rfl i z Tryd.underlying22 hi hz (some ⟨w.heap.size, 0, none⟩) rfl _ rfl n news ?gives h0 hn ?fit zc hzc ?_)
  case gives => rw [hs]; exact gives_slice hl fun j u hj => Lib.cell?_alloc_some _ (A.out j u hj)
  case fit => rw [hb]; exact hbig
  intro cap h1 h2
  go_wp2
  go_ret
  refine ⟨_, cap, rfl, Nat.le_succ _, h1, h2, ?_, ?_⟩
  · rw [hzc]
    show ((w.heap.push (Obj.cells #[] 31)).push _)[w.heap.size + 1]? = _
    rw [show w.heap.size + 1 = (w.heap.push (Obj.cells #[] 31)).size from (Array.size_push ..).symm, Array.getElem?_push_size]
  · refine ⟨rfl, rfl, rfl, ?_, fun k hk => ?_⟩
    · show w.heap.size ≤ ((w.heap.push (Obj.cells #[] 31)).push _).size
      rw [Array.size_push, Array.size_push]; exact Nat.le_trans (Nat.le_succ _) (Nat.le_succ _)
    · show ((w.heap.push (Obj.cells #[] 31)).push _)[k]? = _
      rw [Array.getElem?_push, if_neg (by rw [Array.size_push]; omega), Array.getElem?_push, if_neg (by omega)]
set_option maxHeartbeats 2000000 in
set_option maxRecDepth 100000 in
theorem none_ (n c:Nat) (w:World):Calls Tryd.prog 8 #[.slice none n c] w fun e w'=>e=.returned (.slice none 0 0)/\w'=w:=by
 have q22 : ∀ (w : World) (a : Option Addr) (n c n' c' : Nat), (binOp .eql 22 (.slice a n c) (.slice none n' c')).run Tryd.prog w = .ok (.bool a.isNone) w := fun w a n c n' c' => Lib.run_eql_slice_nil w _ _ a n c n' c' Tryd.underlying22
 go_enter Tryd.func8, Tryd.ntmps8
 go_wp2
 go_ret
 exact ⟨rfl,rfl⟩
theorem ok : ∃ z, CloneOK Tryd.prog 8 31 2 8 z := by
  obtain ⟨i, hi, h2⟩ := Option.map_eq_some_iff.1 infoE
  simp only [Prod.mk.injEq] at h2
  have hz := zeroE
  rw [hi] at hz
  obtain ⟨z, hz, hz2⟩ := Option.map_eq_some_iff.1 hz
  rw [Bool.and_eq_true] at hz2
  exact ⟨z, fun b off n c news w hl h0 hn hb hc => copied i z hi h2.1 h2.2 hz b off n c news w hl h0 hn hb hc, fun n c w => none_ n c w, fun a c w => empty a c w, Nat.eq_of_beq_eq_true hz2.1, fun u hu => List.all_eq_true.1 hz2.2 u hu, by decide⟩
end Go.Own.Clo8

namespace Go.Own.Clo9
open Go.Proofs Go.Lib Go.RowKit Go.Shelf
theorem infoE : (Tryd.prog.info? 33).map (fun i => (i.size, i.bytes)) = some (2, 8) := by kernel_rfl
theorem zeroE : ((Tryd.prog.info? 33).bind (·.zero)).map (fun z => Nat.beq z.cells.size 2 && z.cells.toList.all Value.oneCell') = some true := by kernel_rfl
set_option maxHeartbeats 2000000 in
set_option maxRecDepth 100000 in
theorem empty (a : Addr) (c : Nat) (w : World) : Calls Tryd.prog 9 #[.slice (some a) 0 c] w fun e w' => e = .returned (.slice (some ⟨w.heap.size, 0, none⟩) 0 0) ∧ w'.heap[w.heap.size]? = some (.cells #[] 33 (0, 0)) ∧ Below w.heap.size w w' := by
  have q22 : ∀ (w : World) (a : Option Addr) (n c n' c' : Nat), (binOp .eql 23 (.slice a n c) (.slice none n' c')).run Tryd.prog w = .ok (.bool a.isNone) w := fun w a n c n' c' => Lib.run_eql_slice_nil w _ _ a n c n' c' Tryd.underlying23
  obtain ⟨i, hi, h2⟩ := Option.map_eq_some_iff.1 infoE
  go_enter Tryd.func9, Tryd.ntmps9
  go_wp2_with (at_builtin; refine wpList_append_room_src _ rfl _ _ 23 23 rfl 33 i Tryd.underlying23 hi w.heap.size 0 0 0 rfl _ rfl 0 [] ?src (Nat.le_refl _) (by intro j hj; simp at hj) (by intro j hj; simp at hj) ?_)
  case src => exact Src.ofSlice _ Tryd.underlying23 a 0 c [] (by simp) (by intro j u hj; simp at hj) (by intro u hu; cases hu)
  go_ret
  refine ⟨rfl, ?_, (Below.refl _ w).alloc (Nat.le_refl _) _⟩
  show (w.heap.push (Obj.cells #[] 33))[w.heap.size]? = _
  rw [Array.getElem?_push_size]
set_option maxHeartbeats 2000000 in
set_option maxRecDepth 100000 in
theorem copied (i : TypeInfo) (z : Value) (hi : Tryd.prog.info? 33 = some i) (hs : i.size = 2) (hb : i.bytes = 8) (hz : i.zero = some z) (b off n c : Nat) (news : List Value) (w : World) (hl : news.length = n * 2) (h0 : 0 < n) (hn : n ≤ maxLen) (hbig : n * 8 ≤ 140737488355328)
    (hc : ∀ j u, news[j]? = some u → w.cell? ⟨b, off + j, none⟩ = some u) :
    Calls Tryd.prog 9 #[.slice (some ⟨b, off, none⟩) n c] w fun q w' => ∃ g cap, q = .returned (.slice (some ⟨g, 0, none⟩) n cap) ∧ w.heap.size ≤ g ∧ n ≤ cap ∧ cap ≤ maxLen ∧ w'.heap[g]? = some (.cells (news.toArray ++ Builtin.zeroCells z.cells (cap - n)) 33 (0, 0)) ∧ Below w.heap.size w w' := by
  have q22 : ∀ (w : World) (a : Option Addr) (n c n' c' : Nat), (binOp .eql 23 (.slice a n c) (.slice none n' c')).run Tryd.prog w = .ok (.bool a.isNone) w := fun w a n c n' c' => Lib.run_eql_slice_nil w _ _ a n c n' c' Tryd.underlying23
  have A : Aside (∀ j u, news[j]? = some u → w.cell? ⟨b, off + j, none⟩ = some u) := hc
  clear hc
  obtain ⟨zc, hzc⟩ : ∃ zc : Nat → Array Value, ∀ m, Builtin.zeroCells z.cells m = zc m := ⟨_, fun _ => rfl⟩
  go_enter Tryd.func9, Tryd.ntmps9
  go_wp2_with (at_builtin; refine wpList_clone rfl _ _ 23 33 rfl i z Tryd.underlying23 hi hz (some ⟨w.heap.size, 0, none⟩) rfl _ rfl n news ?gives h0 hn ?fit zc hzc ?_)
  case gives => rw [hs]; exact gives_slice hl fun j u hj => Lib.cell?_alloc_some _ (A.out j u hj)
  case fit => rw [hb]; exact hbig
  intro cap h1 h2
  go_wp2
  go_ret
  refine ⟨_, cap, rfl, Nat.le_succ _, h1, h2, ?_, ?_⟩
  · rw [hzc]
    show ((w.heap.push (Obj.cells #[] 33)).push _)[w.heap.size + 1]? = _
    rw [show w.heap.size + 1 = (w.heap.push (Obj.cells #[] 33)).size from (Array.size_push ..).symm, Array.getElem?_push_size]
  · refine ⟨rfl, rfl, rfl, ?_, fun k hk => ?_⟩
    · show w.heap.size ≤ ((w.heap.push (Obj.cells #[] 33)).push _).size
      rw [Array.size_push, Array.size_push]; exact Nat.le_trans (Nat.le_succ _) (Nat.le_succ _)
    · show ((w.heap.push (Obj.cells #[] 33)).push _)[k]? = _
      rw [Array.getElem?_push, if_neg (by rw [Array.size_push]; omega), Array.getElem?_push, if_neg (by omega)]
set_option maxHeartbeats 2000000 in
set_option maxRecDepth 100000 in
theorem none_ (n c:Nat) (w:World):Calls Tryd.prog 9 #[.slice none n c] w fun e w'=>e=.returned (.slice none 0 0)/\w'=w:=by
 have q22 : ∀ (w : World) (a : Option Addr) (n c n' c' : Nat), (binOp .eql 23 (.slice a n c) (.slice none n' c')).run Tryd.prog w = .ok (.bool a.isNone) w := fun w a n c n' c' => Lib.run_eql_slice_nil w _ _ a n c n' c' Tryd.underlying23
 go_enter Tryd.func9, Tryd.ntmps9
 go_wp2
 go_ret
 exact ⟨rfl,rfl⟩
theorem ok : ∃ z, CloneOK Tryd.prog 9 33 2 8 z := by
  obtain ⟨i, hi, h2⟩ := Option.map_eq_some_iff.1 infoE
  simp only [Prod.mk.injEq] at h2
  have hz := zeroE
  rw [hi] at hz
  obtain ⟨z, hz, hz2⟩ := Option.map_eq_some_iff.1 hz
  rw [Bool.and_eq_true] at hz2
  exact ⟨z, fun b off n c news w hl h0 hn hb hc => copied i z hi h2.1 h2.2 hz b off n c news w hl h0 hn hb hc, fun n c w => none_ n c w, fun a c w => empty a c w, Nat.eq_of_beq_eq_true hz2.1, fun u hu => List.all_eq_true.1 hz2.2 u hu, by decide⟩
end Go.Own.Clo9

namespace Go.Own.Clo40
open Go.Proofs Go.Lib Go.RowKit Go.Shelf
theorem infoE : (Tryd.prog.info? 29).map (fun i => (i.size, i.bytes)) = some (1, 4) := by kernel_rfl
theorem zeroE : ((Tryd.prog.info? 29).bind (·.zero)).map (fun z => Nat.beq z.cells.size 1 && z.cells.toList.all Value.oneCell') = some true := by kernel_rfl
set_option maxHeartbeats 2000000 in
set_option maxRecDepth 100000 in
theorem empty (a : Addr) (c : Nat) (w : World) : Calls Tryd.prog 40 #[.slice (some a) 0 c] w fun e w' => e = .returned (.slice (some ⟨w.heap.size, 0, none⟩) 0 0) ∧ w'.heap[w.heap.size]? = some (.cells #[] 29 (0, 0)) ∧ Below w.heap.size w w' := by
  have q22 : ∀ (w : World) (a : Option Addr) (n c n' c' : Nat), (binOp .eql 44 (.slice a n c) (.slice none n' c')).run Tryd.prog w = .ok (.bool a.isNone) w := fun w a n c n' c' => Lib.run_eql_slice_nil w _ _ a n c n' c' Tryd.underlying44
  obtain ⟨i, hi, h2⟩ := Option.map_eq_some_iff.1 infoE
  go_enter Tryd.func40, Tryd.ntmps40
  go_wp2_with (at_builtin; refine wpList_append_room_src _ rfl _ _ 44 44 rfl 29 i Tryd.underlying44 hi w.heap.size 0 0 0 rfl _ rfl 0 [] ?src (Nat.le_refl _) (by intro j hj; simp at hj) (by intro j hj; simp at hj) ?_)
  case src => exact Src.ofSlice _ Tryd.underlying44 a 0 c [] (by simp) (by intro j u hj; simp at hj) (by intro u hu; cases hu)
  go_ret
  refine ⟨rfl, ?_, (Below.refl _ w).alloc (Nat.le_refl _) _⟩
  show (w.heap.push (Obj.cells #[] 29))[w.heap.size]? = _
  rw [Array.getElem?_push_size]
set_option maxHeartbeats 2000000 in
set_option maxRecDepth 100000 in
theorem copied (i : TypeInfo) (z : Value) (hi : Tryd.prog.info? 29 = some i) (hs : i.size = 1) (hb : i.bytes = 4) (hz : i.zero = some z) (b off n c : Nat) (news : List Value) (w : World) (hl : news.length = n * 1) (h0 : 0 < n) (hn : n ≤ maxLen) (hbig : n * 4 ≤ 140737488355328)
    (hc : ∀ j u, news[j]? = some u → w.cell? ⟨b, off + j, none⟩ = some u) :
    Calls Tryd.prog 40 #[.slice (some ⟨b, off, none⟩) n c] w fun q w' => ∃ g cap, q = .returned (.slice (some ⟨g, 0, none⟩) n cap) ∧ w.heap.size ≤ g ∧ n ≤ cap ∧ cap ≤ maxLen ∧ w'.heap[g]? = some (.cells (news.toArray ++ Builtin.zeroCells z.cells (cap - n)) 29 (0, 0)) ∧ Below w.heap.size w w' := by
  have q22 : ∀ (w : World) (a : Option Addr) (n c n' c' : Nat), (binOp .eql 44 (.slice a n c) (.slice none n' c')).run Tryd.prog w = .ok (.bool a.isNone) w := fun w a n c n' c' => Lib.run_eql_slice_nil w _ _ a n c n' c' Tryd.underlying44
  have A : Aside (∀ j u, news[j]? = some u → w.cell? ⟨b, off + j, none⟩ = some u) := hc
  clear hc
  obtain ⟨zc, hzc⟩ : ∃ zc : Nat → Array Value, ∀ m, Builtin.zeroCells z.cells m = zc m := ⟨_, fun _ => rfl⟩
  go_enter Tryd.func40, Tryd.ntmps40
  go_wp2_with (at_builtin; refine wpList_clone rfl _ _ 44 29 rfl i z Tryd.underlying44 hi hz (some ⟨w.heap.size, 0, none⟩) rfl _ rfl n news ?gives h0 hn ?fit zc hzc ?_)
  case gives => rw [hs]; exact gives_slice hl fun j u hj => Lib.cell?_alloc_some _ (A.out j u hj)
  case fit => rw [hb]; exact hbig
  intro cap h1 h2
  go_wp2
  go_ret
  refine ⟨_, cap, rfl, Nat.le_succ _, h1, h2, ?_, ?_⟩
  · rw [hzc]
    show ((w.heap.push (Obj.cells #[] 29)).push _)[w.heap.size + 1]? = _
    rw [show w.heap.size + 1 = (w.heap.push (Obj.cells #[] 29)).size from (Array.size_push ..).symm, Array.getElem?_push_size]
  · refine ⟨rfl, rfl, rfl, ?_, fun k hk => ?_⟩
    · show w.heap.size ≤ ((w.heap.push (Obj.cells #[] 29)).push _).size
      rw [Array.size_push, Array.size_push]; exact Nat.le_trans (Nat.le_succ _) (Nat.le_succ _)
    · show ((w.heap.push (Obj.cells #[] 29)).push _)[k]? = _
      rw [Array.getElem?_push, if_neg (by rw [Array.size_push]; omega), Array.getElem?_push, if_neg (by omega)]
set_option maxHeartbeats 2000000 in
set_option maxRecDepth 100000 in
theorem none_ (n c:Nat) (w:World):Calls Tryd.prog 40 #[.slice none n c] w fun e w'=>e=.returned (.slice none 0 0)/\w'=w:=by
 have q22 : ∀ (w : World) (a : Option Addr) (n c n' c' : Nat), (binOp .eql 44 (.slice a n c) (.slice none n' c')).run Tryd.prog w = .ok (.bool a.isNone) w := fun w a n c n' c' => Lib.run_eql_slice_nil w _ _ a n c n' c' Tryd.underlying44
 go_enter Tryd.func40, Tryd.ntmps40
 go_wp2
 go_ret
 exact ⟨rfl,rfl⟩
theorem ok : ∃ z, CloneOK Tryd.prog 40 29 1 4 z := by
  obtain ⟨i, hi, h2⟩ := Option.map_eq_some_iff.1 infoE
  simp only [Prod.mk.injEq] at h2
  have hz := zeroE
  rw [hi] at hz
  obtain ⟨z, hz, hz2⟩ := Option.map_eq_some_iff.1 hz
  rw [Bool.and_eq_true] at hz2
  exact ⟨z, fun b off n c news w hl h0 hn hb hc => copied i z hi h2.1 h2.2 hz b off n c news w hl h0 hn hb hc, fun n c w => none_ n c w, fun a c w => empty a c w, Nat.eq_of_beq_eq_true hz2.1, fun u hu => List.all_eq_true.1 hz2.2 u hu, by decide⟩
end Go.Own.Clo40
