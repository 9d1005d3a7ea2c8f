/- An interpreter of function bodies without memory, proved sound for the model. No conditions. -/
import Derived.Laws.IdiomCopy
import Derived.Lib.MakeNoZero
import Derived.Test.YtdlkdimkhmpkkaaDoorOwn29
set_option linter.all false

namespace Go.Own
open D Go.Lib
theorem fnok_ext2 {E : Env} {f : Nat} {u1 u2 : Value} {n : Int} (hm0 : E.mode f 0 ≠ .inout) (hm1 : E.mode f 1 ≠ .inout) (hrun : ∀ w, (callFunc f #[u1, u2]).run E.P w = .ok (.value (.int .i64 n)) w) : FnOK E f [.lit u1, .lit u2] (.lit (.int .i64 n)) [] := by
  intro M w ts hts htg hln hblk hmem hgd
  rcases ts with _ | ⟨t1, _ | ⟨t2, _ | ⟨t3, rs⟩⟩⟩
  case nil => simp at hts
  case cons.nil => simp at hts
  case cons.cons.cons => simp at hts
  · simp only [List.map_cons, List.map_nil, List.cons.injEq, and_true] at hts
    obtain rfl := erase_lit (htg t1 (by simp)).2 hts.1
    obtain rfl := erase_lit (htg t2 (by simp)).2 hts.2
    have hlents : lentsT E f 0 [T.leaf (.lit u1) u1, T.leaf (.lit u2) u2] = [] := by simp [lentsT, hm0, hm1]
    rw [hlents]
    unfold Does
    rw [show (T.vals [T.leaf (.lit u1) u1, T.leaf (.lit u2) u2]).toArray = #[u1, u2] from rfl, hrun]
    refine ⟨M, .leaf (.lit (.int .i64 n)) (.int .i64 n), [], rfl, rfl, trivial, ⟨rfl, rfl⟩, rfl, by simp, rfl, ?_, hmem, ?_⟩
    · exact BlkOK.nil _ _
    · exact Evo.refl' _ _ (by simp [T.blocks, T.blocksC, keys])
theorem fnok_indexByte {E : Env} {f : Nat} (hm0 : E.mode f 0 ≠ .inout) (hm1 : E.mode f 1 ≠ .inout) (hrun : ∀ s c w, (callFunc f #[.string s, .int .u8 c]).run E.P w = .ok (.value (.int .i64 (byteIx s c))) w) {ds : List D} {r : D} {outs : List D} (h : primIndexByte ds = some (r, outs)) : FnOK E f ds r outs := by
  unfold primIndexByte at h
  split at h
  · simp only [Option.some.injEq, Prod.mk.injEq] at h
    obtain ⟨rfl, rfl⟩ := h
    exact fnok_ext2 hm0 hm1 (hrun _ _)
  · cases h
theorem fnok_countByte {E : Env} {f : Nat} (hm0 : E.mode f 0 ≠ .inout) (hm1 : E.mode f 1 ≠ .inout) (hrun : ∀ s c w, (callFunc f #[.string s, .int .u8 c]).run E.P w = .ok (.value (.int .i64 (byteCnt s c))) w) {ds : List D} {r : D} {outs : List D} (h : primCountByte ds = some (r, outs)) : FnOK E f ds r outs := by
  unfold primCountByte at h
  split at h
  · simp only [Option.some.injEq, Prod.mk.injEq] at h
    obtain ⟨rfl, rfl⟩ := h
    exact fnok_ext2 hm0 hm1 (hrun _ _)
  · cases h
def GrowOK (P : Program) (f t e : Nat) : Prop := ∀ (b c n : Nat) (ao : Option Addr) (w : World) (p : Value), w.heap[b]? = some (.cells #[p, .slice ao 0 c] t (0, 0)) → (p = .pointer none ∨ p = .pointer (some ⟨b, 0, none⟩)) → n ≤ 70368744177664 → c ≤ maxLen →
  Calls P f #[.pointer (some ⟨b, 0, none⟩), .int .i64 n] w fun en w' => en = .returned (.tuple #[]) ∧ ∃ v', w'.heap[b]? = some (.cells #[.pointer (some ⟨b, 0, none⟩), v'] t (0, 0)) ∧
      (v' = .slice ao 0 c ∨ ∃ g cap cur, v' = .slice (some ⟨g, 0, none⟩) 0 cap ∧ w.heap.size ≤ g ∧ w'.heap[g]? = some (.cells cur e (0, 0)) ∧ cur.size = cap ∧ cap ≤ maxLen) ∧ w'.os = w.os ∧ w'.tape = w.tape ∧ w'.output = w.output ∧ w.heap.size ≤ w'.heap.size ∧ ∀ k, k < w.heap.size → k ≠ b → w'.heap[k]? = w.heap[k]?
theorem fnok_grow {E : Env} {f t e : Nat} (hm0 : E.mode f 0 = .inout) (hm1 : E.mode f 1 ≠ .inout) (hrun : ∀ args w, (callFunc f args).run E.P w = .ok (.enter f args) w) (hw : GrowOK E.P f t e) {ds : List D} {r : D} {outs : List D} (h : primGrow t e ds = some (r, outs)) :
    FnOK E f ds r outs := by
  unfold primGrow at h
  split at h
  · rename_i t' e' n
    split at h
    · rename_i hc
      obtain ⟨rfl, rfl, hn0, hn1⟩ := hc
      simp only [Option.some.injEq, Prod.mk.injEq] at h
      obtain ⟨rfl, rfl⟩ := h
      intro M w ts hts htg hln hblk hmem hgd
      rcases ts with _ | ⟨t1, _ | ⟨t2, _ | ⟨t3, rs⟩⟩⟩
      case nil => simp at hts
      case cons.nil => simp at hts
      case cons.cons.cons => simp at hts
      · simp only [List.map_cons, List.map_nil, List.cons.injEq, and_true] at hts
        obtain ⟨v, bs, rfl⟩ := erase_bld (htg t1 (by simp)).1 hts.1
        obtain rfl := erase_lit (htg t2 (by simp)).2 hts.2
        have hb : T.BldOK v bs t' e' [] := (htg (T.bld v bs t' e' []) List.mem_cons_self).2
        simp only [T.blocksC, T.blocks, List.append_nil] at hblk ⊢
        obtain ⟨g, p, hd, rfl, hp, hg, hown, hne, hkeys⟩ := bld_parts hb hblk
        obtain ⟨m, rfl⟩ : ∃ m : Nat, n = m := ⟨n.toNat, by omega⟩
        have hlents : lentsT E f 0 [T.bld (.pointer (some ⟨g, 0, none⟩)) bs t' e' [], T.leaf (.lit (.int .i64 (m : Int))) (.int .i64 (m : Int))] = [T.bld (.pointer (some ⟨g, 0, none⟩)) bs t' e' []] := by simp [lentsT, hm0, hm1]
        rw [hlents]
        unfold Does
        rw [hrun]
        have hlt : g < w.heap.size := (Array.getElem?_eq_some_iff.1 hg).1
        have hMg : M g = none := hblk_apart hblk ((hkeys g).2 (.inl rfl))
        obtain ⟨ao, c, rfl, hrow⟩ : ∃ ao c, hd = .slice ao 0 c ∧ ((ao = none ∧ c = 0) ∨ ∃ k cur, ao = some ⟨k, 0, none⟩ ∧ w.heap[k]? = some (.cells cur e' (0, 0)) ∧ cur.size = c ∧ c ≤ maxLen) := by
          rcases hown.2 with ⟨rfl, _⟩ | ⟨k, cap, cur, rfl, _, hk, hnc, hcm, hcs, htake⟩
          · exact ⟨none, 0, rfl, .inl ⟨rfl, rfl⟩⟩
          · exact ⟨_, cap, rfl, .inr ⟨k, cur, rfl, hk, by simpa using hcs, hcm⟩⟩
        refine (hw g c m ao w p hg hp (by omega) (by rcases hrow with ⟨_, rfl⟩ | ⟨_, _, _, _, _, h⟩; exact Nat.zero_le _; exact h)).mono ?_
        rintro en w' ⟨rfl, v', hg', hv', ho, htp, hout, hsz, hrest⟩
        have hmem' : MemOK M w' := fun k o hk => by
          have hk1 := hmem k o hk
          rw [hrest k (hmem.lt hk) (fun e => by rw [e, hMg] at hk; cases hk)]
          exact hk1
        have build : ∀ bs' : List (Nat × Obj), T.BldOK (.pointer (some ⟨g, 0, none⟩)) bs' t' e' [] → BlkOK M w' bs' → (∀ k ∈ keys bs', k ∈ keys bs ∨ w.heap.size ≤ k) →
            ∃ M' tr touts, Ending.returned (.tuple #[]) = .returned (T.val tr) ∧ tr.erase = D.tup [] ∧ tr.tidy ∧ ResOK M' tr ∧ touts.map T.erase = [D.bld t' e' []] ∧ (∀ o ∈ touts, o.tidy ∧ T.wf M' o) ∧
              T.vals touts = T.vals [T.bld (.pointer (some ⟨g, 0, none⟩)) bs t' e' []] ∧ BlkOK M' w' (tr.blocks ++ T.blocksC touts) ∧ MemOK M' w' ∧ Evo M (keys bs) w M' (keys (tr.blocks ++ T.blocksC touts)) w' := by
          intro bs' h1 h2 h3
          refine ⟨M, .tup [], [.bld (.pointer (some ⟨g, 0, none⟩)) bs' t' e' []], rfl, rfl, trivial, ?_, rfl, ?_, rfl, ?_, hmem', ?_⟩
          · intro c hc; cases hc
          · intro o ho
            obtain rfl := List.mem_singleton.1 ho
            exact ⟨trivial, h1⟩
          · simpa [T.blocks, T.blocksC] using h2
          · have hkk : keys ((T.tup []).blocks ++ T.blocksC [T.bld (.pointer (some ⟨g, 0, none⟩)) bs' t' e' []]) = keys bs' := by simp [T.blocks, T.blocksC]
            rw [hkk]
            refine ⟨ho, htp, hout, hsz, fun k hk hnk => ?_, Mem.le_refl M, fun _ _ h => .inl h, fun k hk => h3 k hk⟩
            exact hrest k hk (fun e => hnk ((hkeys k).2 (.inl e)))
        have one : ∀ (k : Nat) (cur : Array Value) (cap : Nat), k ≠ g → M k = none → w'.heap[g]? = some (.cells #[.pointer (some ⟨g, 0, none⟩), .slice (some ⟨k, 0, none⟩) 0 cap] t' (0, 0)) → w'.heap[k]? = some (.cells cur e' (0, 0)) → cur.size = cap → cap ≤ maxLen → (k ∈ keys bs ∨ w.heap.size ≤ k) →
            ∃ M' tr touts, Ending.returned (.tuple #[]) = .returned (T.val tr) ∧ tr.erase = D.tup [] ∧ tr.tidy ∧ ResOK M' tr ∧ touts.map T.erase = [D.bld t' e' []] ∧ (∀ o ∈ touts, o.tidy ∧ T.wf M' o) ∧
              T.vals touts = T.vals [T.bld (.pointer (some ⟨g, 0, none⟩)) bs t' e' []] ∧ BlkOK M' w' (tr.blocks ++ T.blocksC touts) ∧ MemOK M' w' ∧ Evo M (keys bs) w M' (keys (tr.blocks ++ T.blocksC touts)) w' := by
          intro k cur cap hkg hMk hg2 hk2 hcs hcm hkey
          refine build [(g, .cells #[.pointer (some ⟨g, 0, none⟩), .slice (some ⟨k, 0, none⟩) ([] : List UInt8).length cap] t' (0, 0)), (k, .cells cur e' (0, 0))]
            ⟨g, _, rfl, .inr rfl, .inr ⟨k, cap, cur, rfl, Nat.zero_le _, hcm, by omega, by simp⟩⟩ ⟨by simpa using fun e => hkg e.symm, ?_, ?_⟩ ?_
          · intro x hx
            simp only [List.mem_cons, List.not_mem_nil, or_false] at hx
            rcases hx with rfl | rfl
            · exact hg2
            · exact hk2
          · intro x hx
            simp only [List.mem_cons, List.not_mem_nil, or_false] at hx
            rcases hx with rfl | rfl
            · exact hMg
            · exact hMk
          · intro x hx
            simp only [keys, List.map_cons, List.map_nil, List.mem_cons, List.not_mem_nil, or_false] at hx
            rcases hx with rfl | rfl
            · exact .inl ((hkeys x).2 (.inl rfl))
            · exact hkey
        rcases hv' with rfl | ⟨k, cap, cur, rfl, hk1, hk2, hk3, hk4⟩
        · rcases hrow with ⟨rfl, rfl⟩ | ⟨k, cur, rfl, hk, hcs, hcm⟩
          · refine build [(g, .cells #[.pointer (some ⟨g, 0, none⟩), .slice none 0 0] t' (0, 0))] ⟨g, _, rfl, .inr rfl, .inl ⟨rfl, rfl⟩⟩ ⟨by simp, ?_, ?_⟩ ?_
            · intro x hx; obtain rfl := List.mem_singleton.1 hx; exact hg'
            · intro x hx; obtain rfl := List.mem_singleton.1 hx; exact hMg
            · intro x hx
              simp only [keys, List.map_cons, List.map_nil, List.mem_singleton] at hx
              exact .inl ((hkeys x).2 (.inl hx))
          · have hkg : k ≠ g := fun e => hne (by rw [e]; rfl)
            have hkb : k ∈ keys bs := (hkeys k).2 (.inr rfl)
            exact one k cur c hkg (hblk_apart hblk hkb) hg' ((hrest k (Array.getElem?_eq_some_iff.1 hk).1 hkg).trans hk) hcs hcm (.inl hkb)
        · have hMk : M k = none := by
            cases hM : M k with
            | none => rfl
            | some o => have := hmem.lt hM; omega
          exact one k cur cap (by omega) hMk hg' hk2 hk3 hk4 (.inr hk1)
    · cases h
  · cases h
end Go.Own
