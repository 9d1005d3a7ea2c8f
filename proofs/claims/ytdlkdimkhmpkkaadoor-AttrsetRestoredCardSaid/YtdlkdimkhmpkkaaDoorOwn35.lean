/- An interpreter of function bodies without memory, proved sound for the model. No conditions. -/
import Derived.Lib.Strings
import GoSem.ClaimJoined
import Derived.Test.YtdlkdimkhmpkkaaDoorOwn27
import Derived.Test.YtdlkdimkhmpkkaaDoorOwn30
import Derived.Test.YtdlkdimkhmpkkaaDoorOwn34
set_option linter.all false

namespace Go.Own
open D Go.ChangeShapes Go.RowKit Go.WideShapes
mutual
def sb (N : Nat) : D → Prop
  | .lit (.string s) => s.size ≤ N
  | .sl es => sbLL N es
  | .agg ds => sbL N ds
  | _ => True
def sbL (N : Nat) : List D → Prop
  | [] => True
  | d :: r => sb N d ∧ sbL N r
def sbLL (N : Nat) : List (List D) → Prop
  | [] => True
  | x :: r => sbL N x ∧ sbLL N r
end
theorem sbL_append {N : Nat} : ∀ {a b : List D}, sbL N (a ++ b) ↔ sbL N a ∧ sbL N b
  | [], b => by simp [sbL]
  | d :: a, b => by simp only [List.cons_append, sbL]; rw [sbL_append]; exact and_assoc.symm
theorem sbL_flatten {N : Nat} : ∀ {ps : List (List D)}, (∀ x ∈ ps, sbL N x) → sbL N ps.flatten
  | [], _ => by simp [sbL]
  | d :: a, h => by rw [List.flatten_cons, sbL_append]; exact ⟨h d (by simp), sbL_flatten fun x hx => h x (by simp [hx])⟩
theorem sbLL_of {N : Nat} : ∀ {ps : List (List D)}, (∀ x ∈ ps, sbL N x) → sbLL N ps
  | [], _ => by simp [sbLL]
  | d :: a, h => by simp only [sbLL]; exact ⟨h d (by simp), sbLL_of fun x hx => h x (by simp [hx])⟩
theorem TyFs_and {N : Nat} {R : TypeId → List D → Prop} : ∀ {fs : List Field} {ds : List D}, TyFs (fun t ds => R t ds ∧ sbL N ds) fs ds → TyFs R fs ds ∧ sbL N ds
  | [], ds, h => by
    have : ds = [] := h
    subst this
    exact ⟨rfl, by simp [sbL]⟩
  | f :: fs, ds, h => by
    obtain ⟨a, b, rfl, h1, h2⟩ := h
    obtain ⟨h3, h4⟩ := TyFs_and h2
    exact ⟨⟨a, b, rfl, h1.1, h3⟩, sbL_append.2 ⟨h1.2, h4⟩⟩
theorem weights_all {H : Type} {P : Program} {e : TypeId} {d : DataW H} : ∀ {l : List (DataW H)}, d ∈ l → ∀ n ∈ d.weights P e, n ∈ DataW.weightsAll P e l
  | [], h => by cases h
  | x :: l, h => fun n hn => by
    rw [DataW.weightsAll]
    rcases List.mem_cons.1 h with rfl | h
    · exact List.mem_append_left _ hn
    · exact List.mem_append_right _ (weights_all h n hn)
theorem weights_each {H : Type} {P : Program} {t : TypeId} {d : DataW H} : ∀ {ts : List TypeId} {l : List (DataW H)} {i : Nat}, ts[i]? = some t → l[i]? = some d → ∀ n ∈ d.weights P t, n ∈ DataW.weightsEach P ts l
  | [], _, _, h, _ => by simp at h
  | _ :: _, [], _, _, h => by simp at h
  | u :: ts, x :: l, 0, h1, h2 => fun n hn => by
    simp only [List.getElem?_cons_zero, Option.some.injEq] at h1 h2
    subst h1; subst h2
    rw [DataW.weightsEach]; exact List.mem_append_left _ hn
  | u :: ts, x :: l, i + 1, h1, h2 => fun n hn => by
    rw [DataW.weightsEach]; exact List.mem_append_right _ (weights_each (by simpa using h1) (by simpa using h2) n hn)
theorem lift_trodR {H : Type} {enc : TypeId × Value → H} {P : Program} {w : World} {base : Nat} {sp : Nat → Bool} {held : Bool} {N : Nat} :
    ∀ (k fuel : Nat) (t : TypeId) (cs : List Value) (x : DataW H × List MemPlace), plainT P k t = true → DataW.trod enc P w base sp held fuel t cs = some x → (∀ n ∈ x.1.weights P t, n ≤ N) →
      ∃ ds, RCs (fun g => w.heap[g]?) ds cs ∧ Ty P k t ds ∧ sbL N ds
  | 0, _, _, _, _, h, _, _ => by simp [plainT] at h
  | k + 1, 0, t, cs, x, _, h, _ => by simp [DataW.trod] at h
  | k + 1, fuel + 1, t, cs, x, h, hd, hw => by
    unfold DataW.trod at hd
    cases hu : P.underlying t with
    | none => simp [plainT, hu] at h
    | some ty =>
      rw [hu] at hd
      simp only [Ty, hu]
      cases ty with
      | bool =>
        split at hd <;> first | cases hd; done | (rename_i he; cases he)
        exact ⟨[.lit _], ⟨_, [], rfl, ⟨rfl, rfl⟩, rfl⟩, ⟨_, rfl⟩, ⟨trivial, trivial⟩⟩
      | int q =>
        split at hd <;> first | cases hd; done | (rename_i he; cases he)
        split at hd
        · rename_i hq
          rw [hq.1]
          exact ⟨[.lit _], ⟨_, [], rfl, ⟨rfl, rfl⟩, rfl⟩, ⟨_, hq.2, rfl⟩, ⟨trivial, trivial⟩⟩
        · cases hd
      | string =>
        split at hd <;> first | cases hd; done | (rename_i he; cases he)
        split at hd
        · rename_i hq
          exact ⟨[.lit _], ⟨_, [], rfl, ⟨rfl, rfl⟩, rfl⟩, ⟨_, hq, rfl⟩, ⟨by cases hd; show ByteArray.size _ ≤ N; rw [Lib.size_eq]; exact hw _ (by simp [DataW.weights]), trivial⟩⟩
        · cases hd
      | slice e =>
        simp only [plainT, hu, Bool.and_eq_true, decide_eq_true_eq] at h
        split at hd <;> first | cases hd; done | (rename_i he; cases he)
        · exact ⟨[.sl []], ⟨_, [], rfl, ⟨none, 0, 0, rfl, rfl, Nat.le_refl _, Nat.zero_le _, .inl rfl⟩, rfl⟩, ⟨[], Nat.zero_le _, rfl, fun x hx => by cases hx⟩, ⟨by simp [sb, sbLL], trivial⟩⟩
        · rename_i a len cap
          simp only at hd
          split at hd
          · rename_i hb
            cases hm : (List.range len).mapM (fun i => (w.cells? base (a.add (i * P.cellsOf e)) (P.cellsOf e)).bind (DataW.trod enc P w base sp held fuel e)) with
            | none => rw [hm] at hd; cases hd
            | some ys =>
              have hl := mapM_some_length hm
              rw [List.length_range] at hl
              rw [hm, Option.bind_some] at hd
              obtain ⟨rest, _, hx⟩ := Option.map_eq_some_iff.1 hd
              subst hx
              simp only [DataW.weights, hu] at hw
              have hi : ∀ i, i < len → ∃ y vs, w.cells? base (a.add (i * P.cellsOf e)) (P.cellsOf e) = some vs ∧ DataW.trod enc P w base sp held fuel e vs = some y ∧ ys[i]? = some y := by
                intro i hi
                have := mapM_some_get hm i i (by simp [hi])
                rw [List.getElem?_eq_getElem (by omega)] at this
                obtain ⟨vs, h1, h2⟩ := Option.bind_eq_some_iff.1 this
                exact ⟨_, vs, h1, h2, List.getElem?_eq_getElem (by omega)⟩
              rcases Nat.eq_zero_or_pos len with h0 | h0
              · subst h0
                exact ⟨[.sl []], ⟨_, [], rfl, ⟨some a, 0, cap, rfl, rfl, hb.2.1, Nat.zero_le _, .inl rfl⟩, rfl⟩, ⟨[], Nat.zero_le _, rfl, fun x hx => by cases hx⟩, ⟨by simp [sb, sbLL], trivial⟩⟩
              · have hs : a.spot = none := by
                  obtain ⟨y, vs, h1, _⟩ := hi 0 h0
                  obtain ⟨m, hm⟩ : ∃ m, P.cellsOf e = m + 1 := ⟨P.cellsOf e - 1, by omega⟩
                  rw [Nat.zero_mul, hm] at h1
                  exact cells_spot h1
                obtain ⟨es, vs, k1, k2, k3, k4, k5⟩ := slice_build (w := w) (g := a.block) (b := a.off) (K := P.cellsOf e) (M := fun g => w.heap[g]?) (R := fun ds => Ty P k e ds ∧ sbL N ds) len fun i hl => by
                  obtain ⟨y, vs, h1, h2, hy⟩ := hi i hl
                  rw [add_spot hs] at h1
                  obtain ⟨j1, j2⟩ := cells_seg h1 rfl
                  obtain ⟨ds, r1, r2⟩ := lift_trodR k fuel e vs y h.2 h2 fun n hn => hw n (List.mem_cons_of_mem _ (List.mem_append_left _ (weights_all (List.mem_map_of_mem (List.mem_of_getElem? hy)) n hn)))
                  exact ⟨ds, vs, j1, j2, r1, r2⟩
                have hv : vs ≠ [] := by
                  intro hv
                  rw [hv] at k2
                  have : 0 < len * P.cellsOf e := Nat.mul_pos h0 h.1
                  simp at k2
                  omega
                have hlen : len ≤ maxLen := Nat.le_trans hb.2.1 hb.2.2
                refine ⟨[.sl es], ⟨_, [], rfl, ⟨some a, len, cap, rfl, k1.symm, hb.2.1, hlen, .inr ⟨a.block, a.off, P.cellsOf e, vs, ?_, k3.at hv, h.1, fun x hx => (k5 x hx).2, k4⟩⟩, rfl⟩, ⟨es, by omega, rfl, fun x hx => (k5 x hx).1.1⟩, ⟨by simp only [sb]; exact sbLL_of fun x hx => (k5 x hx).1.2, trivial⟩⟩
                cases a; simp_all
          · cases hd
      | struct fs =>
        simp only [plainT, hu, Bool.and_eq_true, List.all_eq_true] at h
        split at hd <;> first | (rename_i he; cases he; done) | (rename_i he; cases he) | (exfalso; simp_all; done)
        split at hd
        · rename_i hc
          rw [← hc] at h
          obtain ⟨xs, hm, hx⟩ := Option.map_eq_some_iff.1 hd
          subst hx
          simp only [DataW.weights, hu] at hw
          obtain ⟨ds, h1, h2⟩ := fields_build (P := P) (M := fun g => w.heap[g]?) (R := fun t ds => Ty P k t ds ∧ sbL N ds) fs.toList 0 h.1 fun f hf => by
            obtain ⟨i, hi⟩ := List.getElem?_of_mem hf
            have := mapM_some_get hm i f hi
            have hl := mapM_some_length hm
            have hlt := (List.getElem?_eq_some_iff.1 hi).1
            rw [List.getElem?_eq_getElem (by omega)] at this
            exact lift_trodR k fuel f.type _ _ (h.2 f hf) this fun n hn => hw n (weights_each (i := i) (by rw [List.getElem?_map, hi]; rfl) (by rw [List.getElem?_map, List.getElem?_eq_getElem (by omega)]; rfl) n hn)
          exact ⟨ds, h1, (TyFs_and h2).1, (TyFs_and h2).2⟩
        · cases hd
      | array n e =>
        simp only [plainT, hu, Bool.and_eq_true, beq_iff_eq] at h
        split at hd <;> first | (rename_i he; cases he; done) | (rename_i he; cases he) | (exfalso; simp_all; done)
        split at hd
        · rename_i hc
          obtain ⟨xs, hm, hx⟩ := Option.map_eq_some_iff.1 hd
          subst hx
          simp only [DataW.weights, hu] at hw
          have hl := mapM_some_length hm
          rw [List.length_range] at hl
          obtain ⟨ps, h1, h2, h3⟩ := array_build (M := fun g => w.heap[g]?) (K := P.cellsOf e) (R := fun ds => Ty P k e ds ∧ sbL N ds) n fun i hi => by
            have := mapM_some_get hm i i (by simp [hi])
            rw [List.getElem?_eq_getElem (by omega)] at this
            exact lift_trodR k fuel e _ _ h.2 this fun n hn => hw n (weights_all (List.mem_map_of_mem (List.getElem_mem _)) n hn)
          rw [h.1, ← hc, List.take_length] at h2
          exact ⟨_, h2, ⟨ps, rfl, h1, fun x hx => (h3 x hx).1⟩, sbL_flatten fun x hx => (h3 x hx).2⟩
        · cases hd
      | _ => simp [plainT, hu] at h
theorem lift_argR {H : Type} {enc : TypeId × Value → H} {P : Program} {w : World} {base b0 : Nat} {r : Reach} {sp : Nat → Bool} {held : Bool} {k : Nat} {t : TypeId} {v : Value} {d : DataW H} {ps : List MemPlace}
    {N : Nat} (hw : ∀ n ∈ d.weights P t, n ≤ N) (hp : plainT P k t = true) (hval : Value.okWide P w r b0 t v) (hd : DataW.Trod enc P w base sp held t v d ps) :
    ∃ tr : T, tr.val = v ∧ tr.tidy ∧ Giv (fun g => w.heap[g]?) tr ∧ tr.blocks = [] ∧ TyA P k t tr.erase ∧ sb N tr.erase := by
  obtain ⟨fuel, hf⟩ := hd
  obtain ⟨ds, h1, h2, h3⟩ := lift_trodR k fuel t _ _ hp hf hw
  have agg : (∃ cs, v = .agg cs) → ∃ tr : T, tr.val = v ∧ tr.tidy ∧ Giv (fun g => w.heap[g]?) tr ∧ tr.blocks = [] ∧ tr.erase = .agg ds := by
    rintro ⟨cs, rfl⟩
    obtain ⟨ts, b1, b2, b3, b4, b5⟩ := RCs_trees h1
    refine ⟨.agg ts, ?_, b3, b4, ?_, ?_⟩
    · simp [T.val, b2, Value.cells]
    · simp only [T.blocks, T.blocksC_eq, List.flatMap_eq_nil_iff]; exact b5
    · simp only [T.erase, T.eraseC_eq, b1]
  have one : (∀ cs, v ≠ .agg cs) → ∃ d, ds = [d] ∧ ∃ tr : T, tr.val = v ∧ tr.tidy ∧ Giv (fun g => w.heap[g]?) tr ∧ tr.blocks = [] ∧ tr.erase = d := by
    intro hv
    have hc : v.cells.toList = [v] := by cases v <;> first | rfl | exact absurd rfl (hv _)
    rw [hc] at h1
    have hl := RCs.length h1
    match ds, hl, h1 with
    | [d], _, h1 =>
      obtain ⟨ts, b1, b2, b3, b4, b5⟩ := RCs_trees h1
      match ts, b1 with
      | [tr], b1 =>
        simp only [List.map_cons, List.map_nil, List.cons.injEq, and_true] at b1
        simp only [T.vals, List.cons.injEq, and_true] at b2
        refine ⟨d, rfl, tr, b2, b3.1, ?_, b5 tr (by simp), b1⟩
        obtain ⟨_, _, e1, e2, _⟩ := h1
        have hr : RI (fun g => w.heap[g]?) d v := by cases e1; exact e2
        refine Giv_of_wf b4.1 ?_
        rw [b1]
        rintro rfl
        simp [RI] at hr
  unfold TyA
  cases hu : P.underlying t with
  | none => simp only [Value.okWide, hu, Cell.okWide, Cell.ok] at hval
  | some ty =>
    cases ty with
    | struct fs =>
      simp only [Value.okWide, hu] at hval
      obtain ⟨cs, hv, _⟩ := hval
      obtain ⟨tr, a, b, c, e, f⟩ := agg ⟨cs, hv⟩
      exact ⟨tr, a, b, c, e, ⟨ds, f, h2⟩, by rw [f]; simp only [sb]; exact h3⟩
    | array n e =>
      simp only [Value.okWide, hu] at hval
      obtain ⟨cs, hv, _⟩ := hval
      obtain ⟨tr, a, b, c, e, f⟩ := agg ⟨cs, hv⟩
      exact ⟨tr, a, b, c, e, ⟨ds, f, h2⟩, by rw [f]; simp only [sb]; exact h3⟩
    | _ =>
      obtain ⟨d', rfl, tr, a, b, c, e, rfl⟩ := one fun cs hv => by
        subst hv
        first
          | (simp only [Value.okWide, hu, Cell.okWide, Cell.ok] at hval; done)
          | (simp only [Value.okWide, hu, Cell.okWide, Cell.ok] at hval; exact hval)
      exact ⟨tr, a, b, c, e, h2, h3.1⟩
theorem lift_argsR {H : Type} {enc : TypeId × Value → H} {P : Program} {w : World} {base b0 : Nat} {r : Reach} {sp : Nat → Bool} {held : Bool} {k N : Nat} :
    ∀ (ts : List TypeId) (vs : List Value) (ds : List (DataW H)) (ps : List MemPlace), (∀ t ∈ ts, plainT P k t = true) → DataW.TrodAll enc P w base sp held ts vs ds ps →
      (∀ (j : Nat) t v, ts[j]? = some t → vs[j]? = some v → Value.okWide P w r b0 t v) → (∀ (i : Nat) t d, ts[i]? = some t → ds[i]? = some d → ∀ n ∈ DataW.weights P t d, n ≤ N) →
      ∃ trs : List T, T.vals trs = vs ∧ (∀ t ∈ trs, t.tidy ∧ Giv (fun g => w.heap[g]?) t) ∧ T.blocksC trs = [] ∧ TyAll P k ts (trs.map T.erase) ∧ sbL N (trs.map T.erase)
  | [], vs, ds, ps, _, h, _, _ => by
    obtain ⟨rfl, rfl, rfl⟩ := trodAll_nil h
    exact ⟨[], rfl, by simp, rfl, rfl, trivial⟩
  | t :: ts, vs, ds, ps, hp, h, hv, hw => by
    obtain ⟨v, vs', d, ds', p, q, rfl, rfl, rfl, h1, h2⟩ := trodAll_cons h
    obtain ⟨tr, a1, a2, a3, a4, a5, a6⟩ := lift_argR (hw 0 t d rfl rfl) (hp t (by simp)) (hv 0 t v rfl rfl) h1
    obtain ⟨trs, b1, b2, b3, b4, b5⟩ := lift_argsR (N := N) ts vs' ds' q (fun t ht => hp t (by simp [ht])) h2 (fun j t v h3 h4 => hv (j + 1) t v (by simpa using h3) (by simpa using h4)) (fun i t d h3 h4 => hw (i + 1) t d (by simpa using h3) (by simpa using h4))
    refine ⟨tr :: trs, by simp [T.vals, a1, b1], ?_, by simp [T.blocksC, a4, b3], ⟨_, _, rfl, a5, b4⟩, ⟨a6, b5⟩⟩
    intro x hx
    rcases List.mem_cons.1 hx with rfl | hx
    · exact ⟨a2, a3⟩
    · exact b2 x hx
theorem lift_callR {H : Type} {enc : TypeId × Value → H} {E : Env} {N : Nat} (hE : EnvOK E) {w : World} {base b0 : Nat} {r : Reach} {sp : Nat → Bool} {held : Bool} {k f : Nat} {fd : Func} {c : Code}
    {ts : List TypeId} {args : Array Value} {ds : List (DataW H)} {ps : List MemPlace}
    (hf : E.P.funcs[f]? = some fd) (hn : E.prim f = none) (hb : fd.body = some c) (hmode : ∀ j, E.mode f j ≠ .inout)
    (hp : ∀ t ∈ ts, plainT E.P k t = true) (hd : DataW.TrodAll enc E.P w base sp held ts args.toList ds ps)
    (hv : ∀ (j : Nat) t v, ts[j]? = some t → args[j]? = some v → Value.okWide E.P w r b0 t v)
    (hgd : Good E (fun g => w.heap[g]?)) (hw : ∀ (i : Nat) t d, ts[i]? = some t → ds[i]? = some d → ∀ n ∈ DataW.weights E.P t d, n ≤ N) (contract : ∀ xs, TyAll E.P k ts xs → sbL N xs → Ret E f xs (.lit (.bool true)) []) :
    Calls E.P f args w fun e w' => e = .returned (.bool true) ∧ Below w.heap.size w w' := by
  obtain ⟨trs, h1, h2, h3, h4, h5⟩ := lift_argsR ts args.toList ds ps hp hd (fun j t v a b => hv j t v a (by simpa using b)) hw
  obtain ⟨n, hn'⟩ := contract _ h4 h5
  have hok := callN_ok hE n f _ _ _ (hn' n (Nat.le_refl n)) (fun g => w.heap[g]?) w trs rfl h2 (by rw [lentsT_none trs 0 hmode]; simp) (by rw [h3]; exact BlkOK.nil _ _) (fun g o h => h) hgd
  rw [h1] at hok
  unfold Does at hok
  rw [run_callFunc hf (hE.name f fd hf hn) hb] at hok
  refine Calls.mono hok fun e w' ⟨M', t, touts, he, ht, htd, hr, _, _, _, hB, hM, hev⟩ => ?_
  rw [h3] at hev
  have htv : t.val = .bool true := by
    cases t with
    | leaf d v =>
      simp only [T.erase] at ht
      subst ht
      have hr : RI M' (.lit (.bool true)) v := hr
      simp only [RI] at hr
      exact hr.1
    | _ => simp [T.erase] at ht
  refine ⟨by rw [he, htv], hev.os, hev.tape, hev.output, hev.size, fun g hg => hev.out g hg (by simp [keys])⟩
theorem row_contractR {H : Type} {enc : TypeId × Value → H} {E : Env} (hE : EnvOK E) {s : ChangeSpec} {k f : Nat} {fd : Func} {c : Code} {ts : List TypeId} {tb : TypeId} {base : Nat}
    {W : World} {args : Array Value} {ds gs : List (DataW H)} {before : List MemPlace}
    (hf : E.P.funcs[f]? = some fd) (hn : E.prim f = none) (hbd : fd.body = some c) (hmode : ∀ j, E.mode f j ≠ .inout) (hts : fd.params = ts.toArray) (hrt : fd.resultTypes = #[tb]) (htb : E.P.underlying tb = some .bool)
    (hp : ∀ t ∈ ts, plainT E.P k t = true) (hl : laidOutB E.P = true) (hread : ∀ t ∈ ts, E.P.readableRec t = true ∧ t < E.P.types.size)
    (hvs : s.vars = []) (hfn : ∀ ds : List (DataW H), ds.length = ts.length → (s.fn H ds).results = [.lit (.bool true)] ∧ (s.fn H ds).args = ds ∧ (s.fn H ds).vars = [])
    (hval : ∀ (j : Nat) t v, fd.params[j]? = some t → args[j]? = some v → Value.okWide E.P W .any base t v)
    (hW : DataW.Whole enc E.P fd.params.toList s.vars false W args.toList ds gs before)
    (hgd : Good E (fun g => W.heap[g]?)) {us : List TypeId} (hw : (DataW.weightsEach E.P (fd.params.toList ++ us) (ds ++ gs)).all (· ≤ reachBytes) = true) (contract : ∀ xs, TyAll E.P k ts xs → sbL reachBytes xs → Ret E f xs (.lit (.bool true)) []) :
    Calls E.P f args W fun e W' => ∃ v, e = .returned v ∧ s.post enc E.P fd false true false false W args v W' := by
  have hlt : ∀ p ∈ before, p.block < W.heap.size := fun p hp => hW.lt p hp
  have hW' := hW
  obtain ⟨p, q, hA, hV, rfl, hfz, hnd⟩ := hW
  rw [hvs] at hV
  have hgs : gs = [] ∧ q = [] := by cases gs <;> simp [DataW.TrodVars] at hV; exact ⟨rfl, hV⟩
  obtain ⟨rfl, rfl⟩ := hgs
  simp only [List.append_nil] at *
  rw [hts] at hA hval
  simp only [List.toList_toArray] at hA
  have hcall := lift_callR hE hf hn hbd hmode hp hA (fun j t v h1 h2 => hval j t v (by simpa using h1) h2) hgd (N := reachBytes) (fun i t d h1 h2 n hn => by
    rw [List.all_eq_true] at hw
    refine of_decide_eq_true (hw n (weights_each (i := i) ?_ ?_ n hn))
    · rw [hts]
      rw [List.getElem?_append_left (List.getElem?_eq_some_iff.1 h1).1]; exact h1
    · first
        | exact h2
        | (rw [List.getElem?_append_left (List.getElem?_eq_some_iff.1 h2).1]; exact h2)) contract
  have hlen : ds.length = ts.length := by
    have : ∀ (ts : List TypeId) (vs : List Value) (ds : List (DataW H)) (p : List MemPlace), DataW.TrodAll enc E.P W 0 (fun _ => true) true ts vs ds p → ds.length = ts.length := by
      intro ts
      induction ts with
      | nil => intro vs ds p h; obtain ⟨rfl, rfl, rfl⟩ := trodAll_nil h; rfl
      | cons t ts ih =>
        intro vs ds p h
        obtain ⟨v, vs', d, ds', p, q, rfl, rfl, rfl, h1, h2⟩ := trodAll_cons h
        simp [ih _ _ _ h2]
    exact this _ _ _ _ hA
  obtain ⟨e1, e2, e3⟩ := hfn ds hlen
  refine hcall.mono fun e W' ⟨he, hb⟩ => ⟨_, he, ds, [], p, [], p, [], hW', ?_, ?_, ?_, World.keptBut_mono (fun x hx => ⟨hx, .inr (.inl hx)⟩) (hb.frame (· ∈ p)), fun h => by cases h⟩
  · rw [List.append_nil, e1, hrt]
    exact trodAll_cons_mk (shut_bool htb _) rfl
  · rw [List.append_nil, e2, hts]
    exact stays_all hl hb ts args.toList ds p hread hA hlt (fun x hx => by simpa using hlt x hx)
  · rw [List.append_nil, e3, hvs]
    exact rfl
end Go.Own
