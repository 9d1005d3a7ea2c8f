/- What the functions that the law reaches answer. No conditions. -/
import Derived.Test.YthobchhfpmidnaaAggregateRepairsLaw4
import Derived.Test.YthobchhfpmidnaaAggregateRepairsLaw6
import Derived.Test.YthobchhfpmidnaaAggregateRepairsLaw2
import Derived.Test.YthobchhfpmidnaaAggregateRepairsLaw3
set_option linter.all false
namespace Go.Own
def letB (x:Int):Bool:=decide (97≤x∧x≤122∨65≤x∧x≤90∨x=95)
def alnB (x:Int):Bool:=letB x || decide (48≤x∧x≤57)
def nullB:List UInt8:=[110,117,108,108]
theorem bl_null:((⟨#[110,117,108,108]⟩:ByteArray)).toList=nullB:=bl_mk (l:=nullB)
theorem bl_nil:((⟨#[]⟩:ByteArray)).toList=[]:=bl_mk (l:=[])
def nameL:List UInt8→Bool
 | []=>false
 | b::r=>decide (r.length<24)&&letB (u8i b)&&!decide (b::r=nullB)&&r.all fun b=>alnB (u8i b)
def nameF (s:ByteArray):Bool:=nameL s.toList
namespace drossref03_letter
theorem spec {x : Int} : C x (letB x) := by
  obtain ⟨r, h1, h2⟩ := enter x (fun r => r = letB x) (by
    unfold letB
    repeat' split
    all_goals first
      | (symm; rw [decide_eq_true_iff]; omega)
      | (by_cases h : x = 95
         · simp [h]
         · have : (x == 95) = false := by simpa using h
           rw [this]; symm; rw [decide_eq_false_iff_not]; omega))
  rw [← h1]; exact h2
end drossref03_letter
theorem aln_step {φ:Bool→Prop} {P:Prop} {x:Int} (h:if alnB x=true then P else φ false) (hl:¬ letB x=true):if x<48 then φ false else if 57<x then φ false else P:=by
 have e:alnB x=decide (48≤x∧x≤57):=by unfold alnB;rw [Bool.eq_false_iff.2 hl,Bool.false_or]
 rw [e] at h
 repeat' split
 ·rw [if_neg (by rw [decide_eq_true_iff];omega)] at h;exact h
 ·rw [if_neg (by rw [decide_eq_true_iff];omega)] at h;exact h
 ·rw [if_pos (by rw [decide_eq_true_iff];omega)] at h;exact h
namespace drossref03_Name
theorem spec {s : ByteArray} : C s (nameF s) := by
  obtain ⟨r, h1, h2⟩ := enter s (fun r => r = nameF s) (by
    unfold nameF
    rw [bsize_eq, bl_null]
    cases hs : s.toList with
    | nil => simp [nameL]
    | cons b t =>
      rw [if_neg (by simp; omega)]
      split
      · rename_i hn
        have hn : 24 ≤ t.length := by simp at hn; omega
        simp [nameL]; omega
      · rename_i hn
        have hn : t.length < 24 := by simp at hn; omega
        refine ⟨b, bget_of (by rw [hs]; rfl), letB (u8i b), drossref03_letter.spec, ?_⟩
        split
        · rename_i hb
          split
          · rename_i h0
            simp [nameL, nullB, h0]
          · rename_i h0
            refine all_loop (l := s.toList) (p := fun b => alnB (u8i b)) (L := fun i => L1 s i fun r => r = nameL (b :: t)) (φ := fun r => r = nameL (b :: t)) ?_ ?_ ?_
            · intro h
              apply L1_step
              rw [bsize_eq, if_neg (by omega)]; exact h
            · intro k c hc hk h
              apply L1_step
              rw [bsize_eq, if_pos (by omega)]
              have next : L1 s ((k + 1 : Nat) : Int) (fun r => r = nameL (b :: t)) → L2 s k fun r => r = nameL (b :: t) := fun h => by
                apply L2_step
                rw [wrap_succ (by have : s.toList.length = (b :: t).length := by rw [hs]
                                  simp at this; omega)]
                exact h
              refine ⟨c, bget_of hc, _, drossref03_letter.spec, ?_⟩
              split
              · rename_i hl
                rw [if_pos (by unfold alnB; rw [hl]; rfl)] at h
                exact next h
              · rename_i hl
                have h3 := aln_step (φ := fun r => r = nameL (b :: t)) (P := L2 s k fun r => r = nameL (b :: t)) (by
                  split
                  · rename_i hh; rw [if_pos hh] at h; exact next h
                  · rename_i hh; rw [if_neg hh] at h; exact h) hl
                refine ⟨c, bget_of hc, ?_⟩
                split
                · rename_i h4; rw [if_pos h4] at h3; exact h3
                · rename_i h4; rw [if_neg h4] at h3; exact ⟨c, bget_of hc, h3⟩
            · rw [hs]
              have e : alnB (u8i b) = true := by unfold alnB; rw [hb]; rfl
              simp only [List.all_cons, e, Bool.true_and, nameL, hb, h0, decide_false, Bool.not_false, Bool.and_true]
              simp [hn]
        · rename_i hb
          simp [nameL, hb])
  rw [← h1]; exact h2
end drossref03_Name
namespace table_isName
theorem two {s:ByteArray} {i:Int} {φ:Bool→Prop} {x:Int} (h:if letB x=true then L3 s i φ else if i=0 then φ false else if x<48 then φ false else if 57<x then φ false else L3 s i φ):L2 s i x (letB x) φ:=by
 apply L2_step;exact h
theorem spec {s : ByteArray} : C s (nameF s) := by
  obtain ⟨r, h1, h2⟩ := enter s (fun r => r = nameF s) (by
    unfold nameF
    rw [bsize_eq, bl_null, bl_nil]
    cases hs : s.toList with
    | nil => simp [nameL]
    | cons b t =>
      rw [if_neg (by simp)]
      split
      · rename_i hn
        have hn : 24 ≤ t.length := by simp at hn; omega
        simp [nameL]; omega
      · rename_i hn
        have hn : t.length < 24 := by simp at hn; omega
        have hlen : s.toList.length = t.length + 1 := by rw [hs]; rfl
        split
        · rename_i h0
          simp [nameL, nullB, h0]
        · rename_i h0
          have body : ∀ (k : Nat) c, s.toList[k]? = some c → (if letB (u8i c) = true then L1 s ((k + 1 : Nat) : Int) (fun r => r = nameL (b :: t)) else if (k : Int) = 0 then false = nameL (b :: t) else if (u8i c) < 48 then false = nameL (b :: t) else if 57 < (u8i c) then false = nameL (b :: t) else L1 s ((k + 1 : Nat) : Int) (fun r => r = nameL (b :: t))) → L1 s k (fun r => r = nameL (b :: t)) := by
            intro k c hc h
            have hk := (List.getElem?_eq_some_iff.1 hc).1
            apply L1_step
            rw [bsize_eq, if_pos (by omega)]
            refine ⟨c, bget_of hc, ?_⟩
            have next : L1 s ((k + 1 : Nat) : Int) (fun r => r = nameL (b :: t)) → L3 s k fun r => r = nameL (b :: t) := fun h => by
              apply L3_step
              rw [wrap_succ (by omega)]
              exact h
            have key : L2 s k (u8i c) (letB (u8i c)) fun r => r = nameL (b :: t) := by
              apply two
              split
              · rename_i hh; rw [if_pos hh] at h; exact next h
              · rename_i hh; rw [if_neg hh] at h
                split
                · rename_i h2; rw [if_pos h2] at h; exact h
                · rename_i h2; rw [if_neg h2] at h
                  split
                  · rename_i h3; rw [if_pos h3] at h; exact h
                  · rename_i h3; rw [if_neg h3] at h
                    split
                    · rename_i h4; rw [if_pos h4] at h; exact h
                    · rename_i h4; rw [if_neg h4] at h; exact next h
            have e : ∀ v, v = letB (u8i c) → L2 s k (u8i c) v fun r => r = nameL (b :: t) := by rintro _ rfl; exact key
            repeat' split
            all_goals apply e
            all_goals unfold letB
            all_goals first
              | (symm; rw [decide_eq_true_iff]; omega)
              | (by_cases h : u8i c = 95
                 · simp [h]
                 · have : (u8i c == 95) = false := by simpa using h
                   rw [this]; symm; rw [decide_eq_false_iff_not]; omega)
          have h0s : s.toList[0]? = some b := by rw [hs]; rfl
          refine body 0 b h0s ?_
          split
          · rename_i hb
            have rest := all_loop (l := t) (p := fun b => alnB (u8i b)) (L := fun i => L1 s (i + 1) fun r => r = nameL (b :: t)) (φ := fun r => r = nameL (b :: t)) ?_ ?_ ?_
            · simpa using rest
            · intro h
              apply L1_step
              rw [bsize_eq, if_neg (by omega)]; exact h
            · intro k c hc hk h
              have e1 : ((k : Nat) : Int) + 1 = ((k + 1 : Nat) : Int) := by omega
              rw [e1]
              refine body (k + 1) c (by rw [hs]; simpa using hc) ?_
              split
              · rename_i hl
                rw [if_pos (by unfold alnB; rw [hl]; rfl)] at h
                exact h
              · rename_i hl
                rw [if_neg (by omega)]
                exact aln_step (φ := fun r => r = nameL (b :: t)) h hl
            · simp [nameL, hb, h0, hn]
          · rename_i hb
            simp [nameL, hb])
  rw [← h1]; exact h2
end table_isName
def eqS (x a:ByteArray):Bool:=decide (a=x)
def namesGo:List ByteArray→List ByteArray→Bool
 | _,[]=>true
 | pre,a::r=>nameF a&&!pre.any (eqS a)&&namesGo (pre++[a]) r
def namesF (l:List ByteArray):Bool:=namesGo [] l
namespace slices_Index_sstring_string
theorem spec {l:List ByteArray} {x:ByteArray} (hn:l.length<Big):C l x (ixI (eqS x) l):=by
 obtain ⟨r,h1,h2⟩:=enter l x (fun r=>r=ixI (eqS x) l) (by
  refine index_loop (l:=l) (p:=eqS x) (L:=fun i=>L1 l x i _) (φ:=fun r=>r=ixI (eqS x) l) ?_ ?_ rfl
  ·intro h;apply L1_step;rw [if_neg (by omega)];exact h
  ·intro k a ha hk h
   apply L1_step
   rw [if_pos (by omega)]
   refine ⟨a,lget_of ha,?_⟩
   rw [wrap_succ (by unfold Big at hn;omega)]
   split
   ·rename_i hh;rw [if_pos (by simp [eqS,bl_inj.1 hh])] at h;exact h
   ·rename_i hh;rw [if_neg (by simp only [eqS,decide_eq_true_eq];rintro rfl;exact hh rfl)] at h;exact h)
 rw [← h1];exact h2
end slices_Index_sstring_string
theorem slices_Contains_sstring_string.spec {l:List ByteArray} {x:ByteArray} (hn:l.length<Big):slices_Contains_sstring_string.C l x (l.any (eqS x)):=by
 obtain ⟨r,h1,h2⟩:=slices_Contains_sstring_string.enter l x (fun r=>r=l.any (eqS x)) ⟨_,slices_Index_sstring_string.spec hn,by rw [ixI_any]⟩
 rw [← h1];exact h2
namespace drossref03_Attr
theorem spec {l:List ByteArray} {x:ByteArray} (hn:l.length<Big):C l x (ixI (eqS x) l):=by
 obtain ⟨r,h1,h2⟩:=enter l x (fun r=>r=ixI (eqS x) l) (by
  refine index_loop (l:=l) (p:=eqS x) (L:=fun i=>L1 l x i _) (φ:=fun r=>r=ixI (eqS x) l) ?_ ?_ rfl
  ·intro h;apply L1_step;rw [if_neg (by omega)];exact h
  ·intro k a ha hk h
   apply L1_step
   rw [if_pos (by omega)]
   refine ⟨a,lget_of ha,?_⟩
   rw [wrap_succ (by unfold Big at hn;omega)]
   split
   ·rename_i hh;rw [if_pos (by simp [eqS,bl_inj.1 hh])] at h;exact h
   ·rename_i hh;rw [if_neg (by simp only [eqS,decide_eq_true_eq];rintro rfl;exact hh rfl)] at h;exact h)
 rw [← h1];exact h2
end drossref03_Attr
theorem names_loop {l : List ByteArray} {L : Int → Prop} {P Q : Prop} (stop : P → L (l.length : Int))
    (step : ∀ (k : Nat) a, l[k]? = some a → k < l.length → (if nameF a = true then (if (l.take k).any (eqS a) = true then Q else L ((k + 1 : Nat) : Int)) else Q) → L k) (h : namesF l = true → P) (h' : namesF l = false → Q) : L 0 := by
  have : ∀ (r : List ByteArray) (k : Nat), l.drop k = r → k ≤ l.length → (namesGo (l.take k) r = true → P) → (namesGo (l.take k) r = false → Q) → L k := by
    intro r
    induction r with
    | nil => intro k hd hk h h'; have : k = l.length := by have := drop_ge hd; omega
             subst this; exact stop (h rfl)
    | cons a r ih =>
      intro k hd hk h h'
      have hlt := drop_lt hd
      refine step k a (drop_get hd) hlt ?_
      have hn := ih (k + 1) (drop_next hd) hlt
      have e : l.take (k + 1) = l.take k ++ [a] := by rw [List.take_add_one, drop_get hd]; rfl
      rw [e] at hn
      simp only [namesGo] at h h'
      split
      · rename_i h1
        split
        · rename_i h2
          exact h' (by simp [h1, h2])
        · rename_i h2
          have h2 := Bool.eq_false_iff.2 h2
          exact hn (fun hh => h (by simp [h1, h2, hh])) (fun hh => h' (by simp [h1, h2, hh]))
      · rename_i h1
        have h1 := Bool.eq_false_iff.2 h1
        exact h' (by simp [h1])
  exact this l 0 rfl (Nat.zero_le _) h h'
theorem drossref03_Names.spec {l:List ByteArray} (hn:l.length<Big):drossref03_Names.C l (namesF l):=by
 obtain ⟨r,h1,h2⟩:=drossref03_Names.enter l (fun r=>r=namesF l) (by
  refine names_loop (l:=l) (L:=fun i=>drossref03_Names.L1 l i _) (P:=true=namesF l) (Q:=false=namesF l) ?_ ?_ Eq.symm Eq.symm
  ·intro h;apply drossref03_Names.L1_step;rw [if_neg (by omega)];exact h
  ·intro k a ha hk h
   apply drossref03_Names.L1_step
   rw [if_pos (by omega)]
   refine ⟨a,lget_of ha,_,drossref03_Name.spec,?_⟩
   split
   ·rename_i h1;rw [if_pos h1] at h
    refine ⟨by omega,by omega,_,drossref03_Attr.spec (by rw [List.length_take];omega),?_⟩
    rw [Int.toNat_natCast,Nat.sub_zero,wrap_succ (by unfold Big at hn;omega)]
    have e:(0≤ixI (eqS a) (l.take k))↔(l.take k).any (eqS a)=true:=by rw [← ixI_any,decide_eq_true_iff]
    split
    ·rename_i h2;rw [if_pos (e.1 h2)] at h;exact h
    ·rename_i h2;rw [if_neg (fun hh=>h2 (e.2 hh))] at h;exact h
   ·rename_i h1;rw [if_neg h1] at h;exact h)
 rw [← h1];exact h2
def validV (v:api_Value):Bool:=decide (v.Kind=0∧v.Num=0∧v.Str.toList=[]∨v.Kind=1∧v.Str.toList=[]∨v.Kind=2∧v.Num=0∧v.Str.toList.length≤200∨v.Kind=3∧1≤v.Num∧v.Str.toList=[])
theorem valid_goal {v : api_Value} {φ : Bool → Prop} (h : φ (validV v)) : (if v.Kind = 0 then (if v.Num = 0 then φ ((v.Str.toList == ((⟨#[]⟩ : ByteArray)).toList)) else φ false) else (if v.Kind = 1 then φ ((v.Str.toList == ((⟨#[]⟩ : ByteArray)).toList)) else (if v.Kind = 2 then (if v.Num = 0 then φ ((decide ((bsize v.Str) ≤ 200))) else φ false) else (if v.Kind = 3 then (if 1 ≤ v.Num then φ ((v.Str.toList == ((⟨#[]⟩ : ByteArray)).toList)) else φ false) else φ false)))) := by
  have e : ∀ b, b = validV v → φ b := by rintro _ rfl; exact h
  have e0 : (v.Str.toList == ((⟨#[]⟩ : ByteArray)).toList) = decide (v.Str.toList = []) := by
    rw [bl_nil]
    by_cases h : v.Str.toList = []
    · simp [h]
    · simp [h]
  rw [e0, bsize_eq]
  repeat' split
  all_goals apply e
  all_goals unfold validV
  all_goals first
    | (rw [decide_eq_decide]; omega)
    | (symm; rw [decide_eq_false_iff_not]; omega)
    | (rw [decide_eq_decide]; constructor
       · intro h; simp_all
       · intro h; simp_all)
theorem value_Valid.spec {v:api_Value}:value_Valid.C v (validV v):=by
 obtain ⟨r,h1,h2⟩:=value_Valid.enter v (fun r=>r=validV v) (valid_goal (φ:=fun r=>r=validV v) rfl)
 rw [← h1];exact h2
theorem drossref01_Valid.spec {v:api_Value}:drossref01_Valid.C v (validV v):=by
 obtain ⟨r,h1,h2⟩:=drossref01_Valid.enter v (fun r=>r=validV v) (valid_goal (φ:=fun r=>r=validV v) rfl)
 rw [← h1];exact h2
def validsF (l:List api_Value):Bool:=l.all validV
theorem table_validValues_1.spec {v:api_Value}:table_validValues_1.C v (!validV v):=by
 obtain ⟨r,h1,h2⟩:=table_validValues_1.enter v (fun r=>r=!validV v) ⟨_,value_Valid.spec,rfl⟩
 rw [← h1];exact h2
namespace slices_IndexFunc_sapi_Value_api_Value_table_validValues_1
theorem spec {l:List api_Value} (hn:l.length<Big):C l (ixI (fun v=>!validV v) l):=by
 obtain ⟨r,h1,h2⟩:=enter l (fun r=>r=ixI (fun v=>!validV v) l) (by
  refine index_loop (l:=l) (p:=fun v=>!validV v) (L:=fun i=>L1 l i _) (φ:=fun r=>r=ixI (fun v=>!validV v) l) ?_ ?_ rfl
  ·intro h;apply L1_step;rw [if_neg (by omega)];exact h
  ·intro k a ha hk h
   apply L1_step
   rw [if_pos (by omega)]
   refine ⟨a,lget_of ha,_,table_validValues_1.spec,?_⟩
   rw [wrap_succ (by unfold Big at hn;omega)]
   exact h)
 rw [← h1];exact h2
end slices_IndexFunc_sapi_Value_api_Value_table_validValues_1
theorem slices_ContainsFunc_sapi_Value_api_Value_table_validValues_1.spec {l:List api_Value} (hn:l.length<Big):slices_ContainsFunc_sapi_Value_api_Value_table_validValues_1.C l (!validsF l):=by
 obtain ⟨r,h1,h2⟩:=slices_ContainsFunc_sapi_Value_api_Value_table_validValues_1.enter l (fun r=>r=!validsF l) ⟨_,slices_IndexFunc_sapi_Value_api_Value_table_validValues_1.spec hn,by
  rw [ixI_any];unfold validsF;rw [List.any_eq_not_all_not];simp⟩
 rw [← h1];exact h2
theorem table_validValues.spec {l:List api_Value} (hn:l.length<Big):table_validValues.C l (validsF l):=by
 obtain ⟨r,h1,h2⟩:=table_validValues.enter l (fun r=>r=validsF l) ⟨_,slices_ContainsFunc_sapi_Value_api_Value_table_validValues_1.spec hn,by
  show (!(!validsF l))=_
  rw [Bool.not_not]⟩
 rw [← h1];exact h2
theorem drossref01_Valids.spec {l:List api_Value} (hn:l.length<Big):drossref01_Valids.C l (validsF l):=by
 obtain ⟨r,h1,h2⟩:=drossref01_Valids.enter l (fun r=>r=validsF l) (by
  refine all_loop (l:=l) (p:=validV) (L:=fun i=>drossref01_Valids.L1 l i _) (φ:=fun r=>r=validsF l) ?_ ?_ rfl
  ·intro h;apply drossref01_Valids.L1_step;rw [if_neg (by omega)];exact h
  ·intro k a ha hk h
   apply drossref01_Valids.L1_step
   rw [if_pos (by omega)]
   refine ⟨a,lget_of ha,_,drossref01_Valid.spec,?_⟩
   rw [wrap_succ (by unfold Big at hn;omega)]
   exact h)
 rw [← h1];exact h2
def rowsF (n:Nat):Int→List api_Row→Int
 | _,[]=>0
 | last,r::rs=>if r.ID≤last then 1 else if r.Values.length=n then (if validsF r.Values=true then rowsF n r.ID rs else 1) else 6
def tableF (t:api_Table):Int:=if nameF t.Name=true then (if 16<t.Attrs.length then 3 else if 1000<t.Rows.length then 3 else if namesF t.Attrs=true then rowsF t.Attrs.length 0 t.Rows else 1) else 1
theorem rows_loop {n : Nat} {l : List api_Row} {L : Int → Int → Prop} {φ : Int → Prop} (stop : ∀ last, φ 0 → L last (l.length : Int))
    (step : ∀ (k : Nat) r last, l[k]? = some r → k < l.length → (if r.ID ≤ last then φ 1 else if r.Values.length = n then (if validsF r.Values = true then L r.ID ((k + 1 : Nat) : Int) else φ 1) else φ 6) → L last k) (h : φ (rowsF n 0 l)) : L 0 0 := by
  have : ∀ (r : List api_Row) (k : Nat) (last : Int), l.drop k = r → k ≤ l.length → φ (rowsF n last r) → L last k := by
    intro r
    induction r with
    | nil => intro k last hd hk h; have : k = l.length := by have := drop_ge hd; omega
             subst this; exact stop _ h
    | cons a r ih =>
      intro k last hd hk h
      have hlt := drop_lt hd
      refine step k a last (drop_get hd) hlt ?_
      simp only [rowsF] at h
      split
      · rename_i h1; rw [if_pos h1] at h; exact h
      · rename_i h1; rw [if_neg h1] at h
        split
        · rename_i h2; rw [if_pos h2] at h
          split
          · rename_i h3; rw [if_pos h3] at h; exact ih (k + 1) _ (drop_next hd) hlt h
          · rename_i h3; rw [if_neg h3] at h; exact h
        · rename_i h2; rw [if_neg h2] at h; exact h
  exact this l 0 0 rfl (Nat.zero_le _) h
namespace table_Valid
theorem rows {t:api_Table} {φ:Int→Prop} (hr:t.Rows.length≤1000) (ha:t.Attrs.length≤16) (h:φ (rowsF t.Attrs.length 0 t.Rows)):L2 t 0 0 φ:=by
 refine rows_loop (n:=t.Attrs.length) (l:=t.Rows) (L:=fun last i=>L2 t last i φ) (φ:=φ) ?_ ?_ h
 ·intro last h;apply L2_step;rw [if_neg (by omega)];exact h
 ·intro k r last hr hk h
  apply L2_step
  rw [if_pos (by omega)]
  refine ⟨r,lget_of hr,?_⟩
  split
  ·rename_i h1;rw [if_pos h1] at h;exact h
  ·rename_i h1;rw [if_neg h1] at h
   split
   ·rename_i h2
    have h2:r.Values.length=t.Attrs.length:=by omega
    rw [if_pos h2] at h
    refine ⟨_,table_validValues.spec (by unfold Big;omega),?_⟩
    rw [wrap_succ (by omega)]
    exact h
   ·rename_i h2;rw [if_neg (by omega)] at h;exact h
theorem spec {t:api_Table}:C t (tableF t):=by
 obtain ⟨r,h1,h2⟩:=enter t (fun r=>r=tableF t) (by
  refine ⟨_,table_isName.spec,?_⟩
  unfold tableF
  split
  ·by_cases h1:16<t.Attrs.length
   ·rw [if_pos (by omega),if_pos h1]
   ·rw [if_neg (by omega),if_neg h1]
    by_cases h2:1000<t.Rows.length
    ·rw [if_pos (by omega),if_pos h2]
    ·rw [if_neg (by omega),if_neg h2]
     refine names_loop (l:=t.Attrs) (L:=fun i=>L1 t i _) (P:=rowsF t.Attrs.length 0 t.Rows=if namesF t.Attrs=true then rowsF t.Attrs.length 0 t.Rows else 1) (Q:=(1:Int)=if namesF t.Attrs=true then rowsF t.Attrs.length 0 t.Rows else 1) ?_ ?_ ?_ ?_
     ·intro h;apply L1_step;rw [if_neg (by omega)]
      exact rows (φ:=fun r=>r=if namesF t.Attrs=true then rowsF t.Attrs.length 0 t.Rows else 1) (by omega) (by omega) h
     ·intro k a ha hk h
      apply L1_step
      rw [if_pos (by omega)]
      refine ⟨a,lget_of ha,_,table_isName.spec,?_⟩
      split
      ·rename_i h1;rw [if_pos h1] at h
       refine ⟨by omega,by omega,_,slices_Contains_sstring_string.spec (by rw [List.length_take];unfold Big;omega),?_⟩
       rw [Int.toNat_natCast,Nat.sub_zero,wrap_succ (by omega)]
       exact h
      ·rename_i h1;rw [if_neg h1] at h;exact h
     ·intro h;rw [if_pos h]
     ·intro h;rw [if_neg (by rw [h];decide)]
  ·rfl)
 rw [← h1];exact h2
end table_Valid
namespace drossref03_Valid
theorem rows {t:api_Table} {φ:Int→Prop} (hr:t.Rows.length≤1000) (ha:t.Attrs.length≤16) (h:φ (rowsF t.Attrs.length 0 t.Rows)):L1 t 0 0 φ:=by
 refine rows_loop (n:=t.Attrs.length) (l:=t.Rows) (L:=fun last i=>L1 t last i φ) (φ:=φ) ?_ ?_ h
 ·intro last h;apply L1_step;rw [if_neg (by omega)];exact h
 ·intro k r last hr hk h
  apply L1_step
  rw [if_pos (by omega)]
  refine ⟨r,lget_of hr,?_⟩
  split
  ·rename_i h1;rw [if_pos h1] at h;exact h
  ·rename_i h1;rw [if_neg h1] at h
   split
   ·rename_i h2
    have h2:r.Values.length=t.Attrs.length:=by omega
    rw [if_pos h2] at h
    refine ⟨_,drossref01_Valids.spec (by unfold Big;omega),?_⟩
    rw [wrap_succ (by omega)]
    exact h
   ·rename_i h2;rw [if_neg (by omega)] at h;exact h
theorem spec {t:api_Table}:C t (tableF t):=by
 obtain ⟨r,h1,h2⟩:=enter t (fun r=>r=tableF t) (by
  refine ⟨_,drossref03_Name.spec,?_⟩
  unfold tableF
  split
  ·by_cases h1:16<t.Attrs.length
   ·rw [if_pos (by omega),if_pos h1]
   ·rw [if_neg (by omega),if_neg h1]
    by_cases h2:1000<t.Rows.length
    ·rw [if_pos (by omega),if_pos h2]
    ·rw [if_neg (by omega),if_neg h2]
     refine ⟨_,drossref03_Names.spec (by unfold Big;omega),?_⟩
     split
     ·exact rows (φ:=fun r=>r=rowsF t.Attrs.length 0 t.Rows) (by omega) (by omega) rfl
     ·rfl
  ·rfl)
 rw [← h1];exact h2
end drossref03_Valid
end Go.Own
namespace Go.Own
namespace drossref02_Full
theorem loop {k:Nat} {φ:Int→Prop} (h:φ (fullN k)):∀ (m i:Nat),i+m=min k 32→L1 k ((2^i-1:Nat):Int) i φ
 | 0,i,hi=>by
  apply L1_step
  have e:((2^i-1:Nat):Int)=(fullN k:Int):=by unfold fullN;rw [← hi,Nat.add_zero]
  rw [e]
  split
  ·rw [if_neg (by omega)];exact h
  ·exact h
 | m+1,i,hi=>by
  apply L1_step
  rw [if_pos (by omega),if_pos (by omega)]
  refine ⟨by omega,?_⟩
  have hp:2^(i+1)≤2^32:=Nat.pow_le_pow_right (by decide) (by omega)
  have h2:0<2^i:=Nat.pos_of_ne_zero (by simp)
  rw [Nat.pow_succ] at hp
  rw [shl1_nat (k:=.u32) (by simp only [top];omega),bOr_nat (k:=.u32) (by simp only [top];omega) (by simp only [top];omega),wrap_succ (by omega)]
  have e:(2^i-1) ||| 2^i=2^(i+1)-1:=by
   apply Nat.eq_of_testBit_eq
   intro j
   rw [Nat.testBit_or,Nat.testBit_two_pow_sub_one,Nat.testBit_two_pow,Nat.testBit_two_pow_sub_one]
   by_cases h1:j<i
   ·have:j<i+1:=by omega
    simp [h1,this]
   ·by_cases h3:i=j
    ·subst h3;simp
    ·have:¬ j<i+1:=by omega
     simp [h1,h3,this]
  rw [e]
  exact loop h m (i+1) (by omega)
theorem spec {k:Nat}:C k (fullN k):=by
 obtain ⟨r,h1,h2⟩:=enter k (fun r=>r=(fullN k:Int)) (loop (φ:=fun r=>r=(fullN k:Int)) rfl (min k 32) 0 (by omega))
 rw [← h1];exact h2
end drossref02_Full
end Go.Own
namespace Go.Own
namespace drossref02_Has
theorem spec {n i:Nat} (hn:n<2^32):C n i (n.testBit i):=by
 obtain ⟨r,h1,h2⟩:=enter n i (fun r=>r=n.testBit i) (by
  rw [if_pos (by omega)]
  split
  ·refine ⟨by omega,?_⟩
   rw [bit_nat (k:=.u32) (by simpa [top] using hn) (by decide)]
   cases n.testBit i<;>rfl
  ·rw [Nat.testBit_lt_two_pow (Nat.lt_of_lt_of_le hn (Nat.pow_le_pow_right (by decide) (by omega)))])
 rw [← h1];exact h2
end drossref02_Has
end Go.Own

namespace Go.Own
theorem cmpI_zero {a b:Int}:cmpI a b=0↔a=b:=by
 unfold cmpI;repeat' split
 all_goals omega
theorem drossref01_sign.spec {a b:Int}:drossref01_sign.C a b (cmpI a b):=by
 obtain ⟨r,h1,h2⟩:=drossref01_sign.enter a b (fun r=>r=cmpI a b) (by
  unfold cmpI;repeat' split
  all_goals first | rfl | omega)
 rw [← h1];exact h2
def cmpL:List UInt8→List UInt8→Int
 | [],[]=>0
 | [],_::_=>-1
 | _::_,[]=>1
 | a::r,b::s=>if a=b then cmpL r s else cmpI (u8i a) (u8i b)
theorem cmpL_zero:∀ {a b:List UInt8},cmpL a b=0↔a=b
 | [],[]=>by simp [cmpL]
 | [],_::_=>by simp [cmpL]
 | _::_,[]=>by simp [cmpL]
 | a::r,b::s=>by
  simp only [cmpL]
  split
  ·rename_i h;subst h;rw [cmpL_zero];simp
  ·rename_i h
   rw [cmpI_zero,u8i_inj];simp [h]
def cmpS (a b:ByteArray):Int:=cmpL a.toList b.toList
theorem cmpL_len:∀ {a b:List UInt8},(a=[]∨b=[])→cmpI a.length b.length=cmpL a b
 | [],[],_=>rfl
 | [],_::r,_=>by
  simp only [cmpL,cmpI,List.length_cons,List.length_nil]
  rw [if_pos (by omega)]
 | _::r,[],_=>by
  simp only [cmpL,cmpI,List.length_cons,List.length_nil]
  rw [if_neg (by omega),if_pos (by omega)]
 | _::_,_::_,h=>by simp at h
namespace drossref01_strings
theorem loop {a b:ByteArray} {φ:Int→Prop} (hn:a.toList.length<Big):∀ (r s:List UInt8) (k:Nat),a.toList.drop k=r→b.toList.drop k=s→k≤a.toList.length→k≤b.toList.length→φ (cmpL r s)→L1 a b k φ:=by
 have fin:∀ (r s:List UInt8) (k:Nat),a.toList.drop k=r→b.toList.drop k=s→k≤a.toList.length→k≤b.toList.length→(r=[]∨s=[])→φ (cmpL r s)→L2 a b φ:=by
  intro r s k hr hs hk hk2 h0 h
  apply L2_step
  refine ⟨_,drossref01_sign.spec,?_⟩
  rw [bsize_eq,bsize_eq]
  have e:cmpI a.toList.length b.toList.length=cmpI r.length s.length:=by
   rw [← hr,← hs,List.length_drop,List.length_drop]
   unfold cmpI
   repeat' split
   all_goals omega
  rw [e,cmpL_len h0];exact h
 intro r
 induction r with
 | nil=>
  intro s k hr hs hk hk2 h
  apply L1_step
  have:=drop_ge hr
  rw [bsize_eq,if_neg (by omega)]
  exact fin _ _ k hr hs hk hk2 (.inl rfl) h
 | cons x r ih=>
  intro s k hr hs hk hk2 h
  apply L1_step
  have hlt:=drop_lt hr
  rw [bsize_eq,if_pos (by omega),bsize_eq]
  match s,hs,h with
  | [],hs,h=>
   have:=drop_ge hs
   rw [if_neg (by omega)]
   exact fin _ _ k hr hs hk hk2 (.inr rfl) h
  | y::s,hs,h=>
   have hlt2:=drop_lt hs
   rw [if_pos (by omega)]
   refine ⟨x,bget_of (drop_get hr),y,bget_of (drop_get hs),?_⟩
   simp only [cmpL] at h
   split
   ·rename_i he
    rw [if_pos (u8i_inj.1 he)] at h
    rw [wrap_succ (by unfold Big at hn;omega)]
    exact ih s (k+1) (drop_next hr) (drop_next hs) hlt hlt2 h
   ·rename_i he
    rw [if_neg (fun hh=>he (u8i_inj.2 hh))] at h
    refine ⟨x,bget_of (drop_get hr),y,bget_of (drop_get hs),_,drossref01_sign.spec,?_⟩
    have b1:=u8i_lt (b:=x);have b2:=u8i_lt (b:=y)
    rw [wrap_id (by omega) (by omega),wrap_id (by omega) (by omega)]
    exact h
theorem spec {a b:ByteArray} (hn:a.toList.length<Big):C a b (cmpS a b):=by
 obtain ⟨r,h1,h2⟩:=enter a b (fun r=>r=cmpS a b) (loop hn a.toList b.toList 0 rfl rfl (by omega) (by omega) rfl)
 rw [← h1];exact h2
end drossref01_strings
def cmpV (v w:api_Value):Int:=if cmpI v.Kind w.Kind=0 then (if cmpI v.Num w.Num=0 then cmpS v.Str w.Str else cmpI v.Num w.Num) else cmpI v.Kind w.Kind
theorem cmpV_zero {v w:api_Value}:cmpV v w=0↔v=w:=by
 obtain ⟨k,n,s⟩:=v
 obtain ⟨k',n',s'⟩:=w
 unfold cmpV cmpS
 simp only [api_Value.mk.injEq]
 split
 ·rename_i h1;rw [cmpI_zero] at h1
  split
  ·rename_i h2;rw [cmpI_zero] at h2
   rw [cmpL_zero,bl_inj];simp [h1,h2]
  ·rename_i h2
   have h3:=h2
   rw [cmpI_zero] at h3
   simp [h2,h3]
 ·rename_i h1
  have h3:=h1
  rw [cmpI_zero] at h3
  simp [h1,h3]
theorem drossref01_Compare.spec {v w:api_Value} (hn:v.Str.toList.length<Big):drossref01_Compare.C v w (cmpV v w):=by
 obtain ⟨r,h1,h2⟩:=drossref01_Compare.enter v w (fun r=>r=cmpV v w) (by
  refine ⟨_,drossref01_sign.spec,?_⟩
  unfold cmpV
  split
  ·refine ⟨_,drossref01_sign.spec,?_⟩
   split
   ·exact ⟨_,drossref01_strings.spec hn,rfl⟩
   ·rfl
  ·rfl)
 rw [← h1];exact h2
def StrOK (l:List api_Value):Prop:=l.length<Big∧∀ v∈l,v.Str.toList.length<Big
def cmpVs:List api_Value→List api_Value→Int
 | [],[]=>0
 | [],_::_=>-1
 | _::_,[]=>1
 | a::r,b::s=>if cmpV a b=0 then cmpVs r s else cmpV a b
theorem cmpVs_zero:∀ {a b:List api_Value},cmpVs a b=0↔a=b
 | [],[]=>by simp [cmpVs]
 | [],_::_=>by simp [cmpVs]
 | _::_,[]=>by simp [cmpVs]
 | a::r,b::s=>by
  simp only [cmpVs]
  split
  ·rename_i h;rw [cmpVs_zero];rw [cmpV_zero] at h;simp [h]
  ·rename_i h
   have h2:=h
   rw [cmpV_zero] at h2
   simp [h,h2]
theorem cmpVs_len:∀ {a b:List api_Value},(a=[]∨b=[])→cmpI a.length b.length=cmpVs a b
 | [],[],_=>rfl
 | [],_::r,_=>by
  simp only [cmpVs,cmpI,List.length_cons,List.length_nil]
  rw [if_pos (by omega)]
 | _::r,[],_=>by
  simp only [cmpVs,cmpI,List.length_cons,List.length_nil]
  rw [if_neg (by omega),if_pos (by omega)]
 | _::_,_::_,h=>by simp at h
namespace drossref01_Lists
theorem loop {a b:List api_Value} {φ:Int→Prop} (hn:StrOK a):∀ (r s:List api_Value) (k:Nat),a.drop k=r→b.drop k=s→k≤a.length→k≤b.length→φ (cmpVs r s)→L1 a b k φ:=by
 have fin:∀ (r s:List api_Value) (k:Nat),a.drop k=r→b.drop k=s→k≤a.length→k≤b.length→(r=[]∨s=[])→φ (cmpVs r s)→L2 a b φ:=by
  intro r s k hr hs hk hk2 h0 h
  apply L2_step
  refine ⟨_,drossref01_sign.spec,?_⟩
  have e:cmpI a.length b.length=cmpI r.length s.length:=by
   rw [← hr,← hs,List.length_drop,List.length_drop]
   unfold cmpI
   repeat' split
   all_goals omega
  rw [e,cmpVs_len h0];exact h
 intro r
 induction r with
 | nil=>
  intro s k hr hs hk hk2 h
  apply L1_step
  have:=drop_ge hr
  rw [if_neg (by omega)]
  exact fin _ _ k hr hs hk hk2 (.inl rfl) h
 | cons x r ih=>
  intro s k hr hs hk hk2 h
  apply L1_step
  have hlt:=drop_lt hr
  rw [if_pos (by omega)]
  match s,hs,h with
  | [],hs,h=>
   have:=drop_ge hs
   rw [if_neg (by omega)]
   exact fin _ _ k hr hs hk hk2 (.inr rfl) h
  | y::s,hs,h=>
   have hlt2:=drop_lt hs
   rw [if_pos (by omega)]
   refine ⟨x,lget_drop hr,y,lget_drop hs,_,drossref01_Compare.spec (hn.2 x (List.mem_of_getElem? (drop_get hr))),?_⟩
   simp only [cmpVs] at h
   split
   ·rename_i he
    rw [if_pos he] at h
    rw [wrap_succ (by have:=hn.1;unfold Big at this;omega)]
    exact ih s (k+1) (drop_next hr) (drop_next hs) hlt hlt2 h
   ·rename_i he
    rw [if_neg he] at h
    exact h
theorem spec {a b:List api_Value} (hn:StrOK a):C a b (cmpVs a b):=by
 obtain ⟨r,h1,h2⟩:=enter a b (fun r=>r=cmpVs a b) (loop hn a b 0 rfl rfl (by omega) (by omega) rfl)
 rw [← h1];exact h2
end drossref01_Lists
theorem drossref01_Same.spec {a b:List api_Value} (hn:StrOK a):drossref01_Same.C a b (decide (a=b)):=by
 obtain ⟨r,h1,h2⟩:=drossref01_Same.enter a b (fun r=>r=decide (a=b)) ⟨_,drossref01_Lists.spec hn,by
  by_cases h:a=b
  ·simp [h,cmpVs_zero.2 rfl]
  ·have:cmpVs a b≠0:=fun hh=>h (cmpVs_zero.1 hh)
   simp [h,this]⟩
 rw [← h1];exact h2
def be:Nat→Nat→List Int
 | 0,_=>[]
 | j+1,u=>((u / 2^(8*j) % 256:Nat):Int)::be j u
theorem be_len:∀ {j u},(be j u).length=j
 | 0,_=>rfl
 | j+1,u=>by simp [be,be_len]
theorem be_range:∀ {j u},∀ x∈be j u,0≤x∧x<256
 | 0,_,_,h=>by simp [be] at h
 | j+1,u,x,h=>by
  simp only [be,List.mem_cons] at h
  rcases h with rfl | h
  ·omega
  ·exact be_range x h
theorem be_inj:∀ {j u v},be j u=be j v→u % 2^(8*j)=v % 2^(8*j)
 | 0,u,v,_=>by simp [Nat.mod_one]
 | j+1,u,v,h=>by
  simp only [be,List.cons.injEq] at h
  have ih:=be_inj h.2
  have e:2^(8*(j+1))=2^(8*j)*256:=by rw [Nat.mul_add,Nat.pow_add]
  rw [e,Nat.mod_mul,Nat.mod_mul,ih]
  have:u / 2^(8*j) % 256=v / 2^(8*j) % 256:=by omega
  rw [this]
def flip63 (n:Int):Nat:=(n % 18446744073709551616).toNat ^^^ 9223372036854775808
theorem flip63_lt {n:Int}:flip63 n<2^64:=Nat.xor_lt_two_pow (by omega) (by decide)
theorem flip63_inj {m n:Int} (hm : -9223372036854775808≤m∧m<9223372036854775808) (hn : -9223372036854775808≤n∧n<9223372036854775808) (h:flip63 m=flip63 n):m=n:=by
 unfold flip63 at h
 have h2:(m % 18446744073709551616).toNat=(n % 18446744073709551616).toNat:=by
  have:=congrArg (· ^^^ 9223372036854775808) h
  simpa [Nat.xor_assoc] using this
 omega
namespace value_number
theorem loop {φ:List Int→Prop} {u:Nat} (hu:u<2^64):∀ (j:Nat) (acc:List Int),j≤8→acc.length+j≤1000→φ (acc++be j u)→L1 acc u (8*(j:Int)-8) φ
 | 0,acc,hj,hl,h=>by
  apply L1_step
  rw [if_neg (by omega)]
  simpa [be] using h
 | j+1,acc,hj,hl,h=>by
  apply L1_step
  rw [if_pos (by omega)]
  refine ⟨by omega,by omega,?_⟩
  have e1:8*((j+1:Nat):Int)-8=((8*j:Nat):Int):=by omega
  rw [e1,shrw_nat (k:=.u64) (by simpa [top] using hu),IntKind.wrap_u8,wrap_id (by omega) (by omega)]
  have e2:((8*j:Nat):Int)-8=8*(j:Int)-8:=by omega
  rw [e2]
  refine loop hu j _ (by omega) (by simp;omega) ?_
  have e3:((u / 2^(8*j):Nat):Int) % 256=((u / 2^(8*j) % 256:Nat):Int):=by omega
  rw [e3]
  simpa [be] using h
theorem spec {n:Int} {acc:List Int} (hl:acc.length≤900):C n acc (acc++be 8 (flip63 n)):=by
 obtain ⟨r,h1,h2⟩:=enter n acc (fun r=>r=acc++be 8 (flip63 n)) (by
  have e:bXor .u64 (IntKind.wrap .u64 n) 9223372036854775808=(flip63 n:Int):=by
   have e1:IntKind.wrap .u64 n=(((n % 18446744073709551616).toNat:Nat):Int):=by
    simp only [IntKind.wrap,IntKind.bits,IntKind.signed];simp;omega
   rw [e1]
   exact bXor_nat (k:=.u64) (b:=9223372036854775808) (by simp only [top];omega) (by simp only [top];omega)
  rw [e]
  exact loop flip63_lt 8 acc (by omega) (by omega) rfl)
 rw [← h1];exact h2
end value_number
def esc:List UInt8→List Int
 | []=>[]
 | b::r=>if u8i b=0 then 0::255::esc r else u8i b::esc r
theorem esc_snoc {l:List UInt8} {b:UInt8}:esc (l++[b])=esc l++esc [b]:=by
 induction l with
 | nil=>rfl
 | cons a l ih=>simp only [List.cons_append,esc,ih];split<;>rfl
theorem esc_range:∀ {l:List UInt8},∀ x∈esc l,0≤x∧x<256
 | [],x,h=>by simp [esc] at h
 | b::r,x,h=>by
  simp only [esc] at h
  split at h
  ·simp only [List.mem_cons] at h
   rcases h with rfl | rfl | h
   ·omega
   ·omega
   ·exact esc_range x h
  ·simp only [List.mem_cons] at h
   rcases h with rfl | h
   ·exact u8i_lt
   ·exact esc_range x h
theorem esc_len:∀ {l:List UInt8},(esc l).length≤2*l.length
 | []=>by simp [esc]
 | b::r=>by
  have:=esc_len (l:=r)
  simp only [esc]
  split<;>simp only [List.length_cons]<;>omega
theorem esc_inj:∀ {a b:List UInt8} {r s:List Int},esc a++(0::1::r)=esc b++(0::1::s)→a=b∧r=s
 | [],[],r,s,h=>by simpa [esc] using h
 | [],y::b,r,s,h=>by
  simp only [esc] at h
  split at h
  ·simp at h
  ·rename_i hy
   simp only [List.nil_append,List.cons_append,List.cons.injEq] at h
   exact absurd h.1.symm hy
 | x::a,[],r,s,h=>by
  simp only [esc] at h
  split at h
  ·simp at h
  ·rename_i hx
   simp only [List.nil_append,List.cons_append,List.cons.injEq] at h
   exact absurd h.1 hx
 | x::a,y::b,r,s,h=>by
  simp only [esc] at h
  split at h
  ·rename_i hx
   split at h
   ·rename_i hy
    simp only [List.cons_append,List.cons.injEq,true_and] at h
    obtain ⟨h1,h2⟩:=esc_inj h
    exact ⟨by rw [h1,u8i_inj.1 (hx.trans hy.symm)],h2⟩
   ·rename_i hy
    simp only [List.cons_append,List.cons.injEq] at h
    exact absurd h.1.symm hy
  ·rename_i hx
   split at h
   ·rename_i hy
    simp only [List.cons_append,List.cons.injEq] at h
    exact absurd h.1 hx
   ·rename_i hy
    simp only [List.cons_append,List.cons.injEq] at h
    obtain ⟨h1,h2⟩:=esc_inj h.2
    exact ⟨by rw [h1,u8i_inj.1 h.1],h2⟩
def keyJ (v:api_Value):List Int:=v.Kind::(if v.Kind=1∨v.Kind=3 then be 8 (flip63 v.Num) else if v.Kind=2 then esc v.Str.toList++[0,1] else [])
def NumOK (v:api_Value):Prop:=-9223372036854775808≤v.Num∧v.Num<9223372036854775808
theorem validV_cases {v:api_Value} (h:validV v=true):v.Kind=0∧v.Num=0∧v.Str.toList=[]∨v.Kind=1∧v.Str.toList=[]∨v.Kind=2∧v.Num=0∧v.Str.toList.length≤200∨v.Kind=3∧1≤v.Num∧v.Str.toList=[]:=by
 simpa [validV] using h
theorem keyI_range {v:api_Value} (h:validV v=true):∀ x∈keyJ v,0≤x∧x<256:=by
 intro x hx
 have hk:0≤v.Kind∧v.Kind≤3:=by rcases validV_cases h with h | h | h | h<;>omega
 simp only [keyJ,List.mem_cons] at hx
 rcases hx with rfl | hx
 ·omega
 ·split at hx
  ·exact be_range x hx
  ·split at hx
   ·rcases List.mem_append.1 hx with hx | hx
    ·exact esc_range x hx
    ·simp at hx;rcases hx with rfl | rfl<;>omega
   ·simp at hx
theorem keyI_len {v:api_Value} (h:validV v=true):(keyJ v).length≤403:=by
 simp only [keyJ,List.length_cons]
 split
 ·rw [be_len];omega
 ·split
  ·have:=esc_len (l:=v.Str.toList)
   have:v.Str.toList.length≤200:=by
    rcases validV_cases h with h | h | h | h
    ·rw [h.2.2];simp
    ·rw [h.2];simp
    ·exact h.2.2
    ·rw [h.2.2];simp
   simp;omega
  ·simp
theorem keyI_inj {v w:api_Value} {r s:List Int} (hv:validV v=true) (hw:validV w=true) (nv:NumOK v) (nw:NumOK w) (h:keyJ v++r=keyJ w++s):v=w∧r=s:=by
 obtain ⟨k,n,t⟩:=v
 obtain ⟨k',n',t'⟩:=w
 simp only [keyJ,List.cons_append,List.cons.injEq] at h
 obtain ⟨rfl,h⟩:=h
 have hv:=validV_cases hv
 have hw:=validV_cases hw
 simp only at hv hw
 simp only [api_Value.mk.injEq,true_and]
 by_cases h1:k=1∨k=3
 ·rw [if_pos h1,if_pos h1] at h
  have h3:=List.append_inj h (by rw [be_len,be_len])
  have h2:=be_inj h3.1
  rw [Nat.mod_eq_of_lt flip63_lt,Nat.mod_eq_of_lt flip63_lt] at h2
  have e:=flip63_inj nv nw h2
  simp only at e
  refine ⟨⟨e,?_⟩,h3.2⟩
  rw [← bl_inj]
  have a1:t.toList=[]:=by rcases hv with h | h | h | h<;>first | exact h.2.2 | exact h.2 | omega
  have a2:t'.toList=[]:=by rcases hw with h | h | h | h<;>first | exact h.2.2 | exact h.2 | omega
  rw [a1,a2]
 ·rw [if_neg h1,if_neg h1] at h
  by_cases h2:k=2
  ·rw [if_pos h2,if_pos h2,List.append_assoc,List.append_assoc] at h
   obtain ⟨e1,e2⟩:=esc_inj h
   rw [bl_inj] at e1
   exact ⟨⟨by omega,e1⟩,e2⟩
  ·rw [if_neg h2,if_neg h2] at h
   have a1:t.toList=[]:=by rcases hv with h | h | h | h<;>first | exact h.2.2 | exact h.2 | omega
   have a2:t'.toList=[]:=by rcases hw with h | h | h | h<;>first | exact h.2.2 | exact h.2 | omega
   exact ⟨⟨by omega,by rw [← bl_inj,a1,a2]⟩,by simpa using h⟩
def keyW (v:api_Value):ByteArray:=bstrI (keyJ v)
namespace value_Key
theorem loop {v:api_Value} {φ:ByteArray×Int→Prop} (hk:v.Kind=2) (hs:v.Str.toList.length≤200) (h:φ (keyW v,0)):∀ (r:List UInt8) (k:Nat),v.Str.toList.drop k=r→k≤v.Str.toList.length→L1 v (2::esc (v.Str.toList.take k)) k φ:=by
 intro r
 induction r with
 | nil=>
  intro k hd hk2
  apply L1_step
  have:=drop_ge hd
  rw [bsize_eq,if_neg (by omega),List.take_of_length_le this]
  have hl:=esc_len (l:=v.Str.toList)
  have e:keyJ v=(2::esc v.Str.toList)++[0,1]:=by simp [keyJ,hk]
  refine ⟨by simp only [List.length_cons];omega,fun x hx=>?_,?_⟩
  ·rcases List.mem_append.1 hx with hx | hx
   ·rcases List.mem_cons.1 hx with rfl | hx
    ·omega
    ·exact esc_range x hx
   ·simp at hx;rcases hx with rfl | rfl<;>omega
  ·rw [← e];exact h
 | cons b r ih=>
  intro k hd hk2
  have hlt:=drop_lt hd
  apply L1_step
  rw [bsize_eq,if_pos (by omega)]
  have hl:=esc_len (l:=v.Str.toList.take k)
  rw [List.length_take] at hl
  refine ⟨b,bget_of (drop_get hd),by simp only [List.length_cons];omega,b,bget_of (drop_get hd),?_⟩
  have ih:=ih (k+1) (drop_next hd) hlt
  have e:v.Str.toList.take (k+1)=v.Str.toList.take k++[b]:=by rw [List.take_add_one,drop_get hd];rfl
  rw [e,esc_snoc] at ih
  have next:∀ l,l=2::(esc (v.Str.toList.take k)++esc [b])→L4 v l k φ:=by
   rintro _ rfl
   apply L4_step
   rw [wrap_succ (by omega)]
   exact ih
  split
  ·rename_i h0
   refine ⟨by simp only [List.length_append,List.length_cons,List.length_nil];omega,next _ ?_⟩
   simp [esc,h0]
  ·rename_i h0
   exact next _ (by simp [esc,h0])
theorem spec {v:api_Value} (hv:validV v=true):C v (keyW v,0):=by
 obtain ⟨r,h1,h2⟩:=enter v (fun r=>r=(keyW v,0)) (by
  refine ⟨_,value_Valid.spec,?_⟩
  rw [if_pos hv]
  have hc:=validV_cases hv
  have hk:0≤v.Kind∧v.Kind≤3:=by rcases hc with h | h | h | h<;>omega
  have ek:IntKind.wrap .u8 v.Kind=v.Kind:=by rw [IntKind.wrap_u8];omega
  have two:∀ b,(v.Kind=1∨v.Kind=3)→L2 v b fun r=>r=(keyW v,0):=by
   intro b hb
   apply L2_step
   rw [ek]
   have e:keyJ v=[v.Kind]++be 8 (flip63 v.Num):=by simp [keyJ,hb]
   refine ⟨_,value_number.spec (by simp),?_,?_⟩
   ·rw [← e];exact keyI_range hv
   ·rw [← e];rfl
  have three:¬ (v.Kind=1∨v.Kind=3)→L3 v fun r=>r=(keyW v,0):=by
   intro hb
   apply L3_step
   rw [ek]
   split
   ·rename_i h2
    have hs:v.Str.toList.length≤200:=by
     rcases hc with h | h | h | h
     ·omega
     ·omega
     ·exact h.2.2
     ·omega
    have:=loop (φ:=fun r=>r=(keyW v,0)) h2 hs rfl v.Str.toList 0 rfl (by omega)
    rw [h2]
    simpa [esc] using this
   ·rename_i h2
    refine ⟨fun x hx=>by simp at hx;omega,?_⟩
    simp [keyW,keyJ,hb,h2]
  split
  ·rename_i h1;exact two _ (.inl h1)
  ·rename_i h1
   split
   ·rename_i h3;exact two _ (.inr h3)
   ·rename_i h3;exact three (by omega))
 rw [← h1];exact h2
end value_Key
def b8 (x:Int):UInt8:=UInt8.ofNat x.toNat
theorem b8_inj {x y:Int} (hx:0≤x∧x<256) (hy:0≤y∧y<256) (h:b8 x=b8 y):x=y:=by
 unfold b8 at h
 have:=congrArg UInt8.toNat h
 simp at this
 omega
theorem map_b8_inj:∀ {l m:List Int},(∀ x∈l,0≤x∧x<256)→(∀ x∈m,0≤x∧x<256)→l.map b8=m.map b8→l=m
 | [],[],_,_,_=>rfl
 | [],_::_,_,_,h=>by simp at h
 | _::_,[],_,_,h=>by simp at h
 | x::l,y::m,h1,h2,h=>by
  simp only [List.map_cons,List.cons.injEq] at h
  rw [b8_inj (h1 x (by simp)) (h2 y (by simp)) h.1,map_b8_inj (fun z hz=>h1 z (by simp [hz])) (fun z hz=>h2 z (by simp [hz])) h.2]
theorem keyS_list {v:api_Value}:(keyW v).data.toList=(keyJ v).map b8:=by
 unfold keyW bstrI b8;simp
theorem keyS_size {v:api_Value}:(keyW v).size=(keyJ v).length:=by
 have:(keyW v).size=(keyW v).data.toList.length:=rfl
 rw [this,keyS_list,List.length_map]
def keysI (l:List api_Value):List Int:=l.flatMap keyJ
theorem keysI_range {l:List api_Value} (h:∀ v∈l,validV v=true):∀ x∈keysI l,0≤x∧x<256:=by
 intro x hx
 obtain ⟨v,hv,hx⟩:=List.mem_flatMap.1 hx
 exact keyI_range (h v hv) x hx
theorem keysI_inj:∀ {l m:List api_Value},l.length=m.length→(∀ v∈l,validV v=true∧NumOK v)→(∀ v∈m,validV v=true∧NumOK v)→keysI l=keysI m→l=m
 | [],[],_,_,_,_=>rfl
 | [],_::_,h,_,_,_=>by simp at h
 | _::_,[],h,_,_,_=>by simp at h
 | v::l,w::m,hl,h1,h2,h=>by
  simp only [keysI,List.flatMap_cons] at h
  have a:=h1 v (by simp);have b:=h2 w (by simp)
  obtain ⟨e1,e2⟩:=keyI_inj a.1 b.1 a.2 b.2 h
  rw [e1,keysI_inj (by simpa using hl) (fun z hz=>h1 z (by simp [hz])) (fun z hz=>h2 z (by simp [hz])) e2]
def keysW (l:List api_Value):ByteArray:=bstr ((keysI l).map b8)
theorem keysS_inj {l m:List api_Value} (hl:l.length=m.length) (h1:∀ v∈l,validV v=true∧NumOK v) (h2:∀ v∈m,validV v=true∧NumOK v):keysW l=keysW m↔l=m:=by
 constructor
 ·intro h
  have h3:(keysI l).map b8=(keysI m).map b8:=by
   have:=congrArg ByteArray.toList h
   unfold keysW at this
   rwa [bl_bstr,bl_bstr] at this
  exact keysI_inj hl h1 h2 (map_b8_inj (keysI_range fun v hv=>(h1 v hv).1) (keysI_range fun v hv=>(h2 v hv).1) h3)
 ·rintro rfl;rfl
end Go.Own
namespace Go.Own
def pick (l:List api_Value) (n:Nat):List api_Value:=(bitsOf n).filterMap fun i=>l[i]?
theorem fm_congr {α β:Type} {f g:α→Option β}:∀ {l:List α},(∀ a∈l,f a=g a)→l.filterMap f=l.filterMap g
 | [],_=>rfl
 | a::l,h=>by
  have ih:=fm_congr (l:=l) fun b hb=>h b (by simp [hb])
  simp only [List.filterMap_cons,h a (by simp),ih]
theorem bits_upto {n k:Nat} (hn:n<2^32):(bitsOf n).filter (fun i=>decide (i<k+1))=(bitsOf n).filter (fun i=>decide (i<k))++if n.testBit k=true then [k] else []:=by
 refine sorted_ext (bitsOf_sorted.filter _) ?_ fun x=>?_
 ·rw [List.pairwise_append]
  refine ⟨bitsOf_sorted.filter _,by split<;>simp,fun a ha b hb=>?_⟩
  have ha:=(List.mem_filter.1 ha).2
  split at hb
  ·simp at hb ha;omega
  ·simp at hb
 ·simp only [List.mem_filter,List.mem_append,decide_eq_true_eq]
  split
  ·rename_i h
   rw [List.mem_singleton]
   constructor
   ·rintro ⟨h1,h2⟩
    by_cases hx:x<k
    ·exact .inl ⟨h1,hx⟩
    ·exact .inr (by omega)
   ·rintro (⟨h1,h2⟩ | rfl)
    ·exact ⟨h1,by omega⟩
    ·exact ⟨(bitsOf_mem hn).2 h,by omega⟩
  ·rename_i h
   constructor
   ·rintro ⟨h1,h2⟩
    have:x≠k:=fun e=>h (e ▸ (bitsOf_mem hn).1 h1)
    exact .inl ⟨h1,by omega⟩
   ·rintro (⟨h1,h2⟩ | h1)
    ·exact ⟨h1,by omega⟩
    ·simp at h1
namespace drossref03_Values
theorem spec {r:api_Row} {n:Nat} (hn:n<2^32) (hr:r.Values.length≤1000):C r n (pick r.Values n):=by
 obtain ⟨q,h1,h2⟩:=enter r n (fun q=>q=pick r.Values n) (by
  have loop:∀ k,k≤r.Values.length→L1 r n (((bitsOf n).filter fun i=>decide (i<k)).filterMap fun i=>r.Values[i]?) k fun q=>q=pick r.Values n:=by
   refine down ?_ ?_
   ·apply L1_step
    rw [if_neg (by omega)]
    unfold pick
    rw [List.filterMap_filter]
    refine fm_congr fun i hi=>?_
    by_cases h:i<r.Values.length
    ·simp [h]
    ·simp [h]
   ·intro k hk h
    apply L1_step
    rw [if_pos (by omega)]
    have hget:=List.getElem?_eq_getElem hk
    have hlen:(((bitsOf n).filter fun i=>decide (i<k)).filterMap fun i=>r.Values[i]?).length≤32:=
     Nat.le_trans (List.length_filterMap_le _ _) (Nat.le_trans (List.length_filter_le _ _) bitsOf_len)
    rw [bits_upto hn,List.filterMap_append] at h
    refine ⟨_,drossref02_Has.spec hn,?_⟩
    have next:∀ l,l=(((bitsOf n).filter fun i=>decide (i<k)).filterMap fun i=>r.Values[i]?)++((if n.testBit k=true then [k] else []).filterMap fun i=>r.Values[i]?)→L2 r n l k fun q=>q=pick r.Values n:=by
     rintro _ rfl
     apply L2_step
     rw [wrap_succ (by omega)]
     exact h
    split
    ·rename_i hb
     exact ⟨r.Values[k],lget_of hget,by omega,next _ (by simp [hb,hget])⟩
    ·rename_i hb
     exact next _ (by simp [hb])
  have:=loop 0 (Nat.zero_le _)
  have e:(bitsOf n).filter (fun i=>decide (i<0))=[]:=by rw [List.filter_eq_nil_iff];simp
  rw [e] at this
  exact this)
 rw [← h1];exact h2
end drossref03_Values
def agreeF (a b:List api_Value) (n:Nat):Bool:=decide (pick a n=pick b n)
theorem fm_eq {a b:List api_Value} (hl:a.length=b.length):∀ {l:List Nat},(l.filterMap fun i=>a[i]?)=(l.filterMap fun i=>b[i]?)↔∀ i∈l,a[i]? = b[i]?
 | []=>by simp
 | k::l=>by
  have ih:=fm_eq (a:=a) (b:=b) hl (l:=l)
  by_cases h:k<a.length
  ·have e1:=List.getElem?_eq_getElem h
   have e2:=List.getElem?_eq_getElem (l:=b) (i:=k) (by omega)
   simp only [List.filterMap_cons,e1,e2,List.cons.injEq,ih,List.forall_mem_cons,Option.some.injEq]
  ·have e1:a[k]? = none:=List.getElem?_eq_none (by omega)
   have e2:b[k]? = none:=List.getElem?_eq_none (by omega)
   simp only [List.filterMap_cons,e1,e2,ih,List.forall_mem_cons,true_and]
theorem agree_iff {a b:List api_Value} {n:Nat} (hn:n<2^32) (hl:a.length=b.length):agreeF a b n=true↔∀ i,n.testBit i=true→a[i]? = b[i]?:=by
 unfold agreeF pick
 rw [decide_eq_true_iff,fm_eq hl]
 constructor
 ·exact fun h i hi=>h i ((bitsOf_mem hn).2 hi)
 ·exact fun h i hi=>h i ((bitsOf_mem hn).1 hi)
theorem pick_sub {l:List api_Value} {n:Nat}:∀ v∈pick l n,v∈l:=by
 intro v hv
 obtain ⟨i,_,hi⟩:=List.mem_filterMap.1 hv
 exact List.mem_of_getElem? hi
theorem pick_len {l:List api_Value} {n:Nat}:(pick l n).length≤32:=Nat.le_trans (List.length_filterMap_le _ _) bitsOf_len
theorem drossref03_Agree.spec {a b:api_Row} {n:Nat} (hn:n<2^32) (ha:a.Values.length≤1000) (hb:b.Values.length≤1000) (hs:∀ v∈a.Values,v.Str.toList.length<Big):drossref03_Agree.C a b n (agreeF a.Values b.Values n):=by
 obtain ⟨q,h1,h2⟩:=drossref03_Agree.enter a b n (fun q=>q=agreeF a.Values b.Values n)
  ⟨_,drossref03_Values.spec hn ha,_,drossref03_Values.spec hn hb,_,drossref01_Same.spec ⟨by have:=pick_len (l:=a.Values) (n:=n);unfold Big;omega,fun v hv=>hs v (pick_sub v hv)⟩,rfl⟩
 rw [← h1];exact h2
structure TV (t:api_Table):Prop where
 name:nameF t.Name=true
 na:t.Attrs.length≤16
 nr:t.Rows.length≤1000
 names:namesF t.Attrs=true
 rows:rowsF t.Attrs.length 0 t.Rows=0
theorem tableF_iff {t:api_Table}:tableF t=0↔TV t:=by
 unfold tableF
 constructor
 ·intro h
  split at h
  ·split at h
   ·cases h
   ·split at h
    ·cases h
    ·split at h
     ·rename_i h1 h2 h3 h4
      exact ⟨h1,by omega,by omega,h4,h⟩
     ·cases h
  ·cases h
 ·intro h
  rw [if_pos h.name,if_neg (by have:=h.na;omega),if_neg (by have:=h.nr;omega),if_pos h.names]
  exact h.rows
theorem rowsF_row {n:Nat}:∀ {l:List api_Row} {last:Int},rowsF n last l=0→∀ r∈l,r.Values.length=n∧(∀ v∈r.Values,validV v=true)∧last<r.ID
 | [],_,_,r,hr=>by cases hr
 | a::l,last,h,r,hr=>by
  simp only [rowsF] at h
  split at h
  ·cases h
  ·split at h
   ·split at h
    ·rename_i h1 h2 h3
     unfold validsF at h3
     rw [List.all_eq_true] at h3
     rcases List.mem_cons.1 hr with rfl | hr
     ·exact ⟨h2,h3,by omega⟩
     ·obtain ⟨e1,e2,e3⟩:=rowsF_row h r hr
      exact ⟨e1,e2,by omega⟩
    ·cases h
   ·cases h
theorem TV.len {t:api_Table} (h:TV t) {r:api_Row} (hr:r∈t.Rows):r.Values.length=t.Attrs.length:=(rowsF_row h.rows r hr).1
theorem TV.val {t:api_Table} (h:TV t) {r:api_Row} (hr:r∈t.Rows):∀ v∈r.Values,validV v=true:=(rowsF_row h.rows r hr).2.1
theorem valid_str {v:api_Value} (h:validV v=true):v.Str.toList.length≤200:=by
 rcases validV_cases h with h | h | h | h
 ·rw [h.2.2];simp
 ·rw [h.2];simp
 ·exact h.2.2
 ·rw [h.2.2];simp
def TNum (t:api_Table):Prop:=∀ r∈t.Rows,∀ v∈r.Values,NumOK v
end Go.Own
namespace Go.Own
theorem cmpB_eq:∀ {a b:List UInt8},Lib.compareBytes a b=cmpL a b
 | [],[]=>rfl
 | [],_::_=>rfl
 | _::_,[]=>rfl
 | a::r,b::s=>by
  rw [Lib.compareBytes,cmpL,cmpB_eq (a:=r) (b:=s)]
  have lt:∀ {x y:UInt8},x<y↔u8i x<u8i y:=fun {x y}=>by
   unfold u8i
   rw [UInt8.lt_iff_toNat_lt];omega
  by_cases h:a=b
  ·subst h
   rw [if_neg (by rw [lt];omega),if_neg (by rw [lt];omega),if_pos rfl]
  ·rw [if_neg h]
   unfold cmpI
   by_cases h1:a<b
   ·rw [if_pos h1,if_pos (lt.1 h1)]
   ·rw [if_neg h1,if_neg (fun hh=>h1 (lt.2 hh))]
    have h2:b<a:=by
     rw [lt] at h1 ⊢
     have:u8i a≠u8i b:=fun hh=>h (u8i_inj.1 hh)
     omega
    rw [if_pos h2,if_pos (lt.1 h2)]
theorem bcmp_eq {a b:ByteArray}:bcmp a b=cmpS a b:=by
 unfold bcmp cmpS
 rw [cmpB_eq,bl_eq,bl_eq]
theorem nan_int {x:Int}:cmp_isNaN_int.C x false:=by
 obtain ⟨r,h1,h2⟩:=cmp_isNaN_int.enter x (fun r=>r=false) (by simp)
 rw [← h1];exact h2
theorem nan_int64 {x:Int}:cmp_isNaN_int64.C x false:=by
 obtain ⟨r,h1,h2⟩:=cmp_isNaN_int64.enter x (fun r=>r=false) (by simp)
 rw [← h1];exact h2
theorem cmpInt_spec {x y:Int}:cmp_Compare_int.C x y (cmpI x y):=by
 obtain ⟨r,h1,h2⟩:=cmp_Compare_int.enter x y (fun r=>r=cmpI x y) ⟨_,nan_int,_,nan_int,by
  rw [if_neg Bool.false_ne_true,if_neg Bool.false_ne_true]
  unfold cmpI
  split
  ·rfl
  ·split<;>rfl⟩
 rw [← h1];exact h2
theorem cmpInt64_spec {x y:Int}:cmp_Compare_int64.C x y (cmpI x y):=by
 obtain ⟨r,h1,h2⟩:=cmp_Compare_int64.enter x y (fun r=>r=cmpI x y) ⟨_,nan_int64,_,nan_int64,by
  rw [if_neg Bool.false_ne_true,if_neg Bool.false_ne_true]
  unfold cmpI
  split
  ·rfl
  ·split<;>rfl⟩
 rw [← h1];exact h2
theorem strings_Compare.spec {a b:ByteArray}:strings_Compare.C a b (cmpS a b):=by
 obtain ⟨q,g1,g2⟩:=internal_bytealg_CompareString.enter a b (fun r=>r=cmpS a b) bcmp_eq
 obtain ⟨r,h1,h2⟩:=strings_Compare.enter a b (fun r=>r=cmpS a b) ⟨_,g2,g1⟩
 rw [← h1];exact h2
theorem cmpOr_three {a b c:Int}:cmp_Or_int.C [a,b,c] (if a=0 then (if b=0 then c else b) else a):=by
 obtain ⟨r,h1,h2⟩:=cmp_Or_int.enter [a,b,c] (fun r=>r=if a=0 then (if b=0 then c else b) else a) (by
  have e0:IntKind.wrap .i64 ((0:Int)+1)=1:=by decide
  have e1:IntKind.wrap .i64 ((1:Int)+1)=2:=by decide
  have e2:IntKind.wrap .i64 ((2:Int)+1)=3:=by decide
  apply cmp_Or_int.L1_step
  rw [if_pos (by simp)]
  refine ⟨a,rfl,?_⟩
  by_cases ha:a=0
  ·rw [if_pos ha,if_pos ha,e0]
   apply cmp_Or_int.L1_step
   rw [if_pos (by simp)]
   refine ⟨b,rfl,?_⟩
   by_cases hb:b=0
   ·rw [if_pos hb,if_pos hb,e1]
    apply cmp_Or_int.L1_step
    rw [if_pos (by simp)]
    refine ⟨c,rfl,?_⟩
    by_cases hc:c=0
    ·rw [if_pos hc,e2]
     apply cmp_Or_int.L1_step
     rw [if_neg (by simp)]
     exact hc.symm
    ·rw [if_neg hc]
   ·rw [if_neg hb,if_neg hb]
  ·rw [if_neg ha,if_neg ha])
 rw [← h1];exact h2
theorem value_Compare.spec {a b:api_Value}:value_Compare.C a b (cmpV a b):=by
 obtain ⟨r,h1,h2⟩:=value_Compare.enter a b (fun r=>r=cmpV a b) ⟨_,cmpInt_spec,_,cmpInt64_spec,_,strings_Compare.spec,_,cmpOr_three,by
  unfold cmpV;rfl⟩
 rw [← h1];exact h2
def cond1 (n:Nat) (c:api_Condition):Int:=if c.Attr<0 then 6 else if (n:Int)≤c.Attr then 6 else if c.Op<1 then 1 else if 4<c.Op then 1 else if validV c.Value=true then 0 else 1
def condE (n:Nat):List api_Condition→Int
 | []=>0
 | c::l=>if cond1 n c=0 then condE n l else cond1 n c
def kindE (n:Nat) (k a:Int):Int:=if k<1 then 1 else if 4<k then 1 else if k=1 then 0 else if a<0 then 6 else if (n:Int)≤a then 6 else 0
theorem cond_step {n:Nat} {c:api_Condition} {φ:Int→Prop} {L:Prop} {V:Bool→Prop} (hV:V (validV c.Value)) (h0:cond1 n c=0→L) (h1:cond1 n c≠0→φ (cond1 n c)) :
  if c.Attr<0 then φ 6 else if (n:Int)≤c.Attr then φ 6 else if c.Op<1 then φ 1 else if 4<c.Op then φ 1 else ∃ r:Bool,V r∧(if r=true then L else φ 1):=by
 unfold cond1 at h0 h1
 split
 ·rename_i h;rw [if_pos h] at h1;exact h1 (by decide)
 ·rename_i a1;rw [if_neg a1] at h0 h1
  split
  ·rename_i h;rw [if_pos h] at h1;exact h1 (by decide)
  ·rename_i a2;rw [if_neg a2] at h0 h1
   split
   ·rename_i h;rw [if_pos h] at h1;exact h1 (by decide)
   ·rename_i a3;rw [if_neg a3] at h0 h1
    split
    ·rename_i h;rw [if_pos h] at h1;exact h1 (by decide)
    ·rename_i a4;rw [if_neg a4] at h0 h1
     refine ⟨_,hV,?_⟩
     split
     ·rename_i h;rw [if_pos h] at h0;exact h0 rfl
     ·rename_i h;rw [if_neg h] at h1;exact h1 (by decide)
theorem aggregate_conditions.spec {t:api_Table} {l:List api_Condition} (hl:l.length≤1000):aggregate_conditions.C t l (condE t.Attrs.length l):=by
 obtain ⟨r,h1,h2⟩:=aggregate_conditions.enter t l (fun r=>r=condE t.Attrs.length l) (by
  have go:∀ (r:List api_Condition) (k:Nat),l.drop k=r→condE t.Attrs.length r=condE t.Attrs.length l→aggregate_conditions.L1 t l (k:Int) (fun r=>r=condE t.Attrs.length l):=by
   intro r
   induction r with
   | nil=>intro k hd h;have:=drop_ge hd;apply aggregate_conditions.L1_step;rw [if_neg (by omega)];exact h
   | cons c r ih=>
    intro k hd h
    have hlt:=drop_lt hd
    apply aggregate_conditions.L1_step
    rw [if_pos (by omega)]
    refine ⟨c,lget_drop hd,cond_step (n:=t.Attrs.length) (c:=c) (φ:=fun r=>r=condE t.Attrs.length l) (L:=aggregate_conditions.L1 t l (IntKind.wrap .i64 ((k:Int)+1)) (fun r=>r=condE t.Attrs.length l)) (V:=fun b=>value_Valid.C c.Value b) value_Valid.spec (fun h0=>?_) fun h0=>?_⟩
    ·rw [wrap_succ (by omega)]
     rw [condE,if_pos h0] at h
     exact ih (k+1) (drop_next hd) h
    ·rw [condE,if_neg h0] at h
     exact h
  exact go l 0 rfl rfl)
 rw [← h1];exact h2
theorem drossref51_Conditions.spec {t:api_Table} {l:List api_Condition} (hl:l.length≤1000):drossref51_Conditions.C t l (condE t.Attrs.length l):=by
 obtain ⟨r,h1,h2⟩:=drossref51_Conditions.enter t l (fun r=>r=condE t.Attrs.length l) (by
  have go:∀ (r:List api_Condition) (k:Nat),l.drop k=r→condE t.Attrs.length r=condE t.Attrs.length l→drossref51_Conditions.L1 t l (k:Int) (fun r=>r=condE t.Attrs.length l):=by
   intro r
   induction r with
   | nil=>intro k hd h;have:=drop_ge hd;apply drossref51_Conditions.L1_step;rw [if_neg (by omega)];exact h
   | cons c r ih=>
    intro k hd h
    have hlt:=drop_lt hd
    apply drossref51_Conditions.L1_step
    rw [if_pos (by omega)]
    refine ⟨c,lget_drop hd,cond_step (n:=t.Attrs.length) (c:=c) (φ:=fun r=>r=condE t.Attrs.length l) (L:=drossref51_Conditions.L1 t l (IntKind.wrap .i64 ((k:Int)+1)) (fun r=>r=condE t.Attrs.length l)) (V:=fun b=>drossref01_Valid.C c.Value b) drossref01_Valid.spec (fun h0=>?_) fun h0=>?_⟩
    ·rw [wrap_succ (by omega)]
     rw [condE,if_pos h0] at h
     exact ih (k+1) (drop_next hd) h
    ·rw [condE,if_neg h0] at h
     exact h
  exact go l 0 rfl rfl)
 rw [← h1];exact h2
theorem kind_step {n:Nat} {k a:Int} {φ:Int→Prop} (h:φ (kindE n k a)):if k<1 then φ 1 else if 4<k then φ 1 else if k=1 then φ 0 else if a<0 then φ 6 else if (n:Int)≤a then φ 6 else φ 0:=by
 unfold kindE at h
 split
 ·rename_i a1;rw [if_pos a1] at h;exact h
 ·rename_i a1;rw [if_neg a1] at h
  split
  ·rename_i a2;rw [if_pos a2] at h;exact h
  ·rename_i a2;rw [if_neg a2] at h
   split
   ·rename_i a3;rw [if_pos a3] at h;exact h
   ·rename_i a3;rw [if_neg a3] at h
    split
    ·rename_i a4;rw [if_pos a4] at h;exact h
    ·rename_i a4;rw [if_neg a4] at h
     split
     ·rename_i a5;rw [if_pos a5] at h;exact h
     ·rename_i a5;rw [if_neg a5] at h;exact h
def zeroV:api_Value:=⟨0,0,(⟨#[]⟩:ByteArray)⟩
def atV (r:api_Row) (i:Int):api_Value:=(lget r.Values i).getD zeroV
def opB (op n:Int):Bool:=if op=2 then n != 0 else if op=3 then decide (n<0) else if op=4 then decide (n≤0) else n == 0
def satF (r:api_Row) (l:List api_Condition):Bool:=l.all fun c=>opB c.Op (cmpV (atV r c.Attr) c.Value)
theorem cond1_ok {n:Nat} {c:api_Condition} (h:cond1 n c=0):0≤c.Attr∧c.Attr<n∧1≤c.Op∧c.Op≤4∧validV c.Value=true:=by
 unfold cond1 at h
 split at h
 ·cases h
 ·split at h
  ·cases h
  ·split at h
   ·cases h
   ·split at h
    ·cases h
    ·split at h
     ·rename_i a1 a2 a3 a4 a5;exact ⟨by omega,by omega,by omega,by omega,a5⟩
     ·cases h
theorem condE_ok {n:Nat}:∀ {l:List api_Condition},condE n l=0→∀ c∈l,cond1 n c=0
 | [],_,c,hc=>by cases hc
 | d::l,h,c,hc=>by
  rw [condE] at h
  by_cases h0:cond1 n d=0
  ·rw [if_pos h0] at h
   rcases List.mem_cons.1 hc with rfl | hc
   ·exact h0
   ·exact condE_ok h c hc
  ·rw [if_neg h0] at h;exact absurd h h0
theorem at_some {r:api_Row} {i:Int} (h0:0≤i) (h:i<r.Values.length):lget r.Values i=some (atV r i):=by
 obtain ⟨a,ha⟩:=lget_lt h0 h
 unfold atV
 rw [ha];rfl
theorem aggregate_satisfies.spec {r:api_Row} {l:List api_Condition} (hl:l.length≤1000) (hc:∀ c∈l,cond1 r.Values.length c=0):aggregate_satisfies.C r l (satF r l):=by
 obtain ⟨q,h1,h2⟩:=aggregate_satisfies.enter r l (fun q=>q=satF r l) (by
  refine all_loop (l:=l) (p:=fun c=>opB c.Op (cmpV (atV r c.Attr) c.Value)) (L:=fun i=>aggregate_satisfies.L1 r l i _) (φ:=fun q=>q=satF r l) ?_ ?_ rfl
  ·intro h;apply aggregate_satisfies.L1_step;rw [if_neg (by omega)];exact h
  ·intro k c hk hlt h
   obtain ⟨c1,c2,c3,c4,c5⟩:=cond1_ok (hc c (List.mem_of_getElem? hk))
   have fin_:aggregate_satisfies.L2 r l (opB c.Op (cmpV (atV r c.Attr) c.Value)) (k:Int) (fun q=>q=satF r l):=by
    apply aggregate_satisfies.L2_step
    rw [wrap_succ (by omega)]
    exact h
   apply aggregate_satisfies.L1_step
   rw [if_pos (by omega)]
   refine ⟨c,lget_of hk,_,at_some c1 c2,_,value_Compare.spec,?_⟩
   unfold opB at fin_
   by_cases o2:c.Op=2
   ·rw [if_pos o2];rw [if_pos o2] at fin_;exact fin_
   ·rw [if_neg o2];rw [if_neg o2] at fin_
    by_cases o3:c.Op=3
    ·rw [if_pos o3];rw [if_pos o3] at fin_;exact fin_
    ·rw [if_neg o3];rw [if_neg o3] at fin_
     by_cases o4:c.Op=4
     ·rw [if_pos o4];rw [if_pos o4] at fin_;exact fin_
     ·rw [if_neg o4];rw [if_neg o4] at fin_;exact fin_)
 rw [← h1];exact h2
theorem drossref51_satisfies.spec {r:api_Row} {l:List api_Condition} (hl:l.length≤1000) (hv:∀ v∈r.Values,validV v=true) (hc:∀ c∈l,cond1 r.Values.length c=0):drossref51_satisfies.C r l (satF r l):=by
 obtain ⟨q,h1,h2⟩:=drossref51_satisfies.enter r l (fun q=>q=satF r l) (by
  refine all_loop (l:=l) (p:=fun c=>opB c.Op (cmpV (atV r c.Attr) c.Value)) (L:=fun i=>drossref51_satisfies.L1 r l i _) (φ:=fun q=>q=satF r l) ?_ ?_ rfl
  ·intro h;apply drossref51_satisfies.L1_step;rw [if_neg (by omega)];exact h
  ·intro k c hk hlt h
   obtain ⟨c1,c2,c3,c4,c5⟩:=cond1_ok (hc c (List.mem_of_getElem? hk))
   have hat:=at_some c1 c2
   have fin_:∀ b:Bool,b=opB c.Op (cmpV (atV r c.Attr) c.Value)→drossref51_satisfies.L2 r l (k:Int) b (fun q=>q=satF r l):=fun b hb=>by
    apply drossref51_satisfies.L2_step
    rw [wrap_succ (by omega),hb]
    exact h
   apply drossref51_satisfies.L1_step
   rw [if_pos (by omega)]
   refine ⟨c,lget_of hk,_,hat,_,drossref01_Compare.spec (by have:=valid_str (hv _ (List.mem_of_getElem? (lget_some hat).2));unfold Big;omega),?_⟩
   generalize cmpV (atV r c.Attr) c.Value=n at fin_
   have ho:c.Op=1∨c.Op=2∨c.Op=3∨c.Op=4:=by omega
   have n1:¬ (1:Int)=2:=by decide
   have n2:¬ (1:Int)=3:=by decide
   have n3:¬ (1:Int)=4:=by decide
   have n4:¬ (2:Int)=1:=by decide
   have n5:¬ (2:Int)=3:=by decide
   have n6:¬ (2:Int)=4:=by decide
   have n7:¬ (3:Int)=1:=by decide
   have n8:¬ (3:Int)=2:=by decide
   have n9:¬ (3:Int)=4:=by decide
   have n10:¬ (4:Int)=1:=by decide
   have n11:¬ (4:Int)=2:=by decide
   have n12:¬ (4:Int)=3:=by decide
   rcases ho with ho | ho | ho | ho<;>rw [ho] at fin_ ⊢<;>unfold opB at fin_<;>simp only [if_true,n1,n2,n3,n4,n5,n6,n7,n8,n9,n10,n11,n12,if_false] at fin_ ⊢
   ·by_cases h0:n=0
    ·rw [if_pos h0];exact fin_ true (by simp [h0])
    ·rw [if_neg h0];exact fin_ false (by simp [h0])
   ·by_cases h0:n=0
    ·rw [if_pos h0];exact fin_ false (by simp [h0])
    ·rw [if_neg h0];exact fin_ true (by simp [h0])
   ·by_cases h0:n<0
    ·rw [if_pos h0];exact fin_ true (by simp [h0])
    ·rw [if_neg h0];exact fin_ false (by simp [h0])
   ·exact fin_ _ rfl)
 rw [← h1];exact h2
end Go.Own
namespace Go.Own
theorem mgm {κ ν:Type} [DecidableEq κ] {k k':κ} {v:ν}:∀ {l:List (κ×ν)},mget k' (mset k v l)=if k=k' then some v else mget k' l
 | []=>by
  simp only [mset,mget]
  by_cases h:k'=k
  ·rw [if_pos h,if_pos h.symm]
  ·rw [if_neg h,if_neg (fun hh=>h hh.symm)]
 | (q,w)::l=>by
  simp only [mset]
  by_cases h:k=q
  ·rw [if_pos h]
   simp only [mget]
   by_cases h2:k'=q
   ·rw [if_pos h2,if_pos (h.trans h2.symm)]
   ·rw [if_neg h2,if_neg (fun hh=>h2 (hh.symm.trans h)),if_neg h2]
  ·rw [if_neg h]
   simp only [mget]
   by_cases h2:k'=q
   ·rw [if_pos h2,if_neg (fun hh=>h (hh.trans h2)),if_pos h2]
   ·rw [if_neg h2,if_neg h2];exact mgm
def numV (x:Int):api_Value:=⟨1,x,⟨#[]⟩⟩
def textB:List api_Value→Nat→Nat→List UInt8
 | [],_,_=>[]
 | v::r,s,k=>(if s.testBit k=true then (keyW v).data.toList else [])++textB r s (k+1)
theorem aggregate_text.spec {r:api_Row} {s:Nat} (hs:s<2^32) (hv:∀ v∈r.Values,validV v=true∧(keyW v).size≤1000) (hl:r.Values.length≤1000):aggregate_text.C r s (bstr (textB r.Values s 0)):=by
 obtain ⟨q,h1,h2⟩:=aggregate_text.enter r s (fun q=>q=bstr (textB r.Values s 0)) (by
  have go:∀ (l:List api_Value) (k:Nat) (acc:List UInt8),r.Values.drop k=l→acc.length≤1000*k→acc++textB l s k=textB r.Values s 0→aggregate_text.L1 r s acc (k:Int) (fun q=>q=bstr (textB r.Values s 0)):=by
   intro l
   induction l with
   | nil=>
    intro k acc hd hk h
    have:=drop_ge hd
    apply aggregate_text.L1_step
    rw [if_neg (by omega)]
    have h:acc=textB r.Values s 0:=by simpa [textB] using h
    rw [h]
   | cons v l ih=>
    intro k acc hd hk h
    have hlt:=drop_lt hd
    obtain ⟨hv1,hv2⟩:=hv v (List.mem_of_getElem? (drop_get hd))
    have hsz:(keyW v).data.toList.length=(keyW v).size:=rfl
    have next:∀ acc':List UInt8,acc'.length≤1000*(k+1)→acc'++textB l s (k+1)=textB r.Values s 0→aggregate_text.L2 r s acc' (k:Int) (fun q=>q=bstr (textB r.Values s 0)):=fun acc' h1 h2=>by
     apply aggregate_text.L2_step
     rw [wrap_succ (by omega)]
     exact ih (k+1) acc' (drop_next hd) h1 h2
    rw [textB] at h
    apply aggregate_text.L1_step
    rw [if_pos (by omega)]
    refine ⟨v,lget_drop hd,by omega,?_⟩
    have eb:=bit_eq1 (k:=.u32) (a:=s) (i:=k) (by simpa only [top] using hs) (by decide)
    by_cases hb:s.testBit k=true
    ·rw [if_pos (eb.2 hb)]
     rw [if_pos hb] at h
     refine ⟨_,value_Key.spec hv1,by simp only;omega,next _ (by rw [List.length_append];simp only;omega) (by rw [List.append_assoc];exact h)⟩
    ·rw [if_neg (fun hh=>hb (eb.1 hh))]
     rw [if_neg hb,List.nil_append] at h
     exact next acc (by omega) h
  exact go r.Values 0 [] rfl (by simp) rfl)
 rw [← h1];exact h2
def K1 (i:Nat):ByteArray:=keysW [numV i]
def K2 (i j:Nat):ByteArray:=keysW [numV i,numV j]
structure GInv (sz:Nat→Nat) (i j:Nat) (out:List (List aggregate_group)) (m1:List (ByteArray×Int)) (m2:List (ByteArray×(Int×Int))):Prop where
 len:out.length=if j=0 then i else i+1
 cnt:∀ q,q<i→∃ a,out[q]? = some a∧a.length=sz q
 cur:j≠0→∃ a,out[i]? = some a∧a.length=j
 h1:∀ q,q<1000→mget (K1 q) m1=if q<out.length then some (q:Int) else none
 h2:∀ q p,q<1000→p<1000→mhas (K2 q p) m2=true→q<i∨q=i∧p<j
def g0:aggregate_group:=⟨[],true,(⟨0,0,(⟨#[]⟩:ByteArray)⟩:api_Value),(⟨0,0⟩:aggregate_total)⟩
namespace aggregate_groups
variable {sz:Nat→Nat} {t:api_Table} {φ:List (List aggregate_group)→Prop}
end aggregate_groups
end Go.Own
namespace Go.Own
theorem low_range {a:Int}:0≤bAnd .i64 a 4294967295∧bAnd .i64 a 4294967295<4294967296:=by
 have h:∃ q:Nat,bAnd .i64 a ((4294967295:Nat):Int)=(q:Int)∧q≤4294967295:=by
  unfold bAnd
  rw [BitVec.toNat_and,toNat_top (k:=.i64) (n:=4294967295) (by simp only [top];omega)]
  refine ⟨_,wrap_top (k:=.i64) ?_,Nat.and_le_right⟩
  have:=Nat.and_le_right (n:=(BitVec.ofInt IntKind.i64.bits a).toNat) (m:=4294967295)
  simp only [top];omega
 obtain ⟨q,h1,h2⟩:=h
 rw [show (4294967295:Int)=((4294967295:Nat):Int) from rfl,h1]
 omega
theorem wrap_wrap {a b:Int}:IntKind.wrap .i64 (a+IntKind.wrap .i64 b)=IntKind.wrap .i64 (a+b):=by
 rw [IntKind.wrap_i64,IntKind.wrap_i64,IntKind.wrap_i64];omega
def addT (s:Int×Int) (n:Int):Int×Int:=
 (IntKind.wrap .i64 (IntKind.wrap .i64 (s.1+shrw .i64 n 32)+shrw .i64 (IntKind.wrap .i64 (s.2+bAnd .i64 n 4294967295)) 32),bAnd .i64 (IntKind.wrap .i64 (s.2+bAnd .i64 n 4294967295)) 4294967295)
theorem normal_spec {x:aggregate_total}:aggregate_total_normal.C x ⟨IntKind.wrap .i64 (x.high+shrw .i64 x.low 32),bAnd .i64 x.low 4294967295⟩:=by
 obtain ⟨r,h1,h2⟩:=aggregate_total_normal.enter x (fun r=>r=⟨IntKind.wrap .i64 (x.high+shrw .i64 x.low 32),bAnd .i64 x.low 4294967295⟩) rfl
 rw [← h1];exact h2
def zeroG:aggregate_group:=⟨[],false,zeroV,⟨0,0⟩⟩
end Go.Own
namespace Go.Own
def TextOK (r:api_Row):Prop:=(∀ v∈r.Values,validV v=true)∧r.Values.length≤16
theorem kind_ok {n:Nat} {k a:Int} (h:kindE n k a=0):1≤k∧k≤4∧(k≠1→0≤a∧a<n):=by
 unfold kindE at h
 split at h
 ·cases h
 ·split at h
  ·cases h
  ·split at h
   ·exact ⟨by omega,by omega,fun _=>by omega⟩
   ·split at h
    ·cases h
    ·split at h
     ·cases h
     ·exact ⟨by omega,by omega,fun _=>by omega⟩
def RowsOK (t:api_Table):Prop:=t.Rows.length≤1000∧∀ r∈t.Rows,TextOK r∧r.Values.length=t.Attrs.length
theorem TV.rowsOK {t:api_Table} (h:TV t):RowsOK t:=⟨h.nr,fun r hr=>⟨⟨h.val hr,by rw [h.len hr];exact h.na⟩,h.len hr⟩⟩
theorem drossref51_Rows.spec {t:api_Table} {l:List api_Condition} (hl:l.length≤1000) (ht:t.Rows.length≤1000000) (hv:∀ r∈t.Rows,(∀ v∈r.Values,validV v=true)∧∀ c∈l,cond1 r.Values.length c=0):drossref51_Rows.C t l (t.Rows.filter fun r=>satF r l):=by
 obtain ⟨q,h1,h2⟩:=drossref51_Rows.enter t l (fun q=>q=t.Rows.filter fun r=>satF r l) (by
  have go:∀ (r:List api_Row) (i:Nat) (acc:List api_Row),t.Rows.drop i=r→acc.length≤i→(acc++r.filter fun r=>satF r l)=(t.Rows.filter fun r=>satF r l)→drossref51_Rows.L1 t l acc (i:Int) (fun q=>q=t.Rows.filter fun r=>satF r l):=by
   intro r
   induction r with
   | nil=>
    intro i acc hd hi h
    have:=drop_ge hd
    apply drossref51_Rows.L1_step
    rw [if_neg (by omega)]
    rw [← h,List.filter_nil,List.append_nil]
   | cons x r ih=>
    intro i acc hd hi h
    have hlt:=drop_lt hd
    have hx:=hv x (List.mem_of_getElem? (drop_get hd))
    apply drossref51_Rows.L1_step
    rw [if_pos (by omega)]
    refine ⟨x,lget_drop hd,_,drossref51_satisfies.spec hl hx.1 hx.2,?_⟩
    rw [List.filter_cons] at h
    by_cases hs:satF x l=true
    ·rw [if_pos hs] at h ⊢
     refine ⟨by omega,?_⟩
     apply drossref51_Rows.L2_step
     rw [wrap_succ (by omega)]
     exact ih (i+1) _ (drop_next hd) (by rw [List.length_append];simp;omega) (by rw [List.append_assoc];exact h)
    ·rw [if_neg hs] at h ⊢
     apply drossref51_Rows.L2_step
     rw [wrap_succ (by omega)]
     exact ih (i+1) _ (drop_next hd) (by omega) h
  exact go t.Rows 0 [] rfl (by simp) rfl)
 rw [← h1];exact h2
end Go.Own
namespace Go.Own
def keyE (t:api_Table) (key:Int):Int:=if tableF t=0 then (if sN key<2^t.Attrs.length then 0 else 6) else tableF t
def allE (t:api_Table) (key:Int) (l:List api_Condition) (k a:Int):Int:=if keyE t key=0 then (if condE t.Attrs.length l=0 then kindE t.Attrs.length k a else condE t.Attrs.length l) else keyE t key
theorem keyE_zero {t:api_Table} {key:Int} (h:keyE t key=0):TV t∧sN key<2^t.Attrs.length:=by
 unfold keyE at h
 by_cases h0:tableF t=0
 ·rw [if_pos h0] at h
  by_cases h1:sN key<2^t.Attrs.length
  ·exact ⟨tableF_iff.1 h0,h1⟩
  ·rw [if_neg h1] at h;cases h
 ·rw [if_neg h0] at h;exact absurd h h0
theorem aggregate_keyed.spec {t:api_Table} {key:Int} (hk:U32 key):aggregate_keyed.C t key (keyE t key):=by
 obtain ⟨r,h1,h2⟩:=aggregate_keyed.enter t key (fun r=>r=keyE t key) (by
  refine ⟨_,table_Valid.spec,?_⟩
  unfold keyE
  by_cases h0:tableF t=0
  ·rw [if_pos h0,if_pos h0]
   refine ⟨by omega,?_⟩
   have e:(shrw .u32 key (t.Attrs.length:Int)=0)↔sN key<2^t.Attrs.length:=by
    have hq:=hk.eq
    generalize sN key=q at hq
    have hl:=hk.top
    rw [hq]
    rw [hq] at hl
    have e1:sN (q:Int)=q:=by unfold sN;omega
    rw [shrw_nat (by rw [e1] at hl;exact hl),← div_zero]
    omega
   by_cases h1:sN key<2^t.Attrs.length
   ·rw [if_pos (e.2 h1),if_pos h1]
   ·rw [if_neg (fun hh=>h1 (e.1 hh)),if_neg h1]
  ·rw [if_neg h0,if_neg h0])
 rw [← h1];exact h2
theorem aggregate_check.specK {t:api_Table} {key:Int} {l:List api_Condition} {k a:Int} (hk:U32 key) (hl:l.length≤1000):aggregate_check.C t key l k a (allE t key l k a):=by
 obtain ⟨r,h1,h2⟩:=aggregate_check.enter t key l k a (fun r=>r=allE t key l k a) (by
  refine ⟨_,aggregate_keyed.spec hk,?_⟩
  unfold allE
  by_cases h0:keyE t key=0
  ·rw [if_pos h0,if_pos h0]
   refine ⟨_,aggregate_conditions.spec hl,?_⟩
   by_cases h1:condE t.Attrs.length l=0
   ·rw [if_pos h1,if_pos h1]
    exact kind_step (φ:=fun r=>r=kindE t.Attrs.length k a) rfl
   ·rw [if_neg h1,if_neg h1]
  ·rw [if_neg h0,if_neg h0])
 rw [← h1];exact h2
theorem drossref51_Key.spec {t:api_Table} {key:Int} (hk:U32 key):drossref51_Key.C t key (keyE t key):=by
 obtain ⟨r,h1,h2⟩:=drossref51_Key.enter t key (fun r=>r=keyE t key) (by
  refine ⟨_,drossref03_Valid.spec,?_⟩
  unfold keyE
  by_cases h0:tableF t=0
  ·rw [if_pos h0,if_pos h0]
   refine ⟨_,drossref02_Full.spec,?_⟩
   have ht:=tableF_iff.1 h0
   have e:(bAndNot .u32 key ((fullN t.Attrs.length:Nat):Int)=0)↔sN key<2^t.Attrs.length:=by
    have hq:=hk.eq
    generalize sN key=q at hq
    have hl:=hk.top
    rw [hq]
    rw [hq] at hl
    have e1:sN (q:Int)=q:=by unfold sN;omega
    rw [bAndNot_nat (by rw [e1] at hl;exact hl) (by simpa [top] using fullN_lt),← out_iff (by have:=ht.na;omega)]
    omega
   by_cases h1:sN key<2^t.Attrs.length
   ·rw [if_pos (e.2 h1),if_pos h1]
   ·rw [if_neg (fun hh=>h1 (e.1 hh)),if_neg h1]
  ·rw [if_neg h0,if_neg h0])
 rw [← h1];exact h2
def pickB:List api_Value→Nat→Nat→List api_Value
 | [],_,_=>[]
 | v::r,s,k=>(if s.testBit k=true then [v] else [])++pickB r s (k+1)
theorem textB_pick:∀ {l:List api_Value} {s k:Nat},textB l s k=(keysI (pickB l s k)).map b8
 | [],_,_=>rfl
 | v::r,s,k=>by
  rw [textB,pickB,textB_pick]
  unfold keysI
  rw [List.flatMap_append,List.map_append]
  split
  ·rw [keyS_list];simp
  ·simp
theorem pickB_sub:∀ {l:List api_Value} {s k:Nat},∀ v∈pickB l s k,v∈l
 | [],_,_,v,h=>h
 | w::r,s,k,v,h=>by
  rw [pickB] at h
  rcases List.mem_append.1 h with h | h
  ·split at h
   ·rw [List.mem_singleton.1 h];simp
   ·cases h
  ·exact List.mem_cons_of_mem _ (pickB_sub v h)
theorem pickB_len:∀ {l m:List api_Value} {s k:Nat},l.length=m.length→(pickB l s k).length=(pickB m s k).length
 | [],[],_,_,_=>rfl
 | [],_::_,_,_,h=>by simp at h
 | _::_,[],_,_,h=>by simp at h
 | v::r,w::q,s,k,h=>by
  rw [pickB,pickB,List.length_append,List.length_append,pickB_len (by simpa using h)]
  split<;>rfl
theorem pickB_eq:∀ {l m:List api_Value} {s k:Nat},l.length=m.length→(pickB l s k=pickB m s k↔∀ i,s.testBit (k+i)=true→l[i]? = m[i]?)
 | [],[],_,_,_=>by simp [pickB]
 | [],_::_,_,_,h=>by simp at h
 | _::_,[],_,_,h=>by simp at h
 | v::r,w::q,s,k,h=>by
  have ih:=pickB_eq (l:=r) (m:=q) (s:=s) (k:=k+1) (by simpa using h)
  rw [pickB,pickB]
  constructor
  ·intro hh i hi
   cases i with
   | zero=>
    rw [Nat.add_zero] at hi
    rw [if_pos hi,if_pos hi] at hh
    simp only [List.cons_append,List.nil_append,List.cons.injEq] at hh
    rw [List.getElem?_cons_zero,List.getElem?_cons_zero,hh.1]
   | succ i=>
    have h2:pickB r s (k+1)=pickB q s (k+1):=by
     by_cases hb:s.testBit k=true
     ·rw [if_pos hb,if_pos hb] at hh
      simp only [List.cons_append,List.nil_append,List.cons.injEq] at hh
      exact hh.2
     ·rw [if_neg hb,if_neg hb] at hh;exact hh
    rw [List.getElem?_cons_succ,List.getElem?_cons_succ]
    exact ih.1 h2 i (by rw [show k+1+i=k+(i+1) by omega];exact hi)
  ·intro hh
   have h2:=ih.2 fun i hi=>by
    have:=hh (i+1) (by rw [show k+(i+1)=k+1+i by omega];exact hi)
    rwa [List.getElem?_cons_succ,List.getElem?_cons_succ] at this
   rw [h2]
   by_cases hb:s.testBit k=true
   ·have:=hh 0 hb
    rw [List.getElem?_cons_zero,List.getElem?_cons_zero] at this
    rw [Option.some.inj this]
   ·rw [if_neg hb,if_neg hb]
theorem agreeB {a b:List api_Value} {n:Nat} (hn:n<2^32) (hl:a.length=b.length):agreeF a b n=decide (pickB a n 0=pickB b n 0):=by
 rw [Bool.eq_iff_iff,agree_iff hn hl,decide_eq_true_iff,pickB_eq hl]
 simp only [Nat.zero_add]
theorem pickB_full:∀ {l:List api_Value} {k:Nat},l.length+k≤32→pickB l 4294967295 k=l
 | [],_,_=>rfl
 | v::r,k,h=>by
  rw [List.length_cons] at h
  rw [pickB,pickB_full (by omega)]
  have:Nat.testBit 4294967295 k=true:=by
   have:=Nat.testBit_two_pow_sub_one 32 k
   rw [show (2^32-1:Nat)=4294967295 from rfl] at this
   rw [this];exact decide_eq_true (by omega)
  rw [if_pos this];rfl
def fK (key:Int) (r:api_Row):List api_Value:=pickB r.Values (sN key) 0
def fV (r:api_Row):List api_Value:=r.Values
theorem text_K {r:api_Row} {key:Int} (hr:(∀ v∈r.Values,validV v=true)∧r.Values.length≤16) (hk:U32 key):aggregate_text.C r key (keysW (fK key r)):=by
 have h:=aggregate_text.spec (r:=r) (s:=sN key) hk.lt (fun v hv=>⟨hr.1 v hv,by have:=keyI_len (hr.1 v hv);rw [keyS_size];omega⟩) (by have:=hr.2;omega)
 rw [textB_pick,← hk.eq] at h
 exact h
theorem text_V {r:api_Row} (hr:(∀ v∈r.Values,validV v=true)∧r.Values.length≤16):aggregate_text.C r 4294967295 (keysW (fV r)):=by
 have h:=aggregate_text.spec (r:=r) (s:=4294967295) (by decide) (fun v hv=>⟨hr.1 v hv,by have:=keyI_len (hr.1 v hv);rw [keyS_size];omega⟩) (by have:=hr.2;omega)
 rw [textB_pick,pickB_full (by have:=hr.2;omega)] at h
 exact h
theorem keyK_inj {t:api_Table} {key:Int} (ht:TV t) (hn:TNum t) {p q:api_Row} (hp:p∈t.Rows) (hq:q∈t.Rows):keysW (fK key p)=keysW (fK key q)↔fK key p=fK key q:=
 keysS_inj (pickB_len (by rw [ht.len hp,ht.len hq])) (fun v hv=>⟨ht.val hp v (pickB_sub v hv),hn _ hp v (pickB_sub v hv)⟩) (fun v hv=>⟨ht.val hq v (pickB_sub v hv),hn _ hq v (pickB_sub v hv)⟩)
theorem keyV_inj {t:api_Table} (ht:TV t) (hn:TNum t) {p q:api_Row} (hp:p∈t.Rows) (hq:q∈t.Rows):keysW (fV p)=keysW (fV q)↔fV p=fV q:=
 keysS_inj (by unfold fV;rw [ht.len hp,ht.len hq]) (fun v hv=>⟨ht.val hp v hv,hn _ hp v hv⟩) (fun v hv=>⟨ht.val hq v hv,hn _ hq v hv⟩)
theorem fK_of_fV {key:Int} {p q:api_Row} (h:fV p=fV q):fK key p=fK key q:=by
 unfold fV at h;unfold fK;rw [h]
end Go.Own
namespace Go.Own
def plusT (s:aggregate_total) (n:Int):aggregate_total:=⟨(addT (s.high,s.low) n).1,(addT (s.high,s.low) n).2⟩
theorem plusT_spec {s:aggregate_total} {n:Int}:aggregate_total_plus.C s n 1 (plusT s n):=by
 obtain ⟨r,h1,h2⟩:=aggregate_total_plus.enter s n 1 (fun r=>r=plusT s n) ⟨_,normal_spec,by
  have hl:=low_range (a:=n)
  unfold plusT addT
  simp only [Int.mul_one]
  have e1:IntKind.wrap .i64 (bAnd .i64 n 4294967295)=bAnd .i64 n 4294967295:=wrap_id (by omega) (by omega)
  rw [e1,wrap_wrap]⟩
 rw [← h1];exact h2
def updG (l:List api_Condition) (k a:Int) (g:aggregate_group) (x:api_Row):aggregate_group:=
 if g.ok=true then (if k=1 then ⟨g.ids++[x.ID],g.ok,g.value,plusT g.sum 1⟩ else if k=2 then (if (atV x a).Kind=1 then ⟨g.ids++[x.ID],g.ok,g.value,plusT g.sum (atV x a).Num⟩ else ⟨g.ids++[x.ID],g.ok,g.value,g.sum⟩) else ⟨g.ids++[x.ID],g.ok,atV x a,g.sum⟩)
 else ⟨g.ids++[x.ID],g.ok,g.value,g.sum⟩
def freshG (l:List api_Condition) (x:api_Row):aggregate_group:=⟨[],satF x l,zeroV,⟨0,0⟩⟩
def mkG (l:List api_Condition) (k a:Int):List api_Row→aggregate_group
 | []=>zeroG
 | r::s=>(r::s).foldl (updG l k a) (freshG l r)
def mkX (l:List api_Condition) (k a:Int) (x:api_Row) (g:List api_Row):aggregate_group:=if g=[] then freshG l x else mkG l k a g
theorem mkX_snoc {l:List api_Condition} {k a:Int} {x:api_Row} {g:List api_Row}:updG l k a (mkX l k a x g) x=mkG l k a (g++[x]):=by
 unfold mkX
 cases g with
 | nil=>rfl
 | cons r s=>
  rw [if_neg (by simp)]
  show updG l k a ((r::s).foldl (updG l k a) (freshG l r)) x=((r::s)++[x]).foldl (updG l k a) (freshG l r)
  rw [List.foldl_append];rfl
theorem mkX_ne {l:List api_Condition} {k a:Int} {x:api_Row} {g:List api_Row} (h:g≠[]):mkX l k a x g=mkG l k a g:=if_neg h
def grpsB (l:List api_Condition) (k a:Int) (b:List api_Row):List aggregate_group:=(blk fV b).map (mkG l k a)
theorem upd_ids {l:List api_Condition} {k a:Int} {g:aggregate_group} {x:api_Row}:(updG l k a g x).ids=g.ids++[x.ID]:=by
 unfold updG
 split
 ·split
  ·rfl
  ·split
   ·split<;>rfl
   ·rfl
 ·rfl
theorem upd_ok {l:List api_Condition} {k a:Int} {g:aggregate_group} {x:api_Row}:(updG l k a g x).ok=g.ok:=by
 unfold updG
 split
 ·split
  ·rfl
  ·split
   ·split<;>rfl
   ·rfl
 ·rfl
theorem fold_ids {l:List api_Condition} {k a:Int}:∀ {b:List api_Row} {g:aggregate_group},(b.foldl (updG l k a) g).ids=g.ids++b.map api_Row.ID
 | [],g=>by simp
 | x::r,g=>by rw [List.foldl_cons,fold_ids,upd_ids,List.map_cons,List.append_assoc];rfl
theorem fold_ok {l:List api_Condition} {k a:Int}:∀ {b:List api_Row} {g:aggregate_group},(b.foldl (updG l k a) g).ok=g.ok
 | [],g=>rfl
 | x::r,g=>by rw [List.foldl_cons,fold_ok,upd_ok]
theorem mkG_ids {l:List api_Condition} {k a:Int} {b:List api_Row}:(mkG l k a b).ids=b.map api_Row.ID:=by
 cases b with
 | nil=>rfl
 | cons r s=>show ((r::s).foldl (updG l k a) (freshG l r)).ids=_;rw [fold_ids];rfl
theorem mkG_ok {l:List api_Condition} {k a:Int} {r:api_Row} {s:List api_Row}:(mkG l k a (r::s)).ok=satF r l:=by
 show ((r::s).foldl (updG l k a) (freshG l r)).ok=_
 rw [fold_ok];rfl
structure HB (key:Int) (p:List api_Row) (bm:List (ByteArray×Int)):Prop where
 has:∀ r∈p,∃ i:Nat,mget (keysW (fK key r)) bm=some (i:Int)∧(keysB (fK key) p)[i]? = some (fK key r)
 old:∀ b v,mget b bm=some v→∃ r∈p,keysW (fK key r)=b
structure HP (key:Int) (p:List api_Row) (pm:List (ByteArray×(Int×Int))):Prop where
 has:∀ r∈p,∃ (i:Int) (j:Nat),mget (keysW (fV r)) pm=some (i,(j:Int))∧(keysB fV (clB (fK key) p (fK key r)))[j]? = some (fV r)
 old:∀ b v,mget b pm=some v→∃ r∈p,keysW (fV r)=b
theorem clB_mono {α κ:Type} [DecidableEq κ] {f:α→κ} {l:List α} {x:α} {k:κ} {κ':Type} [DecidableEq κ'] {g:α→κ'} {i:Nat} {v:κ'} (h:(keysB g (clB f l k))[i]? = some v):(keysB g (clB f (l++[x]) k))[i]? = some v:=by
 rw [clB_snoc]
 split
 ·exact keysB_mono h
 ·exact h
theorem lset_lset {α:Type} {l:List α} {i:Int} {a b:α}:lset (lset l i a) i b=lset l i b:=by unfold lset;rw [List.set_set]
theorem lset_n {α:Type} {l:List α} {i:Nat} {a:α}:lset l (i:Int) a=l.set i a:=by unfold lset;rw [Int.toNat_natCast]
theorem aggregate_groups.specG {t:api_Table} {key:Int} {l:List api_Condition} {k a:Int} (ht:TV t) (hn:TNum t) (hk:U32 key) (hl:l.length≤1000) (hc:condE t.Attrs.length l=0) (hkd:kindE t.Attrs.length k a=0) :
  aggregate_groups.C t key l k a ((blk (fK key) t.Rows).map (grpsB l k a)):=by
 have hR:=ht.rowsOK
 have hR1:=hR.1
 obtain ⟨k1,k2,k3⟩:=kind_ok hkd
 obtain ⟨q,h1,h2⟩:=aggregate_groups.enter t key l k a (fun q=>q=(blk (fK key) t.Rows).map (grpsB l k a)) (by
  have go:∀ (rest p:List api_Row) (bm:List (ByteArray×Int)) (pm:List (ByteArray×(Int×Int))),p++rest=t.Rows→HB key p bm→HP key p pm →
    aggregate_groups.L1 t key l k a ((blk (fK key) p).map (grpsB l k a)) bm pm (p.length:Int) (fun q=>q=(blk (fK key) t.Rows).map (grpsB l k a)):=by
   intro rest
   induction rest with
   | nil=>
    intro p bm pm hp hb hq
    rw [List.append_nil] at hp
    subst hp
    apply aggregate_groups.L1_step
    rw [if_neg (by omega)]
   | cons x rest ih=>
    intro p bm pm hp hb hq
    have hlen:p.length+rest.length+1=t.Rows.length:=by rw [← hp];simp;omega
    have hmem:∀ r∈p,r∈t.Rows:=fun r hr=>by rw [← hp];exact List.mem_append_left _ hr
    have hx:x∈t.Rows:=by rw [← hp];simp
    have hget:lget t.Rows (p.length:Int)=some x:=by
     rw [lget_nat,← hp,List.getElem?_append_right (Nat.le_refl _),Nat.sub_self];rfl
    obtain ⟨hxt,hxl⟩:=hR.2 x hx
    have tb:=text_K hxt hk
    have tp:=text_V hxt
    have third:∀ (out:List (List aggregate_group)) (bm':List (ByteArray×Int)) (pm':List (ByteArray×(Int×Int))) (i j:Nat),HB key (p++[x]) bm'→HP key (p++[x]) pm' →
      (keysB (fK key) (p++[x]))[i]? = some (fK key x)→(keysB fV (clB (fK key) p (fK key x)++[x]))[j]? = some (fV x) →
      out[i]? = some (base (mkX l k a x) fV (clB (fK key) p (fK key x)) x)→(∀ Z,out.set i Z=(base (grpsB l k a) (fK key) p x).set i Z)→(mgetD (keysW (fV x)) pm' ⟨0,0⟩).2=(j:Int) →
      aggregate_groups.L3 t key l k a out bm' pm' x (keysW (fV x)) (i:Int) (p.length:Int) (fun q=>q=(blk (fK key) t.Rows).map (grpsB l k a)):=fun out bm' pm' i j hb' hq' hi hj hout hset hm=>by
     have h12:=base_get (F:=mkX l k a x) hj
     have hcl:(clB fV (clB (fK key) p (fK key x)) (fV x)).length≤t.Rows.length:=Nat.le_trans clB_len (Nat.le_trans clB_len (by omega))
     generalize hg:mkX l k a x (clB fV (clB (fK key) p (fK key x)) (fV x))=g at h12
     have hids:g.ids.length≤1000:=by
      rw [← hg]
      unfold mkX
      split
      ·simp [freshG]
      ·rw [mkG_ids,List.length_map];omega
     have hb2:=base_set (F0:=mkX l k a x) (F:=mkG l k a) hj (fun k' hk' hne=>mkX_ne (clB_ne (by
      rw [keysB_snoc] at hk'
      split at hk'
      ·exact hk'
      ·rcases List.mem_append.1 hk' with h | h
       ·exact h
       ·exact absurd (List.mem_singleton.1 h) hne)))
     have hb1:=base_set (F0:=grpsB l k a) (F:=grpsB l k a) hi (fun _ _ _=>rfl)
     rw [← mkX_snoc,hg] at hb2
     have done:aggregate_groups.L2 t key l k a (out.set i ((base (mkX l k a x) fV (clB (fK key) p (fK key x)) x).set j (updG l k a g x))) bm' pm' (p.length:Int) (fun q=>q=(blk (fK key) t.Rows).map (grpsB l k a)):=by
      apply aggregate_groups.L2_step
      rw [wrap_succ (by omega),hset,hb2]
      have e:(blk fV (clB (fK key) p (fK key x)++[x])).map (mkG l k a)=grpsB l k a (clB (fK key) p (fK key x)++[x]):=rfl
      rw [e,hb1]
      have:=ih (p++[x]) bm' pm' (by rw [List.append_assoc];exact hp) hb' hq'
      rw [List.length_append,List.length_singleton] at this
      exact this
     apply aggregate_groups.L3_step
     rw [hm]
     refine ⟨_,by rw [lget_nat];exact hout,g,by rw [lget_nat];exact h12,by omega,?_⟩
     simp only [lset_lset]
     rw [lset_n,lset_n]
     unfold updG at done
     by_cases hok:g.ok=true
     ·rw [if_pos hok];rw [if_pos hok] at done
      by_cases hk1:k=1
      ·rw [if_pos hk1];rw [if_pos hk1] at done
       refine ⟨_,plusT_spec,?_⟩
       simp only [lset_n]
       exact done
      ·rw [if_neg hk1];rw [if_neg hk1] at done
       obtain ⟨a0,a1⟩:=k3 hk1
       have hat:=at_some (r:=x) a0 (by rw [hxl];exact a1)
       by_cases hk2:k=2
       ·rw [if_pos hk2];rw [if_pos hk2] at done
        refine ⟨_,hat,?_⟩
        by_cases hnk:(atV x a).Kind=1
        ·rw [if_pos hnk];rw [if_pos hnk] at done
         refine ⟨_,plusT_spec,?_⟩
         simp only [lset_n]
         exact done
        ·rw [if_neg hnk];rw [if_neg hnk] at done
         exact done
       ·rw [if_neg hk2];rw [if_neg hk2] at done
        refine ⟨_,hat,?_⟩
        simp only [lset_n]
        exact done
     ·rw [if_neg hok];rw [if_neg hok] at done
      exact done
    have mid:∀ (bm':List (ByteArray×Int)) (i:Nat),HB key (p++[x]) bm'→mgetD (keysW (fK key x)) bm' 0=(i:Int)→(keysB (fK key) (p++[x]))[i]? = some (fK key x) →
      aggregate_groups.L4 t key l k a (base (grpsB l k a) (fK key) p x) bm' pm x (keysW (fK key x)) (keysW (fV x)) (p.length:Int) (fun q=>q=(blk (fK key) t.Rows).map (grpsB l k a)):=fun bm' i hb' hm hi=>by
     have hout:=base_get (F:=grpsB l k a) hi
     have hlenB:(clB (fK key) p (fK key x)).length≤t.Rows.length:=Nat.le_trans clB_len (by omega)
     apply aggregate_groups.L4_step
     rw [hm]
     cases hv:mget (keysW (fV x)) pm with
     | some v=>
      rw [if_pos (by unfold mhas;rw [hv];rfl)]
      obtain ⟨r,hr,he⟩:=hq.old _ _ hv
      have he:=(keyV_inj ht hn (hmem r hr) hx).1 he
      obtain ⟨i',j,g1,g2⟩:=hq.has r hr
      rw [he] at g1 g2
      rw [fK_of_fV (key:=key) he] at g2
      have hkn:fV x∈keysB fV (clB (fK key) p (fK key x)):=List.mem_of_getElem? g2
      refine third _ bm' pm i j hb' ⟨fun s hs=>?_,fun b v hb=>?_⟩ hi (keysB_mono g2) ?_ (fun Z=>rfl) ?_
      ·rcases List.mem_append.1 hs with hs | hs
       ·obtain ⟨i2,j2,q1,q2⟩:=hq.has s hs
        exact ⟨i2,j2,q1,clB_mono q2⟩
       ·rw [List.mem_singleton.1 hs]
        exact ⟨i',j,g1,clB_mono g2⟩
      ·obtain ⟨s,hs,e⟩:=hq.old b v hb
       exact ⟨s,List.mem_append_left _ hs,e⟩
      ·rw [hout,base_old hkn]
       refine congrArg some ?_
       unfold grpsB
       refine List.map_congr_left fun g hg=>?_
       rw [mkX_ne (mem_blk hg).1]
      ·unfold mgetD;rw [g1];rfl
     | none=>
      rw [if_neg (by unfold mhas;rw [hv];simp)]
      have hkn:fV x ∉ keysB fV (clB (fK key) p (fK key x)):=fun hh=>by
       obtain ⟨r,hr,he⟩:=mem_keysB.1 hh
       obtain ⟨i',j,g1,_⟩:=hq.has r (mem_clB.1 hr).1
       rw [he,hv] at g1;cases g1
      have hjl:(keysB fV (clB (fK key) p (fK key x))).length≤t.Rows.length:=Nat.le_trans keysB_len hlenB
      have hj:(keysB fV (clB (fK key) p (fK key x)++[x]))[(keysB fV (clB (fK key) p (fK key x))).length]? = some (fV x):=by
       rw [keysB_snoc,if_neg hkn,List.getElem?_append_right (Nat.le_refl _),Nat.sub_self];rfl
      have hgl:(grpsB l k a (clB (fK key) p (fK key x))).length=(keysB fV (clB (fK key) p (fK key x))).length:=by unfold grpsB;rw [List.length_map,blk_len]
      refine ⟨_,by rw [lget_nat];exact hout,_,aggregate_satisfies.spec hl (fun c hcc=>by rw [hxl];exact condE_ok hc c hcc),by omega,?_⟩
      rw [lset_n]
      have hb2:grpsB l k a (clB (fK key) p (fK key x))++[(⟨[],satF x l,(⟨0,0,(⟨#[]⟩:ByteArray)⟩:api_Value),(⟨0,0⟩:aggregate_total)⟩:aggregate_group)]=base (mkX l k a x) fV (clB (fK key) p (fK key x)) x:=by
       rw [base_new hkn]
       have:grpsB l k a (clB (fK key) p (fK key x))=(blk fV (clB (fK key) p (fK key x))).map (mkX l k a x):=by
        unfold grpsB
        refine List.map_congr_left fun g hg=>?_
        rw [mkX_ne (mem_blk hg).1]
       rw [this];rfl
      rw [hb2]
      refine third _ bm' _ i (keysB fV (clB (fK key) p (fK key x))).length hb' ⟨fun s hs=>?_,fun b v hb=>?_⟩ hi hj ?_ (fun Z=>List.set_set ..) ?_
      ·rcases List.mem_append.1 hs with hs | hs
       ·obtain ⟨i2,j2,q1,q2⟩:=hq.has s hs
        refine ⟨i2,j2,?_,clB_mono q2⟩
        rw [mgm,if_neg (fun e=>by rw [e,q1] at hv;cases hv)]
        exact q1
       ·rw [List.mem_singleton.1 hs]
        refine ⟨_,_,by rw [mgm,if_pos rfl,hgl],?_⟩
        rw [clB_snoc,if_pos rfl];exact hj
      ·rw [mgm] at hb
       by_cases he:keysW (fV x)=b
       ·exact ⟨x,by simp,he⟩
       ·rw [if_neg he] at hb
        obtain ⟨s,hs,e⟩:=hq.old b v hb
        exact ⟨s,List.mem_append_left _ hs,e⟩
      ·rw [List.getElem?_set,if_pos rfl,if_pos (List.getElem?_eq_some_iff.1 hout).1]
      ·unfold mgetD
       rw [mgm,if_pos rfl,hgl];rfl
    apply aggregate_groups.L1_step
    rw [if_pos (by omega)]
    refine ⟨x,hget,_,tb,_,tp,?_⟩
    cases hv:mget (keysW (fK key x)) bm with
    | some v=>
     rw [if_pos (by unfold mhas;rw [hv];rfl)]
     obtain ⟨r,hr,he⟩:=hb.old _ _ hv
     have he:=(keyK_inj ht hn (hmem r hr) hx).1 he
     obtain ⟨i,g1,g2⟩:=hb.has r hr
     rw [he] at g1 g2
     have hm:=mid bm i ⟨fun s hs=>?_,fun b v hbv=>?_⟩ (by unfold mgetD;rw [g1];rfl) (keysB_mono g2)
     ·rw [base_old (List.mem_of_getElem? g2)] at hm
      exact hm
     ·rcases List.mem_append.1 hs with hs | hs
      ·obtain ⟨i2,q1,q2⟩:=hb.has s hs
       exact ⟨i2,q1,keysB_mono q2⟩
      ·rw [List.mem_singleton.1 hs]
       exact ⟨i,g1,keysB_mono g2⟩
     ·obtain ⟨s,hs,e⟩:=hb.old b v hbv
      exact ⟨s,List.mem_append_left _ hs,e⟩
    | none=>
     rw [if_neg (by unfold mhas;rw [hv];simp)]
     have hkn:fK key x ∉ keysB (fK key) p:=fun hh=>by
      obtain ⟨r,hr,he⟩:=mem_keysB.1 hh
      obtain ⟨i,g1,_⟩:=hb.has r hr
      rw [he,hv] at g1;cases g1
     have hbl:((blk (fK key) p).map (grpsB l k a)).length=(keysB (fK key) p).length:=by rw [List.length_map,blk_len]
     have hkl:(keysB (fK key) p).length≤p.length:=keysB_len
     have hi:(keysB (fK key) (p++[x]))[(keysB (fK key) p).length]? = some (fK key x):=by
      rw [keysB_snoc,if_neg hkn,List.getElem?_append_right (Nat.le_refl _),Nat.sub_self];rfl
     refine ⟨by omega,?_⟩
     have hm:=mid (mset (keysW (fK key x)) (((blk (fK key) p).map (grpsB l k a)).length:Int) bm) (keysB (fK key) p).length ⟨fun s hs=>?_,fun b v hbv=>?_⟩ (by unfold mgetD;rw [mgm,if_pos rfl,hbl];rfl) hi
     ·rw [base_new hkn] at hm
      exact hm
     ·rcases List.mem_append.1 hs with hs | hs
      ·obtain ⟨i2,q1,q2⟩:=hb.has s hs
       refine ⟨i2,?_,keysB_mono q2⟩
       rw [mgm,if_neg (fun e=>by rw [e,q1] at hv;cases hv)]
       exact q1
      ·rw [List.mem_singleton.1 hs]
       exact ⟨_,by rw [mgm,if_pos rfl,hbl],hi⟩
     ·rw [mgm] at hbv
      by_cases he:keysW (fK key x)=b
      ·exact ⟨x,by simp,he⟩
      ·rw [if_neg he] at hbv
       obtain ⟨s,hs,e⟩:=hb.old b v hbv
       exact ⟨s,List.mem_append_left _ hs,e⟩
  exact go t.Rows [] [] [] rfl ⟨fun r hr=>(by cases hr),fun b v hv=>(by cases hv)⟩ ⟨fun r hr=>(by cases hr),fun b v hv=>(by cases hv)⟩)
 rw [← h1];exact h2
end Go.Own
namespace Go.Own
theorem lset_mid {α:Type} {l m:List α} {a b:α} {n:Nat} (h:l.length=n):lset (l++a::m) (n:Int) b=l++b::m:=by
 unfold lset
 rw [Int.toNat_natCast,← h]
 simp
theorem lget_mid {α:Type} {l m:List α} {a:α} {n:Nat} (h:l.length=n):lget (l++a::m) (n:Int)=some a:=by
 rw [lget_nat,← h];simp
def StrV (r:api_Row):Prop:=(∀ v∈r.Values,validV v=true)∧r.Values.length≤16
theorem StrV.ok {r:api_Row} (h:StrV r):StrOK r.Values:=⟨by have:=h.2;unfold Big;omega,fun v hv=>by have:=valid_str (h.1 v hv);unfold Big;omega⟩
theorem drossref51_Blocks.spec {t:api_Table} {key:Int} (hR:t.Rows.length≤1000) (hv:∀ r∈t.Rows,StrV r∧r.Values.length=t.Attrs.length) (hk:U32 key):drossref51_Blocks.C t key (blk (fK key) t.Rows):=by
 obtain ⟨q,h1,h2⟩:=drossref51_Blocks.enter t key (fun q=>q=blk (fK key) t.Rows) (by
  have go:∀ (rest p:List api_Row),p++rest=t.Rows→drossref51_Blocks.L1 t key (blk (fK key) p) (p.length:Int) (fun q=>q=blk (fK key) t.Rows):=by
   intro rest
   induction rest with
   | nil=>
    intro p hp
    rw [List.append_nil] at hp
    subst hp
    apply drossref51_Blocks.L1_step
    rw [if_neg (by omega)]
   | cons x rest ih=>
    intro p hp
    have hlen:p.length+rest.length+1=t.Rows.length:=by rw [← hp];simp;omega
    have hmem:∀ r∈p,r∈t.Rows:=fun r hr=>by rw [← hp];exact List.mem_append_left _ hr
    have hx:x∈t.Rows:=by rw [← hp];simp
    have hget:lget t.Rows (p.length:Int)=some x:=by
     rw [lget_nat,← hp,List.getElem?_append_right (Nat.le_refl _),Nat.sub_self];rfl
    have hkl:(keysB (fK key) p).length≤p.length:=keysB_len
    have next:∀ B,B=blk (fK key) (p++[x])→drossref51_Blocks.L4 t key B (p.length:Int) (fun q=>q=blk (fK key) t.Rows):=fun B hB=>by
     subst hB
     apply drossref51_Blocks.L4_step
     rw [wrap_succ (by omega)]
     have:=ih (p++[x]) (by rw [List.append_assoc];exact hp)
     rw [List.length_append,List.length_singleton] at this
     exact this
    let u:List api_Value→List api_Row:=fun k=>if fK key x=k then clB (fK key) p k++[x] else clB (fK key) p k
    have inner:∀ (ks done:List (List api_Value)),done++ks=keysB (fK key) p→drossref51_Blocks.L2 t key (done.map u++ks.map (clB (fK key) p)) (p.length:Int) (decide (fK key x∈done)) (done.length:Int) (fun q=>q=blk (fK key) t.Rows):=by
     intro ks
     induction ks with
     | nil=>
      intro done hd
      rw [List.append_nil] at hd
      apply drossref51_Blocks.L2_step
      rw [if_neg (by simp),List.map_nil,List.append_nil]
      by_cases hm:fK key x∈done
      ·rw [if_pos (decide_eq_true hm)]
       refine next _ ?_
       rw [blk_snoc,if_pos (by rw [← hd];exact hm),hd]
      ·rw [if_neg (by rw [decide_eq_true_iff];exact hm)]
       have hbl:(done.map u).length=(keysB (fK key) p).length:=by rw [List.length_map,hd]
       refine ⟨x,hget,by omega,next _ ?_⟩
       rw [blk_snoc,if_neg (by rw [← hd];exact hm)]
       unfold blk
       rw [← hd]
       refine congrArg (fun q=>q++_) (List.map_congr_left fun k hkk=>?_)
       exact if_neg (fun e=>hm (by rw [e];exact hkk))
     | cons k ks ih2=>
      intro done hd
      have hkin:k∈keysB (fK key) p:=by rw [← hd];simp
      obtain ⟨y,ys,hb⟩:∃ y ys,clB (fK key) p k=y::ys:=by
       cases h:clB (fK key) p k with
       | nil=>exact absurd h (clB_ne hkin)
       | cons y ys=>exact ⟨y,ys,rfl⟩
      have hy:y∈p∧fK key y=k:=mem_clB.1 (by rw [hb];simp)
      have hyr:=hv y (hmem y hy.1)
      have hxr:=hv x hx
      have hdl:done.length+ks.length+1=(keysB (fK key) p).length:=by rw [← hd];simp;omega
      have hcl:(clB (fK key) p k).length≤p.length:=clB_len
      have eu:∀ W,W=u k→drossref51_Blocks.L3 t key (done.map u++W::ks.map (clB (fK key) p)) (p.length:Int) (decide (fK key x∈done) || decide (fK key x=k)) (done.length:Int) (fun q=>q=blk (fK key) t.Rows):=fun W hW=>by
       subst hW
       apply drossref51_Blocks.L3_step
       rw [wrap_succ (by omega)]
       have:=ih2 (done++[k]) (by rw [List.append_assoc];exact hd)
       rw [List.length_append,List.length_singleton,List.map_append,List.append_assoc] at this
       have e:(decide (fK key x∈done) || decide (fK key x=k))=decide (fK key x∈done++[k]):=by
        rw [Bool.eq_iff_iff,Bool.or_eq_true,decide_eq_true_iff,decide_eq_true_iff,decide_eq_true_iff,List.mem_append,List.mem_singleton]
       rw [e];exact this
      apply drossref51_Blocks.L2_step
      rw [List.map_cons]
      rw [if_pos (by simp only [List.length_append,List.length_map,List.length_cons];omega)]
      refine ⟨_,lget_mid (by rw [List.length_map]),y,by rw [hb];rfl,x,hget,_,by
       have:=drossref03_Agree.spec (a:=y) (b:=x) (n:=sN key) hk.lt (by have:=hyr.1.2;omega) (by have:=hxr.1.2;omega) (fun v hv=>hyr.1.ok.2 v hv)
       rw [← hk.eq] at this
       exact this,?_⟩
      rw [agreeB hk.lt (by rw [hyr.2,hxr.2])]
      have ek:(pickB y.Values (sN key) 0=pickB x.Values (sN key) 0)↔fK key x=k:=by
       rw [← hy.2];exact eq_comm
      by_cases he:fK key x=k
      ·rw [if_pos (decide_eq_true (ek.2 he))]
       refine ⟨by omega,?_⟩
       rw [lset_mid (by rw [List.length_map])]
       have:=eu (clB (fK key) p k++[x]) (if_pos he).symm
       rw [decide_eq_true he,Bool.or_true] at this
       exact this
      ·rw [if_neg (by rw [decide_eq_true_iff];exact fun h=>he (ek.1 h))]
       have:=eu (clB (fK key) p k) (if_neg he).symm
       rw [decide_eq_false he,Bool.or_false] at this
       exact this
    apply drossref51_Blocks.L1_step
    rw [if_pos (by omega)]
    exact inner (keysB (fK key) p) [] rfl
  exact go t.Rows [] rfl)
 rw [← h1];exact h2
theorem drossref03_Listed.spec {rows:List api_Row} {vs:List api_Value} (hl:rows.length≤1000000) (hv:∀ r∈rows,StrV r):drossref03_Listed.C rows vs (rows.any fun r=>decide (r.Values=vs)):=by
 obtain ⟨q,h1,h2⟩:=drossref03_Listed.enter rows vs (fun q=>q=rows.any fun r=>decide (r.Values=vs)) (by
  refine any_loop (l:=rows) (p:=fun r=>decide (r.Values=vs)) (L:=fun i=>drossref03_Listed.L1 rows vs i _) (φ:=fun q=>q=rows.any fun r=>decide (r.Values=vs)) ?_ ?_ rfl
  ·intro h;apply drossref03_Listed.L1_step;rw [if_neg (by omega)];exact h
  ·intro k r hk hlt h
   apply drossref03_Listed.L1_step
   rw [if_pos (by omega)]
   refine ⟨r,lget_of hk,_,drossref01_Same.spec (hv r (List.mem_of_getElem? hk)).ok,?_⟩
   rw [wrap_succ (by omega)]
   exact h)
 rw [← h1];exact h2
def withB (lists:List (List api_Row)) (b:List api_Row):List (List api_Row):=lists.flatMap fun li=>(blk fV b).map fun g=>li++g
theorem drossref51_with.spec {lists:List (List api_Row)} {b:List api_Row} (hl:lists.length≤100000) (hb:b.length≤1000) (hll:∀ li∈lists,li.length≤100000) (hv:∀ r∈b,StrV r):drossref51_with.C lists b (withB lists b):=by
 obtain ⟨q,h1,h2⟩:=drossref51_with.enter lists b (fun q=>q=withB lists b) (by
  have row:∀ (li:List api_Row) (i:Nat) (acc:List (List api_Row)),lget lists (i:Int)=some li→li.length≤100000→acc.length≤100000000→drossref51_with.L1 lists b (acc++(blk fV b).map fun g=>li++g) ((i+1:Nat):Int) (fun q=>q=withB lists b)→i<lists.length →
    ∀ (rest p:List api_Row),p++rest=b→drossref51_with.L2 lists b (acc++(keysB fV p).map fun v=>li++clB fV b v) (i:Int) (p.length:Int) (fun q=>q=withB lists b):=by
   intro li i acc hli hlen hacc hnext hi rest
   induction rest with
   | nil=>
    intro p hp
    rw [List.append_nil] at hp
    subst hp
    apply drossref51_with.L2_step
    rw [if_neg (by omega),wrap_succ (by omega)]
    unfold blk at hnext
    rw [List.map_map] at hnext
    exact hnext
   | cons x rest ih=>
    intro p hp
    have hpl:p.length+rest.length+1=b.length:=by rw [← hp];simp;omega
    have hx:x∈b:=by rw [← hp];simp
    have hget:lget b (p.length:Int)=some x:=by
     rw [lget_nat,← hp,List.getElem?_append_right (Nat.le_refl _),Nat.sub_self];rfl
    have htake:List.take (((p.length:Nat):Int).toNat-0) b=p:=by
     rw [Int.toNat_natCast,Nat.sub_zero,← hp,List.take_left]
    have hkl:(keysB fV p).length≤p.length:=keysB_len
    have hany:(p.any fun r=>decide (r.Values=x.Values))=true↔fV x∈keysB fV p:=by
     rw [List.any_eq_true,mem_keysB]
     constructor
     ·rintro ⟨r,hr,he⟩;exact ⟨r,hr,of_decide_eq_true he⟩
     ·rintro ⟨r,hr,he⟩;exact ⟨r,hr,decide_eq_true he⟩
    have next:∀ Y,Y=(acc++(keysB fV (p++[x])).map fun v=>li++clB fV b v)→drossref51_with.L5 lists b Y (i:Int) (p.length:Int) (fun q=>q=withB lists b):=fun Y hY=>by
     subst hY
     apply drossref51_with.L5_step
     rw [wrap_succ (by omega)]
     have:=ih (p++[x]) (by rw [List.append_assoc];exact hp)
     rw [List.length_append,List.length_singleton] at this
     exact this
    apply drossref51_with.L2_step
    rw [if_pos (by omega),htake]
    refine ⟨by omega,by omega,x,hget,_,drossref03_Listed.spec (by omega) (fun r hr=>hv r (by rw [← hp];exact List.mem_append_left _ hr)),?_⟩
    by_cases hm:fV x∈keysB fV p
    ·rw [if_pos (hany.2 hm)]
     refine next _ ?_
     rw [keysB_snoc,if_pos hm]
    ·rw [if_neg (fun h=>hm (hany.1 h))]
     refine ⟨li,hli,by omega,?_⟩
     have grp:∀ (s d:List api_Row),d++s=b→drossref51_with.L3 lists b (acc++(keysB fV p).map fun v=>li++clB fV b v) (i:Int) (p.length:Int) (li++clB fV d (fV x)) (d.length:Int) (fun q=>q=withB lists b):=by
      intro s
      induction s with
      | nil=>
       intro d hd
       rw [List.append_nil] at hd
       subst hd
       apply drossref51_with.L3_step
       rw [if_neg (by omega)]
       refine ⟨by rw [List.length_append,List.length_map];omega,next _ ?_⟩
       rw [keysB_snoc,if_neg hm,List.map_append,List.append_assoc];rfl
      | cons y s ih2=>
       intro d hd
       have hdl:d.length+s.length+1=b.length:=by rw [← hd];simp;omega
       have hy:y∈b:=by rw [← hd];simp
       have hgy:lget b (d.length:Int)=some y:=by
        rw [lget_nat,← hd,List.getElem?_append_right (Nat.le_refl _),Nat.sub_self];rfl
       have hcl:(clB fV d (fV x)).length≤d.length:=clB_len
       have nx:∀ Y,Y=li++clB fV (d++[y]) (fV x)→drossref51_with.L4 lists b (acc++(keysB fV p).map fun v=>li++clB fV b v) (i:Int) (p.length:Int) Y (d.length:Int) (fun q=>q=withB lists b):=fun Y hY=>by
        subst hY
        apply drossref51_with.L4_step
        rw [wrap_succ (by omega)]
        have:=ih2 (d++[y]) (by rw [List.append_assoc];exact hd)
        rw [List.length_append,List.length_singleton] at this
        exact this
       apply drossref51_with.L3_step
       rw [if_pos (by omega)]
       refine ⟨y,hgy,x,hget,_,drossref01_Same.spec (hv y hy).ok,?_⟩
       by_cases he:y.Values=x.Values
       ·rw [if_pos (decide_eq_true he)]
        refine ⟨by rw [List.length_append];omega,nx _ ?_⟩
        rw [clB_snoc,if_pos (show fV y=fV x from he),List.append_assoc]
       ·rw [if_neg (by rw [decide_eq_true_iff];exact he)]
        refine nx _ ?_
        rw [clB_snoc,if_neg (show ¬ fV y=fV x from he)]
     have:=grp b [] rfl
     have e:clB fV ([]:List api_Row) (fV x)=[]:=rfl
     rw [e,List.append_nil] at this
     exact this
  have go:∀ (rest p:List (List api_Row)),p++rest=lists→drossref51_with.L1 lists b (withB p b) (p.length:Int) (fun q=>q=withB lists b):=by
   intro rest
   induction rest with
   | nil=>
    intro p hp
    rw [List.append_nil] at hp
    subst hp
    apply drossref51_with.L1_step
    rw [if_neg (by omega)]
   | cons li rest ih=>
    intro p hp
    have hpl:p.length+rest.length+1=lists.length:=by rw [← hp];simp;omega
    have hli:li∈lists:=by rw [← hp];simp
    have hget:lget lists (p.length:Int)=some li:=by
     rw [lget_nat,← hp,List.getElem?_append_right (Nat.le_refl _),Nat.sub_self];rfl
    apply drossref51_with.L1_step
    rw [if_pos (by omega)]
    have hacc:(withB p b).length≤100000000:=by
     have hbl:(blk fV b).length≤1000:=by rw [blk_len];exact Nat.le_trans keysB_len hb
     have:∀ q:List (List api_Row),(withB q b).length=q.length*(blk fV b).length:=by
      intro q
      induction q with
      | nil=>simp [withB]
      | cons a q ih=>
       have e:withB (a::q) b=((blk fV b).map fun g=>a++g)++withB q b:=rfl
       rw [e,List.length_append,List.length_map,ih,List.length_cons,Nat.succ_mul];omega
     rw [this]
     exact Nat.le_trans (Nat.mul_le_mul (show p.length≤100000 by omega) hbl) (by decide)
    have hnext:=ih (p++[li]) (by rw [List.append_assoc];exact hp)
    rw [List.length_append,List.length_singleton] at hnext
    have e:withB (p++[li]) b=withB p b++(blk fV b).map fun g=>li++g:=by
     unfold withB
     rw [List.flatMap_append]
     simp
    rw [e] at hnext
    have:=row li p.length (withB p b) hget (hll li hli) hacc hnext (by omega) b [] rfl
    have e0:keysB fV ([]:List api_Row)=[]:=rfl
    rw [e0,List.map_nil,List.append_nil] at this
    exact this
  exact go lists [] rfl)
 rw [← h1];exact h2
def allB (bs:List (List api_Row)):List (List api_Row):=bs.foldl withB [[]]
theorem withB_len {ls:List (List api_Row)} {b:List api_Row}:(withB ls b).length=ls.length*(blk fV b).length:=by
 induction ls with
 | nil=>simp [withB]
 | cons a q ih=>
  have e:withB (a::q) b=((blk fV b).map fun g=>a++g)++withB q b:=rfl
  rw [e,List.length_append,List.length_map,ih,List.length_cons,Nat.succ_mul];omega
theorem withB_each {ls:List (List api_Row)} {b:List api_Row} {m:Nat} (h:∀ li∈ls,li.length≤m):∀ li∈withB ls b,li.length≤m+b.length:=fun li hli=>by
 unfold withB at hli
 obtain ⟨l0,h0,h1⟩:=List.mem_flatMap.1 hli
 obtain ⟨g,h2,rfl⟩:=List.mem_map.1 h1
 unfold blk at h2
 obtain ⟨k,_,rfl⟩:=List.mem_map.1 h2
 rw [List.length_append]
 have:=h l0 h0
 have:=clB_len (f:=fV) (l:=b) (k:=k)
 omega
theorem drossref51_All.spec {t:api_Table} {key:Int} (hR:t.Rows.length≤8) (hv:∀ r∈t.Rows,StrV r∧r.Values.length=t.Attrs.length) (hk:U32 key):drossref51_All.C t key (allB (blk (fK key) t.Rows)):=by
 obtain ⟨q,h1,h2⟩:=drossref51_All.enter t key (fun q=>q=allB (blk (fK key) t.Rows)) ⟨_,drossref51_Blocks.spec (by omega) hv hk,by
  have hsum:=blk_sum_len (f:=fK key) (l:=t.Rows)
  have hbl:(blk (fK key) t.Rows).length≤8:=by rw [blk_len];exact Nat.le_trans keysB_len hR
  have hrow:∀ b∈blk (fK key) t.Rows,∀ r∈b,StrV r:=fun b hb r hr=>(hv r ((mem_blk hb).2 r hr).1).1
  generalize blk (fK key) t.Rows=bs at hsum hbl hrow
  have go:∀ (rest p:List (List api_Row)) (acc:List (List api_Row)) (m:Nat),p++rest=bs→acc.length≤2^m→(∀ li∈acc,li.length≤m)→m+(rest.map List.length).sum≤8→rest.foldl withB acc=allB bs→drossref51_All.L1 acc bs (p.length:Int) (fun q=>q=allB bs):=by
   intro rest
   induction rest with
   | nil=>
    intro p acc m hp ha hli hm hf
    rw [List.append_nil] at hp
    subst hp
    apply drossref51_All.L1_step
    rw [if_neg (by omega)]
    exact hf
   | cons b rest ih=>
    intro p acc m hp ha hli hm hf
    have hpl:p.length+rest.length+1=bs.length:=by rw [← hp];simp;omega
    have hget:lget bs (p.length:Int)=some b:=by
     rw [lget_nat,← hp,List.getElem?_append_right (Nat.le_refl _),Nat.sub_self];rfl
    rw [List.map_cons,List.sum_cons] at hm
    have h2m:(2:Nat)^m≤2^8:=Nat.pow_le_pow_right (by decide) (by omega)
    have h2:(2:Nat)^8=256:=by decide
    apply drossref51_All.L1_step
    rw [if_pos (by omega)]
    refine ⟨b,hget,_,drossref51_with.spec (by omega) (by omega) (fun li h=>by have:=hli li h;omega) (hrow b (by rw [← hp];simp)),?_⟩
    rw [wrap_succ (by omega)]
    have:=ih (p++[b]) (withB acc b) (m+b.length) (by rw [List.append_assoc];exact hp) (by
     rw [withB_len,Nat.pow_add]
     have hb1:(blk fV b).length≤b.length:=by rw [blk_len];exact keysB_len
     exact Nat.mul_le_mul ha (Nat.le_trans hb1 (Nat.le_of_lt Nat.lt_two_pow_self))) (withB_each hli) (by omega) hf
    rw [List.length_append,List.length_singleton] at this
    exact this
  exact go bs [] [[]] 0 rfl (by simp) (fun li h=>by rw [List.mem_singleton.1 h];simp) (by omega) rfl⟩
 rw [← h1];exact h2
end Go.Own
namespace Go.Own
theorem TV.strV {t:api_Table} (h:TV t):∀ r∈t.Rows,StrV r∧r.Values.length=t.Attrs.length:=fun r hr=>⟨(h.rowsOK.2 r hr).1,h.len hr⟩
theorem aggregate_Repairs.specG {t:api_Table} {key:Int} (hn:TNum t) (hk:U32 key) (hr:t.Rows.length≤8) :
  aggregate_Repairs.C t key (if keyE t key=0 then (((allB (blk (fK key) t.Rows)).length:Int),0) else (0,keyE t key)):=by
 generalize hR:(if keyE t key=0 then (((allB (blk (fK key) t.Rows)).length:Int),0) else (0,keyE t key):Int×Int)=R
 obtain ⟨q,h1,h2⟩:=aggregate_Repairs.enter t key (fun q=>q=R) (by
  refine ⟨_,aggregate_keyed.spec hk,?_⟩
  by_cases h0:keyE t key=0
  ·rw [if_pos h0];rw [if_pos h0] at hR
   obtain ⟨ht,_⟩:=keyE_zero h0
   refine ⟨_,aggregate_groups.specG ht hn hk (by simp) rfl (by unfold kindE;simp),?_⟩
   have hsum:=blk_sum_len (f:=fK key) (l:=t.Rows)
   have hbs:(blk (fK key) t.Rows).length≤1000:=by rw [blk_len];exact Nat.le_trans keysB_len ht.nr
   generalize blk (fK key) t.Rows=bs at hsum hR hbs
   have hbl:∀ (rest p:List (List api_Row)) (acc:List (List api_Row)) (m:Nat),p++rest=bs→acc.length≤2^m→m+(rest.map List.length).sum≤8→rest.foldl withB acc=allB bs→bs.length≤1000000→aggregate_Repairs.L1 (acc.length:Int) (bs.map (grpsB [] 1 0)) (p.length:Int) (fun q=>q=R):=by
    intro rest
    induction rest with
    | nil=>
     intro p acc m hp ha hm hf hbs
     rw [List.append_nil] at hp
     subst hp
     apply aggregate_Repairs.L1_step
     rw [if_neg (by rw [List.length_map];omega)]
     have hf:acc=allB p:=hf
     rw [hf];exact hR
    | cons b rest ih=>
     intro p acc m hp ha hm hf hbs
     have hpl:p.length+rest.length+1=bs.length:=by rw [← hp];simp;omega
     have hget:lget (bs.map (grpsB [] 1 0)) (p.length:Int)=some (grpsB [] 1 0 b):=by
      rw [lget_nat,List.getElem?_map,← hp,List.getElem?_append_right (Nat.le_refl _),Nat.sub_self];rfl
     rw [List.map_cons,List.sum_cons] at hm
     have h2m:(2:Nat)^(m+b.length)≤2^8:=Nat.pow_le_pow_right (by decide) (by omega)
     have h2:(2:Nat)^8=256:=by decide
     have hb1:(blk fV b).length≤b.length:=by rw [blk_len];exact keysB_len
     have hle:(withB acc b).length≤2^(m+b.length):=by
      rw [withB_len,Nat.pow_add]
      exact Nat.mul_le_mul ha (Nat.le_trans hb1 (Nat.le_of_lt Nat.lt_two_pow_self))
     have hgl:(grpsB [] 1 0 b).length=(blk fV b).length:=by unfold grpsB;rw [List.length_map]
     have e:IntKind.wrap .i64 ((acc.length:Int)*((grpsB [] 1 0 b).length:Int))=((withB acc b).length:Int):=by
      rw [hgl,← Int.natCast_mul,← withB_len]
      exact wrap_id (by omega) (by omega)
     apply aggregate_Repairs.L1_step
     rw [if_pos (by rw [List.length_map];omega)]
     refine ⟨_,hget,?_⟩
     rw [e,if_neg (by omega),wrap_succ (by omega)]
     have:=ih (p++[b]) (withB acc b) (m+b.length) (by rw [List.append_assoc];exact hp) hle (by omega) hf hbs
     rw [List.length_append,List.length_singleton] at this
     exact this
   exact hbl bs [] [[]] 0 rfl (by simp) (by omega) rfl (by omega)
  ·rw [if_neg h0];rw [if_neg h0] at hR;exact hR)
 rw [← h1];exact h2
theorem aggregate_empty_1.spec {g:aggregate_group}:aggregate_empty_1.C g (!g.ok):=by
 obtain ⟨r,h1,h2⟩:=aggregate_empty_1.enter g (fun r=>r=!g.ok) rfl
 rw [← h1];exact h2
theorem index_empty {gs:List aggregate_group} (hl:gs.length≤1000000):slices_IndexFunc_saggregate_group_aggregate_group_aggregate_empty_1.C gs (ixI (fun g=>!g.ok) gs):=by
 obtain ⟨q,h1,h2⟩:=slices_IndexFunc_saggregate_group_aggregate_group_aggregate_empty_1.enter gs (fun q=>q=ixI (fun g=>!g.ok) gs) (by
  refine index_loop (l:=gs) (p:=fun g=>!g.ok) (L:=fun i=>slices_IndexFunc_saggregate_group_aggregate_group_aggregate_empty_1.L1 gs i _) (φ:=fun q=>q=ixI (fun g=>!g.ok) gs) ?_ ?_ rfl
  ·intro h;apply slices_IndexFunc_saggregate_group_aggregate_group_aggregate_empty_1.L1_step;rw [if_neg (by omega)];exact h
  ·intro k g hk hlt h
   apply slices_IndexFunc_saggregate_group_aggregate_group_aggregate_empty_1.L1_step
   rw [if_pos (by omega)]
   refine ⟨g,lget_of hk,_,aggregate_empty_1.spec,?_⟩
   rw [wrap_succ (by omega)]
   exact h)
 rw [← h1];exact h2
theorem aggregate_empty.spec {gs:List aggregate_group} (hl:gs.length≤1000000):∃ r,aggregate_empty.C gs r∧r.2=gs.any (fun g=>!g.ok)∧(r.2=true→r.1∈gs∧r.1.ok=false)∧(r.2=false→r.1=zeroG):=by
 obtain ⟨q,h1,h2⟩:=aggregate_empty.enter gs (fun r=>r.2=gs.any (fun g=>!g.ok)∧(r.2=true→r.1∈gs∧r.1.ok=false)∧(r.2=false→r.1=zeroG)) (by
  refine ⟨_,index_empty hl,?_⟩
  have hany:=ixI_any (p:=fun g:aggregate_group=>!g.ok) (l:=gs)
  by_cases h:ixI (fun g:aggregate_group=>!g.ok) gs<0
  ·rw [if_pos h]
   rw [decide_eq_false (by omega)] at hany
   exact ⟨hany,fun h=>(by cases h),fun _=>rfl⟩
  ·rw [if_neg h]
   rw [decide_eq_true (by omega)] at hany
   rcases ixI_spec (p:=fun g:aggregate_group=>!g.ok) (l:=gs) with ⟨e,_⟩ | ⟨n,g,e,hg,hp,_⟩
   ·omega
   ·refine ⟨g,by rw [e];exact lget_of hg,hany,fun _=>⟨List.mem_of_getElem? hg,by simpa using hp⟩,fun h=>by cases h⟩)
 exact ⟨q,h2,h1⟩
theorem grps_any {l:List api_Condition} {k a:Int} {b:List api_Row}:(grpsB l k a b).any (fun g=>!g.ok)=b.any fun r=>!satF r l:=by
 unfold grpsB
 rw [List.any_map,Bool.eq_iff_iff,List.any_eq_true,List.any_eq_true]
 constructor
 ·rintro ⟨g,hg,h⟩
  obtain ⟨hne,hall⟩:=mem_blk hg
  cases g with
  | nil=>exact absurd rfl hne
  | cons r s=>
   refine ⟨r,(hall r (by simp)).1,?_⟩
   simpa [mkG_ok] using h
 ·rintro ⟨r,hr,h⟩
  have hk:fV r∈keysB fV b:=mem_keysB.2 ⟨r,hr,rfl⟩
  refine ⟨clB fV b (fV r),List.mem_map.2 ⟨_,hk,rfl⟩,?_⟩
  cases hc:clB fV b (fV r) with
  | nil=>exact absurd hc (clB_ne hk)
  | cons s q=>
   have hs:fV s=fV r:=(mem_clB.1 (by rw [hc];simp)).2
   have:satF s l=satF r l:=by
    unfold satF atV
    unfold fV at hs
    rw [hs]
   simpa [mkG_ok,this] using h
theorem keysB_cons {α κ:Type} [DecidableEq κ] {f:α→κ} {x:α} {l:List α}:∃ r,keysB f (x::l)=f x::r:=by
 have:∀ (m:List κ) (acc:List κ),acc≠[]→∃ r,m.foldl (fun acc a=>if a∈acc then acc else acc++[a]) acc=acc++r:=by
  intro m
  induction m with
  | nil=>intro acc _;exact ⟨[],by simp⟩
  | cons a m ih=>
   intro acc h
   rw [List.foldl_cons]
   split
   ·exact ih acc h
   ·obtain ⟨r,hr⟩:=ih (acc++[a]) (by simp)
    exact ⟨[a]++r,by rw [hr,List.append_assoc]⟩
 unfold keysB fsts
 rw [List.map_cons,List.foldl_cons,if_neg (by simp)]
 obtain ⟨r,hr⟩:=this (l.map f) ([]++[f x]) (by simp)
 exact ⟨r,by rw [hr];rfl⟩
theorem grps_first {l:List api_Condition} {k a:Int} {x:api_Row} {b:List api_Row}:∃ g r,grpsB l k a (x::b)=g::r∧∃ s,g.ids=x.ID::s:=by
 obtain ⟨r,hr⟩:=keysB_cons (f:=fV) (x:=x) (l:=b)
 unfold grpsB blk
 rw [hr,List.map_cons,List.map_cons]
 refine ⟨_,_,rfl,?_⟩
 rw [mkG_ids]
 unfold clB
 rw [List.filter_cons,if_pos (decide_eq_true rfl)]
 exact ⟨_,rfl⟩
def crtF (l:List api_Condition) (bs:List (List api_Row)):List Int:=bs.filterMap fun b=>if b.any (fun r=>!satF r l)=true then none else b.head?.map api_Row.ID
def crtR (t:api_Table) (key:Int) (l:List api_Condition):List Int×Int:=
 if keyE t key=0 then (if condE t.Attrs.length l=0 then (crtF l (blk (fK key) t.Rows),0) else ([],condE t.Attrs.length l)) else ([],keyE t key)
theorem aggregate_Certain.spec {t:api_Table} {key:Int} {l:List api_Condition} (hn:TNum t) (hk:U32 key) (hl:l.length≤1000):aggregate_Certain.C t key l (crtR t key l):=by
 generalize hR:crtR t key l=R
 obtain ⟨q,h1,h2⟩:=aggregate_Certain.enter t key l (fun q=>q=R) (by
  refine ⟨_,aggregate_check.specK hk hl,?_⟩
  unfold crtR at hR
  unfold allE
  by_cases h0:keyE t key=0
  ·rw [if_pos h0] at hR
   simp only [if_pos h0]
   by_cases h1:condE t.Attrs.length l=0
   ·rw [if_pos h1] at hR
    simp only [if_pos h1]
    have hk0:kindE t.Attrs.length 1 0=0:=by unfold kindE;simp
    rw [if_pos hk0]
    obtain ⟨ht,_⟩:=keyE_zero h0
    refine ⟨_,aggregate_groups.specG ht hn hk hl h1 hk0,?_⟩
    have hbs:(blk (fK key) t.Rows).length≤1000:=by rw [blk_len];exact Nat.le_trans keysB_len ht.nr
    have hne:∀ b∈blk (fK key) t.Rows,b≠[]∧b.length≤1000:=fun b hb=>⟨(mem_blk hb).1,by
     unfold blk at hb
     obtain ⟨k,_,rfl⟩:=List.mem_map.1 hb
     exact Nat.le_trans clB_len ht.nr⟩
    generalize blk (fK key) t.Rows=bs at hbs hne hR
    have go:∀ (rest p:List (List api_Row)) (acc:List Int),p++rest=bs→acc.length≤p.length→acc++crtF l rest=crtF l bs→aggregate_Certain.L1 acc (bs.map (grpsB l 1 0)) (p.length:Int) (fun q=>q=R):=by
     intro rest
     induction rest with
     | nil=>
      intro p acc hp ha hf
      rw [List.append_nil] at hp
      subst hp
      apply aggregate_Certain.L1_step
      rw [if_neg (by rw [List.length_map];omega)]
      have:acc=crtF l p:=by simpa [crtF] using hf
      rw [this];exact hR
     | cons b rest ih=>
      intro p acc hp ha hf
      have hpl:p.length+rest.length+1=bs.length:=by rw [← hp];simp;omega
      have hb:=hne b (by rw [← hp];simp)
      have hget:lget (bs.map (grpsB l 1 0)) (p.length:Int)=some (grpsB l 1 0 b):=by
       rw [lget_nat,List.getElem?_map,← hp,List.getElem?_append_right (Nat.le_refl _),Nat.sub_self];rfl
      have hgl:(grpsB l 1 0 b).length≤1000:=by
       unfold grpsB;rw [List.length_map,blk_len];exact Nat.le_trans keysB_len hb.2
      have next:∀ acc',acc'.length≤p.length+1→acc'++crtF l rest=crtF l bs→aggregate_Certain.L2 acc' (bs.map (grpsB l 1 0)) (p.length:Int) (fun q=>q=R):=fun acc' h1 h2=>by
       apply aggregate_Certain.L2_step
       rw [wrap_succ (by omega)]
       have:=ih (p++[b]) acc' (by rw [List.append_assoc];exact hp) (by rw [List.length_append,List.length_singleton];exact h1) h2
       rw [List.length_append,List.length_singleton] at this
       exact this
      apply aggregate_Certain.L1_step
      rw [if_pos (by rw [List.length_map];omega)]
      obtain ⟨r,r1,r2,r3,r4⟩:=aggregate_empty.spec (gs:=grpsB l 1 0 b) (by omega)
      refine ⟨_,hget,r,r1,?_⟩
      rw [r2,grps_any]
      unfold crtF at hf
      rw [List.filterMap_cons] at hf
      by_cases hs:b.any (fun r=>!satF r l)=true
      ·rw [if_pos hs]
       simp only [if_pos hs] at hf
       exact next acc (by omega) hf
      ·rw [if_neg hs]
       simp only [if_neg hs] at hf
       cases b with
       | nil=>exact absurd rfl hb.1
       | cons x b=>
        obtain ⟨g,gr,g1,s,g2⟩:=grps_first (l:=l) (k:=1) (a:=0) (x:=x) (b:=b)
        refine ⟨g,by rw [g1];rfl,x.ID,by rw [g2];rfl,by omega,next _ (by rw [List.length_append];simp;omega) ?_⟩
        rw [List.append_assoc];exact hf
    exact go bs [] [] rfl (by simp) rfl
   ·rw [if_neg h1] at hR
    simp only [if_neg h1]
    exact hR
  ·rw [if_neg h0] at hR
   simp only [if_neg h0]
   exact hR)
 rw [← h1];exact h2
theorem drossref51_chosen.spec {rows:List api_Row} {l:List api_Condition} (hl:l.length≤1000) (hr:rows.length≤1000000) (hv:∀ r∈rows,(∀ v∈r.Values,validV v=true)∧∀ c∈l,cond1 r.Values.length c=0):drossref51_chosen.C rows l (rows.filter fun r=>satF r l):=by
 obtain ⟨q,h1,h2⟩:=drossref51_chosen.enter rows l (fun q=>q=rows.filter fun r=>satF r l) ⟨_,drossref51_Rows.spec (t:=⟨(⟨#[]⟩:ByteArray),[],rows⟩) hl hr hv,rfl⟩
 rw [← h1];exact h2
theorem drossref51_Certain.spec {t:api_Table} {key:Int} {l:List api_Condition} (hk:U32 key) (hl:l.length≤1000):drossref51_Certain.C t key l (crtR t key l):=by
 generalize hR:crtR t key l=R
 obtain ⟨q,h1,h2⟩:=drossref51_Certain.enter t key l (fun q=>q=R) (by
  refine ⟨_,drossref51_Key.spec hk,?_⟩
  unfold crtR at hR
  by_cases h0:keyE t key=0
  ·rw [if_pos h0] at hR ⊢
   refine ⟨_,drossref51_Conditions.spec hl,?_⟩
   by_cases h1:condE t.Attrs.length l=0
   ·rw [if_pos h1] at hR ⊢
    obtain ⟨ht,_⟩:=keyE_zero h0
    refine ⟨_,drossref51_Blocks.spec ht.nr ht.strV hk,?_⟩
    have hbs:(blk (fK key) t.Rows).length≤1000:=by rw [blk_len];exact Nat.le_trans keysB_len ht.nr
    have hne:∀ b∈blk (fK key) t.Rows,b≠[]∧b.length≤1000∧∀ r∈b,(∀ v∈r.Values,validV v=true)∧∀ c∈l,cond1 r.Values.length c=0:=fun b hb=>⟨(mem_blk hb).1,by
     unfold blk at hb
     obtain ⟨k,_,rfl⟩:=List.mem_map.1 hb
     exact Nat.le_trans clB_len ht.nr,fun r hr=>by
      have:=ht.strV r ((mem_blk hb).2 r hr).1
      exact ⟨this.1.1,fun c hc=>by rw [this.2];exact condE_ok h1 c hc⟩⟩
    generalize blk (fK key) t.Rows=bs at hbs hne hR
    have go:∀ (rest p:List (List api_Row)) (acc:List Int),p++rest=bs→acc.length≤p.length→acc++crtF l rest=crtF l bs→drossref51_Certain.L1 l acc bs (p.length:Int) (fun q=>q=R):=by
     intro rest
     induction rest with
     | nil=>
      intro p acc hp ha hf
      rw [List.append_nil] at hp
      subst hp
      apply drossref51_Certain.L1_step
      rw [if_neg (by omega)]
      have:acc=crtF l p:=by simpa [crtF] using hf
      rw [this];exact hR
     | cons b rest ih=>
      intro p acc hp ha hf
      have hpl:p.length+rest.length+1=bs.length:=by rw [← hp];simp;omega
      have hb:=hne b (by rw [← hp];simp)
      have hget:lget bs (p.length:Int)=some b:=by
       rw [lget_nat,← hp,List.getElem?_append_right (Nat.le_refl _),Nat.sub_self];rfl
      have next:∀ acc',acc'.length≤p.length+1→acc'++crtF l rest=crtF l bs→drossref51_Certain.L2 l acc' bs (p.length:Int) (fun q=>q=R):=fun acc' h1 h2=>by
       apply drossref51_Certain.L2_step
       rw [wrap_succ (by omega)]
       have:=ih (p++[b]) acc' (by rw [List.append_assoc];exact hp) (by rw [List.length_append,List.length_singleton];exact h1) h2
       rw [List.length_append,List.length_singleton] at this
       exact this
      apply drossref51_Certain.L1_step
      rw [if_pos (by omega)]
      refine ⟨_,hget,_,drossref51_chosen.spec hl (by omega) hb.2.2,?_⟩
      unfold crtF at hf
      rw [List.filterMap_cons] at hf
      have hfl:((b.filter fun r=>satF r l).length=b.length)↔¬ b.any (fun r=>!satF r l)=true:=by
       rw [List.length_filter_eq_length_iff,List.any_eq_true]
       constructor
       ·rintro h ⟨r,hr,hs⟩
        rw [h r hr] at hs;cases hs
       ·intro h r hr
        cases hs:satF r l with
        | true=>rfl
        | false=>exact absurd ⟨r,hr,by rw [hs];rfl⟩ h
      by_cases hs:b.any (fun r=>!satF r l)=true
      ·rw [if_neg (fun h=>hfl.1 (by omega) hs)]
       simp only [if_pos hs] at hf
       exact next acc (by omega) hf
      ·rw [if_pos (by have:=hfl.2 hs;omega)]
       simp only [if_neg hs] at hf
       cases b with
       | nil=>exact absurd rfl hb.1
       | cons x b=>
        refine ⟨x,rfl,by omega,next _ (by rw [List.length_append];simp;omega) ?_⟩
        rw [List.append_assoc];exact hf
    exact go bs [] [] rfl (by simp) rfl
   ·rw [if_neg h1] at hR ⊢
    exact hR
  ·rw [if_neg h0] at hR ⊢
   exact hR)
 rw [← h1];exact h2
theorem drossref03_IDs.self {l:List Int} (hl:l.length≤1000000):drossref03_IDs.C l l true:=by
 obtain ⟨q,h1,h2⟩:=drossref03_IDs.enter l l (fun q=>q=true) (by
  rw [if_pos rfl]
  have:∀ (r:List Int) (k:Nat),l.drop k=r→drossref03_IDs.L1 l l (k:Int) (fun q=>q=true):=by
   intro r
   induction r with
   | nil=>
    intro k hd
    have:=drop_ge hd
    apply drossref03_IDs.L1_step
    rw [if_neg (by omega)]
   | cons x r ih=>
    intro k hd
    have hlt:=drop_lt hd
    apply drossref03_IDs.L1_step
    rw [if_pos (by omega)]
    refine ⟨x,lget_drop hd,x,lget_drop hd,?_⟩
    rw [if_pos rfl,wrap_succ (by omega)]
    exact ih (k+1) (drop_next hd)
  exact this l 0 rfl)
 subst h1;exact h2
theorem crtR_len {t:api_Table} {key:Int} {l:List api_Condition}:(crtR t key l).1.length≤1000:=by
 unfold crtR
 by_cases h0:keyE t key=0
 ·rw [if_pos h0]
  by_cases h1:condE t.Attrs.length l=0
  ·rw [if_pos h1]
   obtain ⟨ht,_⟩:=keyE_zero h0
   have hbs:(blk (fK key) t.Rows).length≤1000:=by rw [blk_len];exact Nat.le_trans keysB_len ht.nr
   exact Nat.le_trans (List.length_filterMap_le _ _) hbs
  ·rw [if_neg h1];simp
 ·rw [if_neg h0];simp
end Go.Own
namespace Go.Own
namespace drosslaw51_AggregateRepairs
theorem spec (x:drosslaw51_Job) (hn:TNum x.T) (hk:U32 x.Key):C x true:=by
 obtain ⟨r,h1,h2⟩:=enter x (fun r=>r=true) (by
  refine ⟨true,drosslaw51_awake.spec,?_⟩
  rw [if_pos rfl]
  have again:L1 (fun r=>r=true):=by
   apply L1_step
   exact ⟨true,drosslaw51_awake.spec,rfl⟩
  refine ⟨_,few51 rfl,?_⟩
  by_cases a:(x.T.Rows.length:Int)≤8
  ·rw [if_pos a]
   by_cases b:(x.T.Attrs.length:Int)≤20
   ·rw [if_pos b]
    by_cases c:(x.L.length:Int)≤4
    ·rw [if_pos (decide_eq_true c)]
     refine ⟨_,aggregate_Repairs.specG hn hk (by omega),by omega,_,aggregate_Certain.spec hn hk (by omega),_,drossref51_Certain.spec hk (by omega),_,drossref51_Key.spec hk,?_⟩
     by_cases h0:keyE x.T x.Key=0
     ·rw [if_pos h0,if_pos h0,if_pos rfl]
      obtain ⟨ht,_⟩:=keyE_zero h0
      refine ⟨_,drossref51_All.spec (by omega) ht.strV hk,?_⟩
      rw [if_pos rfl,if_pos rfl]
      exact ⟨true,drossref03_IDs.self (by have:=crtR_len (t:=x.T) (key:=x.Key) (l:=x.L);omega),rfl⟩
     ·rw [if_neg h0,if_neg h0,if_pos rfl,if_pos rfl]
      have e:crtR x.T x.Key x.L=([],keyE x.T x.Key):=by unfold crtR;rw [if_neg h0]
      rw [e,if_pos rfl]
      rfl
    ·rw [if_neg (by rw [decide_eq_true_iff];exact c)];exact again
   ·rw [if_neg b,if_neg Bool.false_ne_true];exact again
  ·rw [if_neg a,if_neg Bool.false_ne_true];exact again)
 subst h1;exact h2
theorem law {xs:List D} (hx:TyAll env.P drosslaw51_AggregateRepairs_K drosslaw51_AggregateRepairs_T xs):Ret env drosslaw51_AggregateRepairs_F xs (.lit (.bool true)) []:=
 drosslaw51_AggregateRepairs_of (fun x h=>spec x (fun r hr v hv=>i64_of ((h.1.2.2.2 r hr).2.2 v hv).2.1) (u32_of h.2.1)) hx
end drosslaw51_AggregateRepairs
end Go.Own
