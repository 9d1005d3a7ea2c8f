/- What the functions that the law reaches answer. No conditions. -/
import Derived.Test.YteenpfaegjdkoaaGreatAggregateExtremesLaw4
import Derived.Test.YteenpfaegjdkoaaGreatAggregateExtremesLaw6
import Derived.Test.YteenpfaegjdkoaaGreatAggregateExtremesLaw2
import Derived.Test.YteenpfaegjdkoaaGreatAggregateExtremesLaw3
set_option linter.all false
namespace Go.Own
def letB (x:Int):Bool:=decide (97≤x∧x≤122∨65≤x∧x≤90∨x=95)
def alnB (x:Int):Bool:=letB x || decide (48≤x∧x≤57)
def nullB:List UInt8:=[110,117,108,108]
theorem bl_null:((⟨#[110,117,108,108]⟩:ByteArray)).toList=nullB:=bl_mk (l:=nullB)
theorem bl_nil:((⟨#[]⟩:ByteArray)).toList=[]:=bl_mk (l:=[])
def nameL:List UInt8→Bool
 | []=>false
 | b::r=>decide (r.length<24)&&letB (u8i b)&&!decide (b::r=nullB)&&r.all fun b=>alnB (u8i b)
def nameF (s:ByteArray):Bool:=nameL s.toList
namespace drossref03_letter
theorem spec {x : Int} : C x (letB x) := by
  obtain ⟨r, h1, h2⟩ := enter x (fun r => r = letB x) (by
    unfold letB
    repeat' split
    all_goals first
      | (symm; rw [decide_eq_true_iff]; omega)
      | (by_cases h : x = 95
         · simp [h]
         · have : (x == 95) = false := by simpa using h
           rw [this]; symm; rw [decide_eq_false_iff_not]; omega))
  rw [← h1]; exact h2
end drossref03_letter
theorem aln_step {φ:Bool→Prop} {P:Prop} {x:Int} (h:if alnB x=true then P else φ false) (hl:¬ letB x=true):if x<48 then φ false else if 57<x then φ false else P:=by
 have e:alnB x=decide (48≤x∧x≤57):=by unfold alnB;rw [Bool.eq_false_iff.2 hl,Bool.false_or]
 rw [e] at h
 repeat' split
 ·rw [if_neg (by rw [decide_eq_true_iff];omega)] at h;exact h
 ·rw [if_neg (by rw [decide_eq_true_iff];omega)] at h;exact h
 ·rw [if_pos (by rw [decide_eq_true_iff];omega)] at h;exact h
namespace drossref03_Name
theorem spec {s : ByteArray} : C s (nameF s) := by
  obtain ⟨r, h1, h2⟩ := enter s (fun r => r = nameF s) (by
    unfold nameF
    rw [bsize_eq, bl_null]
    cases hs : s.toList with
    | nil => simp [nameL]
    | cons b t =>
      rw [if_neg (by simp; omega)]
      split
      · rename_i hn
        have hn : 24 ≤ t.length := by simp at hn; omega
        simp [nameL]; omega
      · rename_i hn
        have hn : t.length < 24 := by simp at hn; omega
        refine ⟨b, bget_of (by rw [hs]; rfl), letB (u8i b), drossref03_letter.spec, ?_⟩
        split
        · rename_i hb
          split
          · rename_i h0
            simp [nameL, nullB, h0]
          · rename_i h0
            refine all_loop (l := s.toList) (p := fun b => alnB (u8i b)) (L := fun i => L1 s i fun r => r = nameL (b :: t)) (φ := fun r => r = nameL (b :: t)) ?_ ?_ ?_
            · intro h
              apply L1_step
              rw [bsize_eq, if_neg (by omega)]; exact h
            · intro k c hc hk h
              apply L1_step
              rw [bsize_eq, if_pos (by omega)]
              have next : L1 s ((k + 1 : Nat) : Int) (fun r => r = nameL (b :: t)) → L2 s k fun r => r = nameL (b :: t) := fun h => by
                apply L2_step
                rw [wrap_succ (by have : s.toList.length = (b :: t).length := by rw [hs]
                                  simp at this; omega)]
                exact h
              refine ⟨c, bget_of hc, _, drossref03_letter.spec, ?_⟩
              split
              · rename_i hl
                rw [if_pos (by unfold alnB; rw [hl]; rfl)] at h
                exact next h
              · rename_i hl
                have h3 := aln_step (φ := fun r => r = nameL (b :: t)) (P := L2 s k fun r => r = nameL (b :: t)) (by
                  split
                  · rename_i hh; rw [if_pos hh] at h; exact next h
                  · rename_i hh; rw [if_neg hh] at h; exact h) hl
                refine ⟨c, bget_of hc, ?_⟩
                split
                · rename_i h4; rw [if_pos h4] at h3; exact h3
                · rename_i h4; rw [if_neg h4] at h3; exact ⟨c, bget_of hc, h3⟩
            · rw [hs]
              have e : alnB (u8i b) = true := by unfold alnB; rw [hb]; rfl
              simp only [List.all_cons, e, Bool.true_and, nameL, hb, h0, decide_false, Bool.not_false, Bool.and_true]
              simp [hn]
        · rename_i hb
          simp [nameL, hb])
  rw [← h1]; exact h2
end drossref03_Name
namespace table_isName
theorem two {s:ByteArray} {i:Int} {φ:Bool→Prop} {x:Int} (h:if letB x=true then L3 s i φ else if i=0 then φ false else if x<48 then φ false else if 57<x then φ false else L3 s i φ):L2 s i x (letB x) φ:=by
 apply L2_step;exact h
theorem spec {s : ByteArray} : C s (nameF s) := by
  obtain ⟨r, h1, h2⟩ := enter s (fun r => r = nameF s) (by
    unfold nameF
    rw [bsize_eq, bl_null, bl_nil]
    cases hs : s.toList with
    | nil => simp [nameL]
    | cons b t =>
      rw [if_neg (by simp)]
      split
      · rename_i hn
        have hn : 24 ≤ t.length := by simp at hn; omega
        simp [nameL]; omega
      · rename_i hn
        have hn : t.length < 24 := by simp at hn; omega
        have hlen : s.toList.length = t.length + 1 := by rw [hs]; rfl
        split
        · rename_i h0
          simp [nameL, nullB, h0]
        · rename_i h0
          have body : ∀ (k : Nat) c, s.toList[k]? = some c → (if letB (u8i c) = true then L1 s ((k + 1 : Nat) : Int) (fun r => r = nameL (b :: t)) else if (k : Int) = 0 then false = nameL (b :: t) else if (u8i c) < 48 then false = nameL (b :: t) else if 57 < (u8i c) then false = nameL (b :: t) else L1 s ((k + 1 : Nat) : Int) (fun r => r = nameL (b :: t))) → L1 s k (fun r => r = nameL (b :: t)) := by
            intro k c hc h
            have hk := (List.getElem?_eq_some_iff.1 hc).1
            apply L1_step
            rw [bsize_eq, if_pos (by omega)]
            refine ⟨c, bget_of hc, ?_⟩
            have next : L1 s ((k + 1 : Nat) : Int) (fun r => r = nameL (b :: t)) → L3 s k fun r => r = nameL (b :: t) := fun h => by
              apply L3_step
              rw [wrap_succ (by omega)]
              exact h
            have key : L2 s k (u8i c) (letB (u8i c)) fun r => r = nameL (b :: t) := by
              apply two
              split
              · rename_i hh; rw [if_pos hh] at h; exact next h
              · rename_i hh; rw [if_neg hh] at h
                split
                · rename_i h2; rw [if_pos h2] at h; exact h
                · rename_i h2; rw [if_neg h2] at h
                  split
                  · rename_i h3; rw [if_pos h3] at h; exact h
                  · rename_i h3; rw [if_neg h3] at h
                    split
                    · rename_i h4; rw [if_pos h4] at h; exact h
                    · rename_i h4; rw [if_neg h4] at h; exact next h
            have e : ∀ v, v = letB (u8i c) → L2 s k (u8i c) v fun r => r = nameL (b :: t) := by rintro _ rfl; exact key
            repeat' split
            all_goals apply e
            all_goals unfold letB
            all_goals first
              | (symm; rw [decide_eq_true_iff]; omega)
              | (by_cases h : u8i c = 95
                 · simp [h]
                 · have : (u8i c == 95) = false := by simpa using h
                   rw [this]; symm; rw [decide_eq_false_iff_not]; omega)
          have h0s : s.toList[0]? = some b := by rw [hs]; rfl
          refine body 0 b h0s ?_
          split
          · rename_i hb
            have rest := all_loop (l := t) (p := fun b => alnB (u8i b)) (L := fun i => L1 s (i + 1) fun r => r = nameL (b :: t)) (φ := fun r => r = nameL (b :: t)) ?_ ?_ ?_
            · simpa using rest
            · intro h
              apply L1_step
              rw [bsize_eq, if_neg (by omega)]; exact h
            · intro k c hc hk h
              have e1 : ((k : Nat) : Int) + 1 = ((k + 1 : Nat) : Int) := by omega
              rw [e1]
              refine body (k + 1) c (by rw [hs]; simpa using hc) ?_
              split
              · rename_i hl
                rw [if_pos (by unfold alnB; rw [hl]; rfl)] at h
                exact h
              · rename_i hl
                rw [if_neg (by omega)]
                exact aln_step (φ := fun r => r = nameL (b :: t)) h hl
            · simp [nameL, hb, h0, hn]
          · rename_i hb
            simp [nameL, hb])
  rw [← h1]; exact h2
end table_isName
def eqS (x a:ByteArray):Bool:=decide (a=x)
def namesGo:List ByteArray→List ByteArray→Bool
 | _,[]=>true
 | pre,a::r=>nameF a&&!pre.any (eqS a)&&namesGo (pre++[a]) r
def namesF (l:List ByteArray):Bool:=namesGo [] l
namespace slices_Index_sstring_string
theorem spec {l:List ByteArray} {x:ByteArray} (hn:l.length<Big):C l x (ixI (eqS x) l):=by
 obtain ⟨r,h1,h2⟩:=enter l x (fun r=>r=ixI (eqS x) l) (by
  refine index_loop (l:=l) (p:=eqS x) (L:=fun i=>L1 l x i _) (φ:=fun r=>r=ixI (eqS x) l) ?_ ?_ rfl
  ·intro h;apply L1_step;rw [if_neg (by omega)];exact h
  ·intro k a ha hk h
   apply L1_step
   rw [if_pos (by omega)]
   refine ⟨a,lget_of ha,?_⟩
   rw [wrap_succ (by unfold Big at hn;omega)]
   split
   ·rename_i hh;rw [if_pos (by simp [eqS,bl_inj.1 hh])] at h;exact h
   ·rename_i hh;rw [if_neg (by simp only [eqS,decide_eq_true_eq];rintro rfl;exact hh rfl)] at h;exact h)
 rw [← h1];exact h2
end slices_Index_sstring_string
theorem slices_Contains_sstring_string.spec {l:List ByteArray} {x:ByteArray} (hn:l.length<Big):slices_Contains_sstring_string.C l x (l.any (eqS x)):=by
 obtain ⟨r,h1,h2⟩:=slices_Contains_sstring_string.enter l x (fun r=>r=l.any (eqS x)) ⟨_,slices_Index_sstring_string.spec hn,by rw [ixI_any]⟩
 rw [← h1];exact h2
namespace drossref03_Attr
theorem spec {l:List ByteArray} {x:ByteArray} (hn:l.length<Big):C l x (ixI (eqS x) l):=by
 obtain ⟨r,h1,h2⟩:=enter l x (fun r=>r=ixI (eqS x) l) (by
  refine index_loop (l:=l) (p:=eqS x) (L:=fun i=>L1 l x i _) (φ:=fun r=>r=ixI (eqS x) l) ?_ ?_ rfl
  ·intro h;apply L1_step;rw [if_neg (by omega)];exact h
  ·intro k a ha hk h
   apply L1_step
   rw [if_pos (by omega)]
   refine ⟨a,lget_of ha,?_⟩
   rw [wrap_succ (by unfold Big at hn;omega)]
   split
   ·rename_i hh;rw [if_pos (by simp [eqS,bl_inj.1 hh])] at h;exact h
   ·rename_i hh;rw [if_neg (by simp only [eqS,decide_eq_true_eq];rintro rfl;exact hh rfl)] at h;exact h)
 rw [← h1];exact h2
end drossref03_Attr
theorem names_loop {l : List ByteArray} {L : Int → Prop} {P Q : Prop} (stop : P → L (l.length : Int))
    (step : ∀ (k : Nat) a, l[k]? = some a → k < l.length → (if nameF a = true then (if (l.take k).any (eqS a) = true then Q else L ((k + 1 : Nat) : Int)) else Q) → L k) (h : namesF l = true → P) (h' : namesF l = false → Q) : L 0 := by
  have : ∀ (r : List ByteArray) (k : Nat), l.drop k = r → k ≤ l.length → (namesGo (l.take k) r = true → P) → (namesGo (l.take k) r = false → Q) → L k := by
    intro r
    induction r with
    | nil => intro k hd hk h h'; have : k = l.length := by have := drop_ge hd; omega
             subst this; exact stop (h rfl)
    | cons a r ih =>
      intro k hd hk h h'
      have hlt := drop_lt hd
      refine step k a (drop_get hd) hlt ?_
      have hn := ih (k + 1) (drop_next hd) hlt
      have e : l.take (k + 1) = l.take k ++ [a] := by rw [List.take_add_one, drop_get hd]; rfl
      rw [e] at hn
      simp only [namesGo] at h h'
      split
      · rename_i h1
        split
        · rename_i h2
          exact h' (by simp [h1, h2])
        · rename_i h2
          have h2 := Bool.eq_false_iff.2 h2
          exact hn (fun hh => h (by simp [h1, h2, hh])) (fun hh => h' (by simp [h1, h2, hh]))
      · rename_i h1
        have h1 := Bool.eq_false_iff.2 h1
        exact h' (by simp [h1])
  exact this l 0 rfl (Nat.zero_le _) h h'
theorem drossref03_Names.spec {l:List ByteArray} (hn:l.length<Big):drossref03_Names.C l (namesF l):=by
 obtain ⟨r,h1,h2⟩:=drossref03_Names.enter l (fun r=>r=namesF l) (by
  refine names_loop (l:=l) (L:=fun i=>drossref03_Names.L1 l i _) (P:=true=namesF l) (Q:=false=namesF l) ?_ ?_ Eq.symm Eq.symm
  ·intro h;apply drossref03_Names.L1_step;rw [if_neg (by omega)];exact h
  ·intro k a ha hk h
   apply drossref03_Names.L1_step
   rw [if_pos (by omega)]
   refine ⟨a,lget_of ha,_,drossref03_Name.spec,?_⟩
   split
   ·rename_i h1;rw [if_pos h1] at h
    refine ⟨by omega,by omega,_,drossref03_Attr.spec (by rw [List.length_take];omega),?_⟩
    rw [Int.toNat_natCast,Nat.sub_zero,wrap_succ (by unfold Big at hn;omega)]
    have e:(0≤ixI (eqS a) (l.take k))↔(l.take k).any (eqS a)=true:=by rw [← ixI_any,decide_eq_true_iff]
    split
    ·rename_i h2;rw [if_pos (e.1 h2)] at h;exact h
    ·rename_i h2;rw [if_neg (fun hh=>h2 (e.2 hh))] at h;exact h
   ·rename_i h1;rw [if_neg h1] at h;exact h)
 rw [← h1];exact h2
def validV (v:api_Value):Bool:=decide (v.Kind=0∧v.Num=0∧v.Str.toList=[]∨v.Kind=1∧v.Str.toList=[]∨v.Kind=2∧v.Num=0∧v.Str.toList.length≤200∨v.Kind=3∧1≤v.Num∧v.Str.toList=[])
theorem valid_goal {v : api_Value} {φ : Bool → Prop} (h : φ (validV v)) : (if v.Kind = 0 then (if v.Num = 0 then φ ((v.Str.toList == ((⟨#[]⟩ : ByteArray)).toList)) else φ false) else (if v.Kind = 1 then φ ((v.Str.toList == ((⟨#[]⟩ : ByteArray)).toList)) else (if v.Kind = 2 then (if v.Num = 0 then φ ((decide ((bsize v.Str) ≤ 200))) else φ false) else (if v.Kind = 3 then (if 1 ≤ v.Num then φ ((v.Str.toList == ((⟨#[]⟩ : ByteArray)).toList)) else φ false) else φ false)))) := by
  have e : ∀ b, b = validV v → φ b := by rintro _ rfl; exact h
  have e0 : (v.Str.toList == ((⟨#[]⟩ : ByteArray)).toList) = decide (v.Str.toList = []) := by
    rw [bl_nil]
    by_cases h : v.Str.toList = []
    · simp [h]
    · simp [h]
  rw [e0, bsize_eq]
  repeat' split
  all_goals apply e
  all_goals unfold validV
  all_goals first
    | (rw [decide_eq_decide]; omega)
    | (symm; rw [decide_eq_false_iff_not]; omega)
    | (rw [decide_eq_decide]; constructor
       · intro h; simp_all
       · intro h; simp_all)
theorem value_Valid.spec {v:api_Value}:value_Valid.C v (validV v):=by
 obtain ⟨r,h1,h2⟩:=value_Valid.enter v (fun r=>r=validV v) (valid_goal (φ:=fun r=>r=validV v) rfl)
 rw [← h1];exact h2
theorem drossref01_Valid.spec {v:api_Value}:drossref01_Valid.C v (validV v):=by
 obtain ⟨r,h1,h2⟩:=drossref01_Valid.enter v (fun r=>r=validV v) (valid_goal (φ:=fun r=>r=validV v) rfl)
 rw [← h1];exact h2
def validsF (l:List api_Value):Bool:=l.all validV
theorem table_validValues_1.spec {v:api_Value}:table_validValues_1.C v (!validV v):=by
 obtain ⟨r,h1,h2⟩:=table_validValues_1.enter v (fun r=>r=!validV v) ⟨_,value_Valid.spec,rfl⟩
 rw [← h1];exact h2
namespace slices_IndexFunc_sapi_Value_api_Value_table_validValues_1
theorem spec {l:List api_Value} (hn:l.length<Big):C l (ixI (fun v=>!validV v) l):=by
 obtain ⟨r,h1,h2⟩:=enter l (fun r=>r=ixI (fun v=>!validV v) l) (by
  refine index_loop (l:=l) (p:=fun v=>!validV v) (L:=fun i=>L1 l i _) (φ:=fun r=>r=ixI (fun v=>!validV v) l) ?_ ?_ rfl
  ·intro h;apply L1_step;rw [if_neg (by omega)];exact h
  ·intro k a ha hk h
   apply L1_step
   rw [if_pos (by omega)]
   refine ⟨a,lget_of ha,_,table_validValues_1.spec,?_⟩
   rw [wrap_succ (by unfold Big at hn;omega)]
   exact h)
 rw [← h1];exact h2
end slices_IndexFunc_sapi_Value_api_Value_table_validValues_1
theorem slices_ContainsFunc_sapi_Value_api_Value_table_validValues_1.spec {l:List api_Value} (hn:l.length<Big):slices_ContainsFunc_sapi_Value_api_Value_table_validValues_1.C l (!validsF l):=by
 obtain ⟨r,h1,h2⟩:=slices_ContainsFunc_sapi_Value_api_Value_table_validValues_1.enter l (fun r=>r=!validsF l) ⟨_,slices_IndexFunc_sapi_Value_api_Value_table_validValues_1.spec hn,by
  rw [ixI_any];unfold validsF;rw [List.any_eq_not_all_not];simp⟩
 rw [← h1];exact h2
theorem table_validValues.spec {l:List api_Value} (hn:l.length<Big):table_validValues.C l (validsF l):=by
 obtain ⟨r,h1,h2⟩:=table_validValues.enter l (fun r=>r=validsF l) ⟨_,slices_ContainsFunc_sapi_Value_api_Value_table_validValues_1.spec hn,by
  show (!(!validsF l))=_
  rw [Bool.not_not]⟩
 rw [← h1];exact h2
theorem drossref01_Valids.spec {l:List api_Value} (hn:l.length<Big):drossref01_Valids.C l (validsF l):=by
 obtain ⟨r,h1,h2⟩:=drossref01_Valids.enter l (fun r=>r=validsF l) (by
  refine all_loop (l:=l) (p:=validV) (L:=fun i=>drossref01_Valids.L1 l i _) (φ:=fun r=>r=validsF l) ?_ ?_ rfl
  ·intro h;apply drossref01_Valids.L1_step;rw [if_neg (by omega)];exact h
  ·intro k a ha hk h
   apply drossref01_Valids.L1_step
   rw [if_pos (by omega)]
   refine ⟨a,lget_of ha,_,drossref01_Valid.spec,?_⟩
   rw [wrap_succ (by unfold Big at hn;omega)]
   exact h)
 rw [← h1];exact h2
def rowsF (n:Nat):Int→List api_Row→Int
 | _,[]=>0
 | last,r::rs=>if r.ID≤last then 1 else if r.Values.length=n then (if validsF r.Values=true then rowsF n r.ID rs else 1) else 6
def tableF (t:api_Table):Int:=if nameF t.Name=true then (if 16<t.Attrs.length then 3 else if 1000<t.Rows.length then 3 else if namesF t.Attrs=true then rowsF t.Attrs.length 0 t.Rows else 1) else 1
theorem rows_loop {n : Nat} {l : List api_Row} {L : Int → Int → Prop} {φ : Int → Prop} (stop : ∀ last, φ 0 → L last (l.length : Int))
    (step : ∀ (k : Nat) r last, l[k]? = some r → k < l.length → (if r.ID ≤ last then φ 1 else if r.Values.length = n then (if validsF r.Values = true then L r.ID ((k + 1 : Nat) : Int) else φ 1) else φ 6) → L last k) (h : φ (rowsF n 0 l)) : L 0 0 := by
  have : ∀ (r : List api_Row) (k : Nat) (last : Int), l.drop k = r → k ≤ l.length → φ (rowsF n last r) → L last k := by
    intro r
    induction r with
    | nil => intro k last hd hk h; have : k = l.length := by have := drop_ge hd; omega
             subst this; exact stop _ h
    | cons a r ih =>
      intro k last hd hk h
      have hlt := drop_lt hd
      refine step k a last (drop_get hd) hlt ?_
      simp only [rowsF] at h
      split
      · rename_i h1; rw [if_pos h1] at h; exact h
      · rename_i h1; rw [if_neg h1] at h
        split
        · rename_i h2; rw [if_pos h2] at h
          split
          · rename_i h3; rw [if_pos h3] at h; exact ih (k + 1) _ (drop_next hd) hlt h
          · rename_i h3; rw [if_neg h3] at h; exact h
        · rename_i h2; rw [if_neg h2] at h; exact h
  exact this l 0 0 rfl (Nat.zero_le _) h
namespace table_Valid
theorem rows {t:api_Table} {φ:Int→Prop} (hr:t.Rows.length≤1000) (ha:t.Attrs.length≤16) (h:φ (rowsF t.Attrs.length 0 t.Rows)):L2 t 0 0 φ:=by
 refine rows_loop (n:=t.Attrs.length) (l:=t.Rows) (L:=fun last i=>L2 t last i φ) (φ:=φ) ?_ ?_ h
 ·intro last h;apply L2_step;rw [if_neg (by omega)];exact h
 ·intro k r last hr hk h
  apply L2_step
  rw [if_pos (by omega)]
  refine ⟨r,lget_of hr,?_⟩
  split
  ·rename_i h1;rw [if_pos h1] at h;exact h
  ·rename_i h1;rw [if_neg h1] at h
   split
   ·rename_i h2
    have h2:r.Values.length=t.Attrs.length:=by omega
    rw [if_pos h2] at h
    refine ⟨_,table_validValues.spec (by unfold Big;omega),?_⟩
    rw [wrap_succ (by omega)]
    exact h
   ·rename_i h2;rw [if_neg (by omega)] at h;exact h
theorem spec {t:api_Table}:C t (tableF t):=by
 obtain ⟨r,h1,h2⟩:=enter t (fun r=>r=tableF t) (by
  refine ⟨_,table_isName.spec,?_⟩
  unfold tableF
  split
  ·by_cases h1:16<t.Attrs.length
   ·rw [if_pos (by omega),if_pos h1]
   ·rw [if_neg (by omega),if_neg h1]
    by_cases h2:1000<t.Rows.length
    ·rw [if_pos (by omega),if_pos h2]
    ·rw [if_neg (by omega),if_neg h2]
     refine names_loop (l:=t.Attrs) (L:=fun i=>L1 t i _) (P:=rowsF t.Attrs.length 0 t.Rows=if namesF t.Attrs=true then rowsF t.Attrs.length 0 t.Rows else 1) (Q:=(1:Int)=if namesF t.Attrs=true then rowsF t.Attrs.length 0 t.Rows else 1) ?_ ?_ ?_ ?_
     ·intro h;apply L1_step;rw [if_neg (by omega)]
      exact rows (φ:=fun r=>r=if namesF t.Attrs=true then rowsF t.Attrs.length 0 t.Rows else 1) (by omega) (by omega) h
     ·intro k a ha hk h
      apply L1_step
      rw [if_pos (by omega)]
      refine ⟨a,lget_of ha,_,table_isName.spec,?_⟩
      split
      ·rename_i h1;rw [if_pos h1] at h
       refine ⟨by omega,by omega,_,slices_Contains_sstring_string.spec (by rw [List.length_take];unfold Big;omega),?_⟩
       rw [Int.toNat_natCast,Nat.sub_zero,wrap_succ (by omega)]
       exact h
      ·rename_i h1;rw [if_neg h1] at h;exact h
     ·intro h;rw [if_pos h]
     ·intro h;rw [if_neg (by rw [h];decide)]
  ·rfl)
 rw [← h1];exact h2
end table_Valid
namespace drossref03_Valid
theorem rows {t:api_Table} {φ:Int→Prop} (hr:t.Rows.length≤1000) (ha:t.Attrs.length≤16) (h:φ (rowsF t.Attrs.length 0 t.Rows)):L1 t 0 0 φ:=by
 refine rows_loop (n:=t.Attrs.length) (l:=t.Rows) (L:=fun last i=>L1 t last i φ) (φ:=φ) ?_ ?_ h
 ·intro last h;apply L1_step;rw [if_neg (by omega)];exact h
 ·intro k r last hr hk h
  apply L1_step
  rw [if_pos (by omega)]
  refine ⟨r,lget_of hr,?_⟩
  split
  ·rename_i h1;rw [if_pos h1] at h;exact h
  ·rename_i h1;rw [if_neg h1] at h
   split
   ·rename_i h2
    have h2:r.Values.length=t.Attrs.length:=by omega
    rw [if_pos h2] at h
    refine ⟨_,drossref01_Valids.spec (by unfold Big;omega),?_⟩
    rw [wrap_succ (by omega)]
    exact h
   ·rename_i h2;rw [if_neg (by omega)] at h;exact h
theorem spec {t:api_Table}:C t (tableF t):=by
 obtain ⟨r,h1,h2⟩:=enter t (fun r=>r=tableF t) (by
  refine ⟨_,drossref03_Name.spec,?_⟩
  unfold tableF
  split
  ·by_cases h1:16<t.Attrs.length
   ·rw [if_pos (by omega),if_pos h1]
   ·rw [if_neg (by omega),if_neg h1]
    by_cases h2:1000<t.Rows.length
    ·rw [if_pos (by omega),if_pos h2]
    ·rw [if_neg (by omega),if_neg h2]
     refine ⟨_,drossref03_Names.spec (by unfold Big;omega),?_⟩
     split
     ·exact rows (φ:=fun r=>r=rowsF t.Attrs.length 0 t.Rows) (by omega) (by omega) rfl
     ·rfl
  ·rfl)
 rw [← h1];exact h2
end drossref03_Valid
end Go.Own
namespace Go.Own
namespace drossref02_Full
theorem loop {k:Nat} {φ:Int→Prop} (h:φ (fullN k)):∀ (m i:Nat),i+m=min k 32→L1 k ((2^i-1:Nat):Int) i φ
 | 0,i,hi=>by
  apply L1_step
  have e:((2^i-1:Nat):Int)=(fullN k:Int):=by unfold fullN;rw [← hi,Nat.add_zero]
  rw [e]
  split
  ·rw [if_neg (by omega)];exact h
  ·exact h
 | m+1,i,hi=>by
  apply L1_step
  rw [if_pos (by omega),if_pos (by omega)]
  refine ⟨by omega,?_⟩
  have hp:2^(i+1)≤2^32:=Nat.pow_le_pow_right (by decide) (by omega)
  have h2:0<2^i:=Nat.pos_of_ne_zero (by simp)
  rw [Nat.pow_succ] at hp
  rw [shl1_nat (k:=.u32) (by simp only [top];omega),bOr_nat (k:=.u32) (by simp only [top];omega) (by simp only [top];omega),wrap_succ (by omega)]
  have e:(2^i-1) ||| 2^i=2^(i+1)-1:=by
   apply Nat.eq_of_testBit_eq
   intro j
   rw [Nat.testBit_or,Nat.testBit_two_pow_sub_one,Nat.testBit_two_pow,Nat.testBit_two_pow_sub_one]
   by_cases h1:j<i
   ·have:j<i+1:=by omega
    simp [h1,this]
   ·by_cases h3:i=j
    ·subst h3;simp
    ·have:¬ j<i+1:=by omega
     simp [h1,h3,this]
  rw [e]
  exact loop h m (i+1) (by omega)
theorem spec {k:Nat}:C k (fullN k):=by
 obtain ⟨r,h1,h2⟩:=enter k (fun r=>r=(fullN k:Int)) (loop (φ:=fun r=>r=(fullN k:Int)) rfl (min k 32) 0 (by omega))
 rw [← h1];exact h2
end drossref02_Full
end Go.Own
namespace Go.Own
namespace drossref02_Has
theorem spec {n i:Nat} (hn:n<2^32):C n i (n.testBit i):=by
 obtain ⟨r,h1,h2⟩:=enter n i (fun r=>r=n.testBit i) (by
  rw [if_pos (by omega)]
  split
  ·refine ⟨by omega,?_⟩
   rw [bit_nat (k:=.u32) (by simpa [top] using hn) (by decide)]
   cases n.testBit i<;>rfl
  ·rw [Nat.testBit_lt_two_pow (Nat.lt_of_lt_of_le hn (Nat.pow_le_pow_right (by decide) (by omega)))])
 rw [← h1];exact h2
end drossref02_Has
end Go.Own

namespace Go.Own
theorem cmpI_zero {a b:Int}:cmpI a b=0↔a=b:=by
 unfold cmpI;repeat' split
 all_goals omega
theorem drossref01_sign.spec {a b:Int}:drossref01_sign.C a b (cmpI a b):=by
 obtain ⟨r,h1,h2⟩:=drossref01_sign.enter a b (fun r=>r=cmpI a b) (by
  unfold cmpI;repeat' split
  all_goals first | rfl | omega)
 rw [← h1];exact h2
def cmpL:List UInt8→List UInt8→Int
 | [],[]=>0
 | [],_::_=>-1
 | _::_,[]=>1
 | a::r,b::s=>if a=b then cmpL r s else cmpI (u8i a) (u8i b)
theorem cmpL_zero:∀ {a b:List UInt8},cmpL a b=0↔a=b
 | [],[]=>by simp [cmpL]
 | [],_::_=>by simp [cmpL]
 | _::_,[]=>by simp [cmpL]
 | a::r,b::s=>by
  simp only [cmpL]
  split
  ·rename_i h;subst h;rw [cmpL_zero];simp
  ·rename_i h
   rw [cmpI_zero,u8i_inj];simp [h]
theorem cmpL_refl {a:List UInt8}:cmpL a a=0:=cmpL_zero.2 rfl
def cmpS (a b:ByteArray):Int:=cmpL a.toList b.toList
theorem cmpL_len:∀ {a b:List UInt8},(a=[]∨b=[])→cmpI a.length b.length=cmpL a b
 | [],[],_=>rfl
 | [],_::r,_=>by
  simp only [cmpL,cmpI,List.length_cons,List.length_nil]
  rw [if_pos (by omega)]
 | _::r,[],_=>by
  simp only [cmpL,cmpI,List.length_cons,List.length_nil]
  rw [if_neg (by omega),if_pos (by omega)]
 | _::_,_::_,h=>by simp at h
namespace drossref01_strings
theorem loop {a b:ByteArray} {φ:Int→Prop} (hn:a.toList.length<Big):∀ (r s:List UInt8) (k:Nat),a.toList.drop k=r→b.toList.drop k=s→k≤a.toList.length→k≤b.toList.length→φ (cmpL r s)→L1 a b k φ:=by
 have fin:∀ (r s:List UInt8) (k:Nat),a.toList.drop k=r→b.toList.drop k=s→k≤a.toList.length→k≤b.toList.length→(r=[]∨s=[])→φ (cmpL r s)→L2 a b φ:=by
  intro r s k hr hs hk hk2 h0 h
  apply L2_step
  refine ⟨_,drossref01_sign.spec,?_⟩
  rw [bsize_eq,bsize_eq]
  have e:cmpI a.toList.length b.toList.length=cmpI r.length s.length:=by
   rw [← hr,← hs,List.length_drop,List.length_drop]
   unfold cmpI
   repeat' split
   all_goals omega
  rw [e,cmpL_len h0];exact h
 intro r
 induction r with
 | nil=>
  intro s k hr hs hk hk2 h
  apply L1_step
  have:=drop_ge hr
  rw [bsize_eq,if_neg (by omega)]
  exact fin _ _ k hr hs hk hk2 (.inl rfl) h
 | cons x r ih=>
  intro s k hr hs hk hk2 h
  apply L1_step
  have hlt:=drop_lt hr
  rw [bsize_eq,if_pos (by omega),bsize_eq]
  match s,hs,h with
  | [],hs,h=>
   have:=drop_ge hs
   rw [if_neg (by omega)]
   exact fin _ _ k hr hs hk hk2 (.inr rfl) h
  | y::s,hs,h=>
   have hlt2:=drop_lt hs
   rw [if_pos (by omega)]
   refine ⟨x,bget_of (drop_get hr),y,bget_of (drop_get hs),?_⟩
   simp only [cmpL] at h
   split
   ·rename_i he
    rw [if_pos (u8i_inj.1 he)] at h
    rw [wrap_succ (by unfold Big at hn;omega)]
    exact ih s (k+1) (drop_next hr) (drop_next hs) hlt hlt2 h
   ·rename_i he
    rw [if_neg (fun hh=>he (u8i_inj.2 hh))] at h
    refine ⟨x,bget_of (drop_get hr),y,bget_of (drop_get hs),_,drossref01_sign.spec,?_⟩
    have b1:=u8i_lt (b:=x);have b2:=u8i_lt (b:=y)
    rw [wrap_id (by omega) (by omega),wrap_id (by omega) (by omega)]
    exact h
theorem spec {a b:ByteArray} (hn:a.toList.length<Big):C a b (cmpS a b):=by
 obtain ⟨r,h1,h2⟩:=enter a b (fun r=>r=cmpS a b) (loop hn a.toList b.toList 0 rfl rfl (by omega) (by omega) rfl)
 rw [← h1];exact h2
end drossref01_strings
def cmpV (v w:api_Value):Int:=if cmpI v.Kind w.Kind=0 then (if cmpI v.Num w.Num=0 then cmpS v.Str w.Str else cmpI v.Num w.Num) else cmpI v.Kind w.Kind
theorem cmpV_zero {v w:api_Value}:cmpV v w=0↔v=w:=by
 obtain ⟨k,n,s⟩:=v
 obtain ⟨k',n',s'⟩:=w
 unfold cmpV cmpS
 simp only [api_Value.mk.injEq]
 split
 ·rename_i h1;rw [cmpI_zero] at h1
  split
  ·rename_i h2;rw [cmpI_zero] at h2
   rw [cmpL_zero,bl_inj];simp [h1,h2]
  ·rename_i h2
   have h3:=h2
   rw [cmpI_zero] at h3
   simp [h2,h3]
 ·rename_i h1
  have h3:=h1
  rw [cmpI_zero] at h3
  simp [h1,h3]
theorem drossref01_Compare.spec {v w:api_Value} (hn:v.Str.toList.length<Big):drossref01_Compare.C v w (cmpV v w):=by
 obtain ⟨r,h1,h2⟩:=drossref01_Compare.enter v w (fun r=>r=cmpV v w) (by
  refine ⟨_,drossref01_sign.spec,?_⟩
  unfold cmpV
  split
  ·refine ⟨_,drossref01_sign.spec,?_⟩
   split
   ·exact ⟨_,drossref01_strings.spec hn,rfl⟩
   ·rfl
  ·rfl)
 rw [← h1];exact h2
def StrOK (l:List api_Value):Prop:=l.length<Big∧∀ v∈l,v.Str.toList.length<Big
def cmpVs:List api_Value→List api_Value→Int
 | [],[]=>0
 | [],_::_=>-1
 | _::_,[]=>1
 | a::r,b::s=>if cmpV a b=0 then cmpVs r s else cmpV a b
theorem cmpVs_zero:∀ {a b:List api_Value},cmpVs a b=0↔a=b
 | [],[]=>by simp [cmpVs]
 | [],_::_=>by simp [cmpVs]
 | _::_,[]=>by simp [cmpVs]
 | a::r,b::s=>by
  simp only [cmpVs]
  split
  ·rename_i h;rw [cmpVs_zero];rw [cmpV_zero] at h;simp [h]
  ·rename_i h
   have h2:=h
   rw [cmpV_zero] at h2
   simp [h,h2]
theorem cmpVs_len:∀ {a b:List api_Value},(a=[]∨b=[])→cmpI a.length b.length=cmpVs a b
 | [],[],_=>rfl
 | [],_::r,_=>by
  simp only [cmpVs,cmpI,List.length_cons,List.length_nil]
  rw [if_pos (by omega)]
 | _::r,[],_=>by
  simp only [cmpVs,cmpI,List.length_cons,List.length_nil]
  rw [if_neg (by omega),if_pos (by omega)]
 | _::_,_::_,h=>by simp at h
namespace drossref01_Lists
theorem loop {a b:List api_Value} {φ:Int→Prop} (hn:StrOK a):∀ (r s:List api_Value) (k:Nat),a.drop k=r→b.drop k=s→k≤a.length→k≤b.length→φ (cmpVs r s)→L1 a b k φ:=by
 have fin:∀ (r s:List api_Value) (k:Nat),a.drop k=r→b.drop k=s→k≤a.length→k≤b.length→(r=[]∨s=[])→φ (cmpVs r s)→L2 a b φ:=by
  intro r s k hr hs hk hk2 h0 h
  apply L2_step
  refine ⟨_,drossref01_sign.spec,?_⟩
  have e:cmpI a.length b.length=cmpI r.length s.length:=by
   rw [← hr,← hs,List.length_drop,List.length_drop]
   unfold cmpI
   repeat' split
   all_goals omega
  rw [e,cmpVs_len h0];exact h
 intro r
 induction r with
 | nil=>
  intro s k hr hs hk hk2 h
  apply L1_step
  have:=drop_ge hr
  rw [if_neg (by omega)]
  exact fin _ _ k hr hs hk hk2 (.inl rfl) h
 | cons x r ih=>
  intro s k hr hs hk hk2 h
  apply L1_step
  have hlt:=drop_lt hr
  rw [if_pos (by omega)]
  match s,hs,h with
  | [],hs,h=>
   have:=drop_ge hs
   rw [if_neg (by omega)]
   exact fin _ _ k hr hs hk hk2 (.inr rfl) h
  | y::s,hs,h=>
   have hlt2:=drop_lt hs
   rw [if_pos (by omega)]
   refine ⟨x,lget_drop hr,y,lget_drop hs,_,drossref01_Compare.spec (hn.2 x (List.mem_of_getElem? (drop_get hr))),?_⟩
   simp only [cmpVs] at h
   split
   ·rename_i he
    rw [if_pos he] at h
    rw [wrap_succ (by have:=hn.1;unfold Big at this;omega)]
    exact ih s (k+1) (drop_next hr) (drop_next hs) hlt hlt2 h
   ·rename_i he
    rw [if_neg he] at h
    exact h
theorem spec {a b:List api_Value} (hn:StrOK a):C a b (cmpVs a b):=by
 obtain ⟨r,h1,h2⟩:=enter a b (fun r=>r=cmpVs a b) (loop hn a b 0 rfl rfl (by omega) (by omega) rfl)
 rw [← h1];exact h2
end drossref01_Lists
theorem drossref01_Same.spec {a b:List api_Value} (hn:StrOK a):drossref01_Same.C a b (decide (a=b)):=by
 obtain ⟨r,h1,h2⟩:=drossref01_Same.enter a b (fun r=>r=decide (a=b)) ⟨_,drossref01_Lists.spec hn,by
  by_cases h:a=b
  ·simp [h,cmpVs_zero.2 rfl]
  ·have:cmpVs a b≠0:=fun hh=>h (cmpVs_zero.1 hh)
   simp [h,this]⟩
 rw [← h1];exact h2
def be:Nat→Nat→List Int
 | 0,_=>[]
 | j+1,u=>((u / 2^(8*j) % 256:Nat):Int)::be j u
theorem be_len:∀ {j u},(be j u).length=j
 | 0,_=>rfl
 | j+1,u=>by simp [be,be_len]
theorem be_range:∀ {j u},∀ x∈be j u,0≤x∧x<256
 | 0,_,_,h=>by simp [be] at h
 | j+1,u,x,h=>by
  simp only [be,List.mem_cons] at h
  rcases h with rfl | h
  ·omega
  ·exact be_range x h
theorem be_inj:∀ {j u v},be j u=be j v→u % 2^(8*j)=v % 2^(8*j)
 | 0,u,v,_=>by simp [Nat.mod_one]
 | j+1,u,v,h=>by
  simp only [be,List.cons.injEq] at h
  have ih:=be_inj h.2
  have e:2^(8*(j+1))=2^(8*j)*256:=by rw [Nat.mul_add,Nat.pow_add]
  rw [e,Nat.mod_mul,Nat.mod_mul,ih]
  have:u / 2^(8*j) % 256=v / 2^(8*j) % 256:=by omega
  rw [this]
def flip63 (n:Int):Nat:=(n % 18446744073709551616).toNat ^^^ 9223372036854775808
theorem flip63_lt {n:Int}:flip63 n<2^64:=Nat.xor_lt_two_pow (by omega) (by decide)
theorem flip63_inj {m n:Int} (hm : -9223372036854775808≤m∧m<9223372036854775808) (hn : -9223372036854775808≤n∧n<9223372036854775808) (h:flip63 m=flip63 n):m=n:=by
 unfold flip63 at h
 have h2:(m % 18446744073709551616).toNat=(n % 18446744073709551616).toNat:=by
  have:=congrArg (· ^^^ 9223372036854775808) h
  simpa [Nat.xor_assoc] using this
 omega
namespace value_number
theorem loop {φ:List Int→Prop} {u:Nat} (hu:u<2^64):∀ (j:Nat) (acc:List Int),j≤8→acc.length+j≤1000→φ (acc++be j u)→L1 acc u (8*(j:Int)-8) φ
 | 0,acc,hj,hl,h=>by
  apply L1_step
  rw [if_neg (by omega)]
  simpa [be] using h
 | j+1,acc,hj,hl,h=>by
  apply L1_step
  rw [if_pos (by omega)]
  refine ⟨by omega,by omega,?_⟩
  have e1:8*((j+1:Nat):Int)-8=((8*j:Nat):Int):=by omega
  rw [e1,shrw_nat (k:=.u64) (by simpa [top] using hu),IntKind.wrap_u8,wrap_id (by omega) (by omega)]
  have e2:((8*j:Nat):Int)-8=8*(j:Int)-8:=by omega
  rw [e2]
  refine loop hu j _ (by omega) (by simp;omega) ?_
  have e3:((u / 2^(8*j):Nat):Int) % 256=((u / 2^(8*j) % 256:Nat):Int):=by omega
  rw [e3]
  simpa [be] using h
theorem spec {n:Int} {acc:List Int} (hl:acc.length≤900):C n acc (acc++be 8 (flip63 n)):=by
 obtain ⟨r,h1,h2⟩:=enter n acc (fun r=>r=acc++be 8 (flip63 n)) (by
  have e:bXor .u64 (IntKind.wrap .u64 n) 9223372036854775808=(flip63 n:Int):=by
   have e1:IntKind.wrap .u64 n=(((n % 18446744073709551616).toNat:Nat):Int):=by
    simp only [IntKind.wrap,IntKind.bits,IntKind.signed];simp;omega
   rw [e1]
   exact bXor_nat (k:=.u64) (b:=9223372036854775808) (by simp only [top];omega) (by simp only [top];omega)
  rw [e]
  exact loop flip63_lt 8 acc (by omega) (by omega) rfl)
 rw [← h1];exact h2
end value_number
def esc:List UInt8→List Int
 | []=>[]
 | b::r=>if u8i b=0 then 0::255::esc r else u8i b::esc r
theorem esc_snoc {l:List UInt8} {b:UInt8}:esc (l++[b])=esc l++esc [b]:=by
 induction l with
 | nil=>rfl
 | cons a l ih=>simp only [List.cons_append,esc,ih];split<;>rfl
theorem esc_range:∀ {l:List UInt8},∀ x∈esc l,0≤x∧x<256
 | [],x,h=>by simp [esc] at h
 | b::r,x,h=>by
  simp only [esc] at h
  split at h
  ·simp only [List.mem_cons] at h
   rcases h with rfl | rfl | h
   ·omega
   ·omega
   ·exact esc_range x h
  ·simp only [List.mem_cons] at h
   rcases h with rfl | h
   ·exact u8i_lt
   ·exact esc_range x h
theorem esc_len:∀ {l:List UInt8},(esc l).length≤2*l.length
 | []=>by simp [esc]
 | b::r=>by
  have:=esc_len (l:=r)
  simp only [esc]
  split<;>simp only [List.length_cons]<;>omega
theorem esc_inj:∀ {a b:List UInt8} {r s:List Int},esc a++(0::1::r)=esc b++(0::1::s)→a=b∧r=s
 | [],[],r,s,h=>by simpa [esc] using h
 | [],y::b,r,s,h=>by
  simp only [esc] at h
  split at h
  ·simp at h
  ·rename_i hy
   simp only [List.nil_append,List.cons_append,List.cons.injEq] at h
   exact absurd h.1.symm hy
 | x::a,[],r,s,h=>by
  simp only [esc] at h
  split at h
  ·simp at h
  ·rename_i hx
   simp only [List.nil_append,List.cons_append,List.cons.injEq] at h
   exact absurd h.1 hx
 | x::a,y::b,r,s,h=>by
  simp only [esc] at h
  split at h
  ·rename_i hx
   split at h
   ·rename_i hy
    simp only [List.cons_append,List.cons.injEq,true_and] at h
    obtain ⟨h1,h2⟩:=esc_inj h
    exact ⟨by rw [h1,u8i_inj.1 (hx.trans hy.symm)],h2⟩
   ·rename_i hy
    simp only [List.cons_append,List.cons.injEq] at h
    exact absurd h.1.symm hy
  ·rename_i hx
   split at h
   ·rename_i hy
    simp only [List.cons_append,List.cons.injEq] at h
    exact absurd h.1 hx
   ·rename_i hy
    simp only [List.cons_append,List.cons.injEq] at h
    obtain ⟨h1,h2⟩:=esc_inj h.2
    exact ⟨by rw [h1,u8i_inj.1 h.1],h2⟩
def keyJ (v:api_Value):List Int:=v.Kind::(if v.Kind=1∨v.Kind=3 then be 8 (flip63 v.Num) else if v.Kind=2 then esc v.Str.toList++[0,1] else [])
def NumOK (v:api_Value):Prop:=-9223372036854775808≤v.Num∧v.Num<9223372036854775808
theorem validV_cases {v:api_Value} (h:validV v=true):v.Kind=0∧v.Num=0∧v.Str.toList=[]∨v.Kind=1∧v.Str.toList=[]∨v.Kind=2∧v.Num=0∧v.Str.toList.length≤200∨v.Kind=3∧1≤v.Num∧v.Str.toList=[]:=by
 simpa [validV] using h
theorem keyI_range {v:api_Value} (h:validV v=true):∀ x∈keyJ v,0≤x∧x<256:=by
 intro x hx
 have hk:0≤v.Kind∧v.Kind≤3:=by rcases validV_cases h with h | h | h | h<;>omega
 simp only [keyJ,List.mem_cons] at hx
 rcases hx with rfl | hx
 ·omega
 ·split at hx
  ·exact be_range x hx
  ·split at hx
   ·rcases List.mem_append.1 hx with hx | hx
    ·exact esc_range x hx
    ·simp at hx;rcases hx with rfl | rfl<;>omega
   ·simp at hx
theorem keyI_len {v:api_Value} (h:validV v=true):(keyJ v).length≤403:=by
 simp only [keyJ,List.length_cons]
 split
 ·rw [be_len];omega
 ·split
  ·have:=esc_len (l:=v.Str.toList)
   have:v.Str.toList.length≤200:=by
    rcases validV_cases h with h | h | h | h
    ·rw [h.2.2];simp
    ·rw [h.2];simp
    ·exact h.2.2
    ·rw [h.2.2];simp
   simp;omega
  ·simp
theorem keyI_inj {v w:api_Value} {r s:List Int} (hv:validV v=true) (hw:validV w=true) (nv:NumOK v) (nw:NumOK w) (h:keyJ v++r=keyJ w++s):v=w∧r=s:=by
 obtain ⟨k,n,t⟩:=v
 obtain ⟨k',n',t'⟩:=w
 simp only [keyJ,List.cons_append,List.cons.injEq] at h
 obtain ⟨rfl,h⟩:=h
 have hv:=validV_cases hv
 have hw:=validV_cases hw
 simp only at hv hw
 simp only [api_Value.mk.injEq,true_and]
 by_cases h1:k=1∨k=3
 ·rw [if_pos h1,if_pos h1] at h
  have h3:=List.append_inj h (by rw [be_len,be_len])
  have h2:=be_inj h3.1
  rw [Nat.mod_eq_of_lt flip63_lt,Nat.mod_eq_of_lt flip63_lt] at h2
  have e:=flip63_inj nv nw h2
  simp only at e
  refine ⟨⟨e,?_⟩,h3.2⟩
  rw [← bl_inj]
  have a1:t.toList=[]:=by rcases hv with h | h | h | h<;>first | exact h.2.2 | exact h.2 | omega
  have a2:t'.toList=[]:=by rcases hw with h | h | h | h<;>first | exact h.2.2 | exact h.2 | omega
  rw [a1,a2]
 ·rw [if_neg h1,if_neg h1] at h
  by_cases h2:k=2
  ·rw [if_pos h2,if_pos h2,List.append_assoc,List.append_assoc] at h
   obtain ⟨e1,e2⟩:=esc_inj h
   rw [bl_inj] at e1
   exact ⟨⟨by omega,e1⟩,e2⟩
  ·rw [if_neg h2,if_neg h2] at h
   have a1:t.toList=[]:=by rcases hv with h | h | h | h<;>first | exact h.2.2 | exact h.2 | omega
   have a2:t'.toList=[]:=by rcases hw with h | h | h | h<;>first | exact h.2.2 | exact h.2 | omega
   exact ⟨⟨by omega,by rw [← bl_inj,a1,a2]⟩,by simpa using h⟩
def keyW (v:api_Value):ByteArray:=bstrI (keyJ v)
namespace value_Key
theorem loop {v:api_Value} {φ:ByteArray×Int→Prop} (hk:v.Kind=2) (hs:v.Str.toList.length≤200) (h:φ (keyW v,0)):∀ (r:List UInt8) (k:Nat),v.Str.toList.drop k=r→k≤v.Str.toList.length→L1 v (2::esc (v.Str.toList.take k)) k φ:=by
 intro r
 induction r with
 | nil=>
  intro k hd hk2
  apply L1_step
  have:=drop_ge hd
  rw [bsize_eq,if_neg (by omega),List.take_of_length_le this]
  have hl:=esc_len (l:=v.Str.toList)
  have e:keyJ v=(2::esc v.Str.toList)++[0,1]:=by simp [keyJ,hk]
  refine ⟨by simp only [List.length_cons];omega,fun x hx=>?_,?_⟩
  ·rcases List.mem_append.1 hx with hx | hx
   ·rcases List.mem_cons.1 hx with rfl | hx
    ·omega
    ·exact esc_range x hx
   ·simp at hx;rcases hx with rfl | rfl<;>omega
  ·rw [← e];exact h
 | cons b r ih=>
  intro k hd hk2
  have hlt:=drop_lt hd
  apply L1_step
  rw [bsize_eq,if_pos (by omega)]
  have hl:=esc_len (l:=v.Str.toList.take k)
  rw [List.length_take] at hl
  refine ⟨b,bget_of (drop_get hd),by simp only [List.length_cons];omega,b,bget_of (drop_get hd),?_⟩
  have ih:=ih (k+1) (drop_next hd) hlt
  have e:v.Str.toList.take (k+1)=v.Str.toList.take k++[b]:=by rw [List.take_add_one,drop_get hd];rfl
  rw [e,esc_snoc] at ih
  have next:∀ l,l=2::(esc (v.Str.toList.take k)++esc [b])→L4 v l k φ:=by
   rintro _ rfl
   apply L4_step
   rw [wrap_succ (by omega)]
   exact ih
  split
  ·rename_i h0
   refine ⟨by simp only [List.length_append,List.length_cons,List.length_nil];omega,next _ ?_⟩
   simp [esc,h0]
  ·rename_i h0
   exact next _ (by simp [esc,h0])
theorem spec {v:api_Value} (hv:validV v=true):C v (keyW v,0):=by
 obtain ⟨r,h1,h2⟩:=enter v (fun r=>r=(keyW v,0)) (by
  refine ⟨_,value_Valid.spec,?_⟩
  rw [if_pos hv]
  have hc:=validV_cases hv
  have hk:0≤v.Kind∧v.Kind≤3:=by rcases hc with h | h | h | h<;>omega
  have ek:IntKind.wrap .u8 v.Kind=v.Kind:=by rw [IntKind.wrap_u8];omega
  have two:∀ b,(v.Kind=1∨v.Kind=3)→L2 v b fun r=>r=(keyW v,0):=by
   intro b hb
   apply L2_step
   rw [ek]
   have e:keyJ v=[v.Kind]++be 8 (flip63 v.Num):=by simp [keyJ,hb]
   refine ⟨_,value_number.spec (by simp),?_,?_⟩
   ·rw [← e];exact keyI_range hv
   ·rw [← e];rfl
  have three:¬ (v.Kind=1∨v.Kind=3)→L3 v fun r=>r=(keyW v,0):=by
   intro hb
   apply L3_step
   rw [ek]
   split
   ·rename_i h2
    have hs:v.Str.toList.length≤200:=by
     rcases hc with h | h | h | h
     ·omega
     ·omega
     ·exact h.2.2
     ·omega
    have:=loop (φ:=fun r=>r=(keyW v,0)) h2 hs rfl v.Str.toList 0 rfl (by omega)
    rw [h2]
    simpa [esc] using this
   ·rename_i h2
    refine ⟨fun x hx=>by simp at hx;omega,?_⟩
    simp [keyW,keyJ,hb,h2]
  split
  ·rename_i h1;exact two _ (.inl h1)
  ·rename_i h1
   split
   ·rename_i h3;exact two _ (.inr h3)
   ·rename_i h3;exact three (by omega))
 rw [← h1];exact h2
end value_Key
def b8 (x:Int):UInt8:=UInt8.ofNat x.toNat
theorem b8_inj {x y:Int} (hx:0≤x∧x<256) (hy:0≤y∧y<256) (h:b8 x=b8 y):x=y:=by
 unfold b8 at h
 have:=congrArg UInt8.toNat h
 simp at this
 omega
theorem map_b8_inj:∀ {l m:List Int},(∀ x∈l,0≤x∧x<256)→(∀ x∈m,0≤x∧x<256)→l.map b8=m.map b8→l=m
 | [],[],_,_,_=>rfl
 | [],_::_,_,_,h=>by simp at h
 | _::_,[],_,_,h=>by simp at h
 | x::l,y::m,h1,h2,h=>by
  simp only [List.map_cons,List.cons.injEq] at h
  rw [b8_inj (h1 x (by simp)) (h2 y (by simp)) h.1,map_b8_inj (fun z hz=>h1 z (by simp [hz])) (fun z hz=>h2 z (by simp [hz])) h.2]
theorem keyS_list {v:api_Value}:(keyW v).data.toList=(keyJ v).map b8:=by
 unfold keyW bstrI b8;simp
theorem keyS_size {v:api_Value}:(keyW v).size=(keyJ v).length:=by
 have:(keyW v).size=(keyW v).data.toList.length:=rfl
 rw [this,keyS_list,List.length_map]
def keysI (l:List api_Value):List Int:=l.flatMap keyJ
theorem keysI_range {l:List api_Value} (h:∀ v∈l,validV v=true):∀ x∈keysI l,0≤x∧x<256:=by
 intro x hx
 obtain ⟨v,hv,hx⟩:=List.mem_flatMap.1 hx
 exact keyI_range (h v hv) x hx
theorem keysI_inj:∀ {l m:List api_Value},l.length=m.length→(∀ v∈l,validV v=true∧NumOK v)→(∀ v∈m,validV v=true∧NumOK v)→keysI l=keysI m→l=m
 | [],[],_,_,_,_=>rfl
 | [],_::_,h,_,_,_=>by simp at h
 | _::_,[],h,_,_,_=>by simp at h
 | v::l,w::m,hl,h1,h2,h=>by
  simp only [keysI,List.flatMap_cons] at h
  have a:=h1 v (by simp);have b:=h2 w (by simp)
  obtain ⟨e1,e2⟩:=keyI_inj a.1 b.1 a.2 b.2 h
  rw [e1,keysI_inj (by simpa using hl) (fun z hz=>h1 z (by simp [hz])) (fun z hz=>h2 z (by simp [hz])) e2]
def keysW (l:List api_Value):ByteArray:=bstr ((keysI l).map b8)
theorem keysS_inj {l m:List api_Value} (hl:l.length=m.length) (h1:∀ v∈l,validV v=true∧NumOK v) (h2:∀ v∈m,validV v=true∧NumOK v):keysW l=keysW m↔l=m:=by
 constructor
 ·intro h
  have h3:(keysI l).map b8=(keysI m).map b8:=by
   have:=congrArg ByteArray.toList h
   unfold keysW at this
   rwa [bl_bstr,bl_bstr] at this
  exact keysI_inj hl h1 h2 (map_b8_inj (keysI_range fun v hv=>(h1 v hv).1) (keysI_range fun v hv=>(h2 v hv).1) h3)
 ·rintro rfl;rfl
end Go.Own
namespace Go.Own
def pick (l:List api_Value) (n:Nat):List api_Value:=(bitsOf n).filterMap fun i=>l[i]?
theorem fm_congr {α β:Type} {f g:α→Option β}:∀ {l:List α},(∀ a∈l,f a=g a)→l.filterMap f=l.filterMap g
 | [],_=>rfl
 | a::l,h=>by
  have ih:=fm_congr (l:=l) fun b hb=>h b (by simp [hb])
  simp only [List.filterMap_cons,h a (by simp),ih]
theorem bits_upto {n k:Nat} (hn:n<2^32):(bitsOf n).filter (fun i=>decide (i<k+1))=(bitsOf n).filter (fun i=>decide (i<k))++if n.testBit k=true then [k] else []:=by
 refine sorted_ext (bitsOf_sorted.filter _) ?_ fun x=>?_
 ·rw [List.pairwise_append]
  refine ⟨bitsOf_sorted.filter _,by split<;>simp,fun a ha b hb=>?_⟩
  have ha:=(List.mem_filter.1 ha).2
  split at hb
  ·simp at hb ha;omega
  ·simp at hb
 ·simp only [List.mem_filter,List.mem_append,decide_eq_true_eq]
  split
  ·rename_i h
   rw [List.mem_singleton]
   constructor
   ·rintro ⟨h1,h2⟩
    by_cases hx:x<k
    ·exact .inl ⟨h1,hx⟩
    ·exact .inr (by omega)
   ·rintro (⟨h1,h2⟩ | rfl)
    ·exact ⟨h1,by omega⟩
    ·exact ⟨(bitsOf_mem hn).2 h,by omega⟩
  ·rename_i h
   constructor
   ·rintro ⟨h1,h2⟩
    have:x≠k:=fun e=>h (e ▸ (bitsOf_mem hn).1 h1)
    exact .inl ⟨h1,by omega⟩
   ·rintro (⟨h1,h2⟩ | h1)
    ·exact ⟨h1,by omega⟩
    ·simp at h1
namespace drossref03_Values
theorem spec {r:api_Row} {n:Nat} (hn:n<2^32) (hr:r.Values.length≤1000):C r n (pick r.Values n):=by
 obtain ⟨q,h1,h2⟩:=enter r n (fun q=>q=pick r.Values n) (by
  have loop:∀ k,k≤r.Values.length→L1 r n (((bitsOf n).filter fun i=>decide (i<k)).filterMap fun i=>r.Values[i]?) k fun q=>q=pick r.Values n:=by
   refine down ?_ ?_
   ·apply L1_step
    rw [if_neg (by omega)]
    unfold pick
    rw [List.filterMap_filter]
    refine fm_congr fun i hi=>?_
    by_cases h:i<r.Values.length
    ·simp [h]
    ·simp [h]
   ·intro k hk h
    apply L1_step
    rw [if_pos (by omega)]
    have hget:=List.getElem?_eq_getElem hk
    have hlen:(((bitsOf n).filter fun i=>decide (i<k)).filterMap fun i=>r.Values[i]?).length≤32:=
     Nat.le_trans (List.length_filterMap_le _ _) (Nat.le_trans (List.length_filter_le _ _) bitsOf_len)
    rw [bits_upto hn,List.filterMap_append] at h
    refine ⟨_,drossref02_Has.spec hn,?_⟩
    have next:∀ l,l=(((bitsOf n).filter fun i=>decide (i<k)).filterMap fun i=>r.Values[i]?)++((if n.testBit k=true then [k] else []).filterMap fun i=>r.Values[i]?)→L2 r n l k fun q=>q=pick r.Values n:=by
     rintro _ rfl
     apply L2_step
     rw [wrap_succ (by omega)]
     exact h
    split
    ·rename_i hb
     exact ⟨r.Values[k],lget_of hget,by omega,next _ (by simp [hb,hget])⟩
    ·rename_i hb
     exact next _ (by simp [hb])
  have:=loop 0 (Nat.zero_le _)
  have e:(bitsOf n).filter (fun i=>decide (i<0))=[]:=by rw [List.filter_eq_nil_iff];simp
  rw [e] at this
  exact this)
 rw [← h1];exact h2
end drossref03_Values
def agreeF (a b:List api_Value) (n:Nat):Bool:=decide (pick a n=pick b n)
theorem fm_eq {a b:List api_Value} (hl:a.length=b.length):∀ {l:List Nat},(l.filterMap fun i=>a[i]?)=(l.filterMap fun i=>b[i]?)↔∀ i∈l,a[i]? = b[i]?
 | []=>by simp
 | k::l=>by
  have ih:=fm_eq (a:=a) (b:=b) hl (l:=l)
  by_cases h:k<a.length
  ·have e1:=List.getElem?_eq_getElem h
   have e2:=List.getElem?_eq_getElem (l:=b) (i:=k) (by omega)
   simp only [List.filterMap_cons,e1,e2,List.cons.injEq,ih,List.forall_mem_cons,Option.some.injEq]
  ·have e1:a[k]? = none:=List.getElem?_eq_none (by omega)
   have e2:b[k]? = none:=List.getElem?_eq_none (by omega)
   simp only [List.filterMap_cons,e1,e2,ih,List.forall_mem_cons,true_and]
theorem agree_iff {a b:List api_Value} {n:Nat} (hn:n<2^32) (hl:a.length=b.length):agreeF a b n=true↔∀ i,n.testBit i=true→a[i]? = b[i]?:=by
 unfold agreeF pick
 rw [decide_eq_true_iff,fm_eq hl]
 constructor
 ·exact fun h i hi=>h i ((bitsOf_mem hn).2 hi)
 ·exact fun h i hi=>h i ((bitsOf_mem hn).1 hi)
theorem pick_sub {l:List api_Value} {n:Nat}:∀ v∈pick l n,v∈l:=by
 intro v hv
 obtain ⟨i,_,hi⟩:=List.mem_filterMap.1 hv
 exact List.mem_of_getElem? hi
theorem pick_len {l:List api_Value} {n:Nat}:(pick l n).length≤32:=Nat.le_trans (List.length_filterMap_le _ _) bitsOf_len
theorem drossref03_Agree.spec {a b:api_Row} {n:Nat} (hn:n<2^32) (ha:a.Values.length≤1000) (hb:b.Values.length≤1000) (hs:∀ v∈a.Values,v.Str.toList.length<Big):drossref03_Agree.C a b n (agreeF a.Values b.Values n):=by
 obtain ⟨q,h1,h2⟩:=drossref03_Agree.enter a b n (fun q=>q=agreeF a.Values b.Values n)
  ⟨_,drossref03_Values.spec hn ha,_,drossref03_Values.spec hn hb,_,drossref01_Same.spec ⟨by have:=pick_len (l:=a.Values) (n:=n);unfold Big;omega,fun v hv=>hs v (pick_sub v hv)⟩,rfl⟩
 rw [← h1];exact h2
structure TV (t:api_Table):Prop where
 name:nameF t.Name=true
 na:t.Attrs.length≤16
 nr:t.Rows.length≤1000
 names:namesF t.Attrs=true
 rows:rowsF t.Attrs.length 0 t.Rows=0
theorem tableF_iff {t:api_Table}:tableF t=0↔TV t:=by
 unfold tableF
 constructor
 ·intro h
  split at h
  ·split at h
   ·cases h
   ·split at h
    ·cases h
    ·split at h
     ·rename_i h1 h2 h3 h4
      exact ⟨h1,by omega,by omega,h4,h⟩
     ·cases h
  ·cases h
 ·intro h
  rw [if_pos h.name,if_neg (by have:=h.na;omega),if_neg (by have:=h.nr;omega),if_pos h.names]
  exact h.rows
theorem rowsF_row {n:Nat}:∀ {l:List api_Row} {last:Int},rowsF n last l=0→∀ r∈l,r.Values.length=n∧(∀ v∈r.Values,validV v=true)∧last<r.ID
 | [],_,_,r,hr=>by cases hr
 | a::l,last,h,r,hr=>by
  simp only [rowsF] at h
  split at h
  ·cases h
  ·split at h
   ·split at h
    ·rename_i h1 h2 h3
     unfold validsF at h3
     rw [List.all_eq_true] at h3
     rcases List.mem_cons.1 hr with rfl | hr
     ·exact ⟨h2,h3,by omega⟩
     ·obtain ⟨e1,e2,e3⟩:=rowsF_row h r hr
      exact ⟨e1,e2,by omega⟩
    ·cases h
   ·cases h
theorem TV.len {t:api_Table} (h:TV t) {r:api_Row} (hr:r∈t.Rows):r.Values.length=t.Attrs.length:=(rowsF_row h.rows r hr).1
theorem TV.val {t:api_Table} (h:TV t) {r:api_Row} (hr:r∈t.Rows):∀ v∈r.Values,validV v=true:=(rowsF_row h.rows r hr).2.1
theorem valid_str {v:api_Value} (h:validV v=true):v.Str.toList.length≤200:=by
 rcases validV_cases h with h | h | h | h
 ·rw [h.2.2];simp
 ·rw [h.2];simp
 ·exact h.2.2
 ·rw [h.2.2];simp
def TNum (t:api_Table):Prop:=∀ r∈t.Rows,∀ v∈r.Values,NumOK v
end Go.Own
namespace Go.Own
theorem cmpB_eq:∀ {a b:List UInt8},Lib.compareBytes a b=cmpL a b
 | [],[]=>rfl
 | [],_::_=>rfl
 | _::_,[]=>rfl
 | a::r,b::s=>by
  rw [Lib.compareBytes,cmpL,cmpB_eq (a:=r) (b:=s)]
  have lt:∀ {x y:UInt8},x<y↔u8i x<u8i y:=fun {x y}=>by
   unfold u8i
   rw [UInt8.lt_iff_toNat_lt];omega
  by_cases h:a=b
  ·subst h
   rw [if_neg (by rw [lt];omega),if_neg (by rw [lt];omega),if_pos rfl]
  ·rw [if_neg h]
   unfold cmpI
   by_cases h1:a<b
   ·rw [if_pos h1,if_pos (lt.1 h1)]
   ·rw [if_neg h1,if_neg (fun hh=>h1 (lt.2 hh))]
    have h2:b<a:=by
     rw [lt] at h1 ⊢
     have:u8i a≠u8i b:=fun hh=>h (u8i_inj.1 hh)
     omega
    rw [if_pos h2,if_pos (lt.1 h2)]
theorem bcmp_eq {a b:ByteArray}:bcmp a b=cmpS a b:=by
 unfold bcmp cmpS
 rw [cmpB_eq,bl_eq,bl_eq]
theorem nan_int {x:Int}:cmp_isNaN_int.C x false:=by
 obtain ⟨r,h1,h2⟩:=cmp_isNaN_int.enter x (fun r=>r=false) (by simp)
 rw [← h1];exact h2
theorem nan_int64 {x:Int}:cmp_isNaN_int64.C x false:=by
 obtain ⟨r,h1,h2⟩:=cmp_isNaN_int64.enter x (fun r=>r=false) (by simp)
 rw [← h1];exact h2
theorem cmpInt_spec {x y:Int}:cmp_Compare_int.C x y (cmpI x y):=by
 obtain ⟨r,h1,h2⟩:=cmp_Compare_int.enter x y (fun r=>r=cmpI x y) ⟨_,nan_int,_,nan_int,by
  rw [if_neg Bool.false_ne_true,if_neg Bool.false_ne_true]
  unfold cmpI
  split
  ·rfl
  ·split<;>rfl⟩
 rw [← h1];exact h2
theorem cmpInt64_spec {x y:Int}:cmp_Compare_int64.C x y (cmpI x y):=by
 obtain ⟨r,h1,h2⟩:=cmp_Compare_int64.enter x y (fun r=>r=cmpI x y) ⟨_,nan_int64,_,nan_int64,by
  rw [if_neg Bool.false_ne_true,if_neg Bool.false_ne_true]
  unfold cmpI
  split
  ·rfl
  ·split<;>rfl⟩
 rw [← h1];exact h2
theorem strings_Compare.spec {a b:ByteArray}:strings_Compare.C a b (cmpS a b):=by
 obtain ⟨q,g1,g2⟩:=internal_bytealg_CompareString.enter a b (fun r=>r=cmpS a b) bcmp_eq
 obtain ⟨r,h1,h2⟩:=strings_Compare.enter a b (fun r=>r=cmpS a b) ⟨_,g2,g1⟩
 rw [← h1];exact h2
theorem cmpOr_three {a b c:Int}:cmp_Or_int.C [a,b,c] (if a=0 then (if b=0 then c else b) else a):=by
 obtain ⟨r,h1,h2⟩:=cmp_Or_int.enter [a,b,c] (fun r=>r=if a=0 then (if b=0 then c else b) else a) (by
  have e0:IntKind.wrap .i64 ((0:Int)+1)=1:=by decide
  have e1:IntKind.wrap .i64 ((1:Int)+1)=2:=by decide
  have e2:IntKind.wrap .i64 ((2:Int)+1)=3:=by decide
  apply cmp_Or_int.L1_step
  rw [if_pos (by simp)]
  refine ⟨a,rfl,?_⟩
  by_cases ha:a=0
  ·rw [if_pos ha,if_pos ha,e0]
   apply cmp_Or_int.L1_step
   rw [if_pos (by simp)]
   refine ⟨b,rfl,?_⟩
   by_cases hb:b=0
   ·rw [if_pos hb,if_pos hb,e1]
    apply cmp_Or_int.L1_step
    rw [if_pos (by simp)]
    refine ⟨c,rfl,?_⟩
    by_cases hc:c=0
    ·rw [if_pos hc,e2]
     apply cmp_Or_int.L1_step
     rw [if_neg (by simp)]
     exact hc.symm
    ·rw [if_neg hc]
   ·rw [if_neg hb,if_neg hb]
  ·rw [if_neg ha,if_neg ha])
 rw [← h1];exact h2
theorem value_Compare.spec {a b:api_Value}:value_Compare.C a b (cmpV a b):=by
 obtain ⟨r,h1,h2⟩:=value_Compare.enter a b (fun r=>r=cmpV a b) ⟨_,cmpInt_spec,_,cmpInt64_spec,_,strings_Compare.spec,_,cmpOr_three,by
  unfold cmpV;rfl⟩
 rw [← h1];exact h2
def cond1 (n:Nat) (c:api_Condition):Int:=if c.Attr<0 then 6 else if (n:Int)≤c.Attr then 6 else if c.Op<1 then 1 else if 4<c.Op then 1 else if validV c.Value=true then 0 else 1
def condE (n:Nat):List api_Condition→Int
 | []=>0
 | c::l=>if cond1 n c=0 then condE n l else cond1 n c
def kindE (n:Nat) (k a:Int):Int:=if k<1 then 1 else if 4<k then 1 else if k=1 then 0 else if a<0 then 6 else if (n:Int)≤a then 6 else 0
def valE (t:api_Table) (l:List api_Condition) (k a:Int):Int:=if tableF t=0 then (if condE t.Attrs.length l=0 then kindE t.Attrs.length k a else condE t.Attrs.length l) else tableF t
theorem cond_step {n:Nat} {c:api_Condition} {φ:Int→Prop} {L:Prop} {V:Bool→Prop} (hV:V (validV c.Value)) (h0:cond1 n c=0→L) (h1:cond1 n c≠0→φ (cond1 n c)) :
  if c.Attr<0 then φ 6 else if (n:Int)≤c.Attr then φ 6 else if c.Op<1 then φ 1 else if 4<c.Op then φ 1 else ∃ r:Bool,V r∧(if r=true then L else φ 1):=by
 unfold cond1 at h0 h1
 split
 ·rename_i h;rw [if_pos h] at h1;exact h1 (by decide)
 ·rename_i a1;rw [if_neg a1] at h0 h1
  split
  ·rename_i h;rw [if_pos h] at h1;exact h1 (by decide)
  ·rename_i a2;rw [if_neg a2] at h0 h1
   split
   ·rename_i h;rw [if_pos h] at h1;exact h1 (by decide)
   ·rename_i a3;rw [if_neg a3] at h0 h1
    split
    ·rename_i h;rw [if_pos h] at h1;exact h1 (by decide)
    ·rename_i a4;rw [if_neg a4] at h0 h1
     refine ⟨_,hV,?_⟩
     split
     ·rename_i h;rw [if_pos h] at h0;exact h0 rfl
     ·rename_i h;rw [if_neg h] at h1;exact h1 (by decide)
theorem aggregate_conditions.spec {t:api_Table} {l:List api_Condition} (hl:l.length≤1000):aggregate_conditions.C t l (condE t.Attrs.length l):=by
 obtain ⟨r,h1,h2⟩:=aggregate_conditions.enter t l (fun r=>r=condE t.Attrs.length l) (by
  have go:∀ (r:List api_Condition) (k:Nat),l.drop k=r→condE t.Attrs.length r=condE t.Attrs.length l→aggregate_conditions.L1 t l (k:Int) (fun r=>r=condE t.Attrs.length l):=by
   intro r
   induction r with
   | nil=>intro k hd h;have:=drop_ge hd;apply aggregate_conditions.L1_step;rw [if_neg (by omega)];exact h
   | cons c r ih=>
    intro k hd h
    have hlt:=drop_lt hd
    apply aggregate_conditions.L1_step
    rw [if_pos (by omega)]
    refine ⟨c,lget_drop hd,cond_step (n:=t.Attrs.length) (c:=c) (φ:=fun r=>r=condE t.Attrs.length l) (L:=aggregate_conditions.L1 t l (IntKind.wrap .i64 ((k:Int)+1)) (fun r=>r=condE t.Attrs.length l)) (V:=fun b=>value_Valid.C c.Value b) value_Valid.spec (fun h0=>?_) fun h0=>?_⟩
    ·rw [wrap_succ (by omega)]
     rw [condE,if_pos h0] at h
     exact ih (k+1) (drop_next hd) h
    ·rw [condE,if_neg h0] at h
     exact h
  exact go l 0 rfl rfl)
 rw [← h1];exact h2
theorem drossref51_Conditions.spec {t:api_Table} {l:List api_Condition} (hl:l.length≤1000):drossref51_Conditions.C t l (condE t.Attrs.length l):=by
 obtain ⟨r,h1,h2⟩:=drossref51_Conditions.enter t l (fun r=>r=condE t.Attrs.length l) (by
  have go:∀ (r:List api_Condition) (k:Nat),l.drop k=r→condE t.Attrs.length r=condE t.Attrs.length l→drossref51_Conditions.L1 t l (k:Int) (fun r=>r=condE t.Attrs.length l):=by
   intro r
   induction r with
   | nil=>intro k hd h;have:=drop_ge hd;apply drossref51_Conditions.L1_step;rw [if_neg (by omega)];exact h
   | cons c r ih=>
    intro k hd h
    have hlt:=drop_lt hd
    apply drossref51_Conditions.L1_step
    rw [if_pos (by omega)]
    refine ⟨c,lget_drop hd,cond_step (n:=t.Attrs.length) (c:=c) (φ:=fun r=>r=condE t.Attrs.length l) (L:=drossref51_Conditions.L1 t l (IntKind.wrap .i64 ((k:Int)+1)) (fun r=>r=condE t.Attrs.length l)) (V:=fun b=>drossref01_Valid.C c.Value b) drossref01_Valid.spec (fun h0=>?_) fun h0=>?_⟩
    ·rw [wrap_succ (by omega)]
     rw [condE,if_pos h0] at h
     exact ih (k+1) (drop_next hd) h
    ·rw [condE,if_neg h0] at h
     exact h
  exact go l 0 rfl rfl)
 rw [← h1];exact h2
theorem kind_step {n:Nat} {k a:Int} {φ:Int→Prop} (h:φ (kindE n k a)):if k<1 then φ 1 else if 4<k then φ 1 else if k=1 then φ 0 else if a<0 then φ 6 else if (n:Int)≤a then φ 6 else φ 0:=by
 unfold kindE at h
 split
 ·rename_i a1;rw [if_pos a1] at h;exact h
 ·rename_i a1;rw [if_neg a1] at h
  split
  ·rename_i a2;rw [if_pos a2] at h;exact h
  ·rename_i a2;rw [if_neg a2] at h
   split
   ·rename_i a3;rw [if_pos a3] at h;exact h
   ·rename_i a3;rw [if_neg a3] at h
    split
    ·rename_i a4;rw [if_pos a4] at h;exact h
    ·rename_i a4;rw [if_neg a4] at h
     split
     ·rename_i a5;rw [if_pos a5] at h;exact h
     ·rename_i a5;rw [if_neg a5] at h;exact h
theorem drossref51_Error.spec {t:api_Table} {l:List api_Condition} {k a:Int} (hl:l.length≤1000):drossref51_Error.C t 0 l k a (valE t l k a):=by
 have hk:drossref51_Kind.C t k a (kindE t.Attrs.length k a):=by
  obtain ⟨r,h1,h2⟩:=drossref51_Kind.enter t k a (fun r=>r=kindE t.Attrs.length k a) (kind_step (φ:=fun r=>r=kindE t.Attrs.length k a) rfl)
  rw [← h1];exact h2
 have hy:drossref51_Key.C t 0 (tableF t):=by
  obtain ⟨r,h1,h2⟩:=drossref51_Key.enter t 0 (fun r=>r=tableF t) (by
   refine ⟨_,drossref03_Valid.spec,?_⟩
   by_cases h0:tableF t=0
   ·rw [if_pos h0]
    refine ⟨_,drossref02_Full.spec,?_⟩
    have e:bAndNot .u32 0 ((fullN t.Attrs.length:Nat):Int)=0:=by
     have:=bAndNot_nat (k:=.u32) (a:=0) (b:=fullN t.Attrs.length) (by decide) (by simpa [top] using fullN_lt)
     rw [show ((0:Nat):Int)=0 from rfl] at this
     rw [this]
     have:ndiff 0 (fullN t.Attrs.length)≤0:=ndiff_le
     omega
    rw [if_pos e,h0]
   ·rw [if_neg h0])
  rw [← h1];exact h2
 obtain ⟨r,h1,h2⟩:=drossref51_Error.enter t 0 l k a (fun r=>r=valE t l k a) (by
  refine ⟨_,hy,?_⟩
  unfold valE
  by_cases h0:tableF t=0
  ·rw [if_pos h0,if_pos h0]
   refine ⟨_,drossref51_Conditions.spec hl,?_⟩
   by_cases h1:condE t.Attrs.length l=0
   ·rw [if_pos h1,if_pos h1]
    exact ⟨_,hk,rfl⟩
   ·rw [if_neg h1,if_neg h1]
  ·rw [if_neg h0,if_neg h0])
 rw [← h1];exact h2
def zeroV:api_Value:=⟨0,0,(⟨#[]⟩:ByteArray)⟩
def atV (r:api_Row) (i:Int):api_Value:=(lget r.Values i).getD zeroV
def opB (op n:Int):Bool:=if op=2 then n != 0 else if op=3 then decide (n<0) else if op=4 then decide (n≤0) else n == 0
def satF (r:api_Row) (l:List api_Condition):Bool:=l.all fun c=>opB c.Op (cmpV (atV r c.Attr) c.Value)
theorem cond1_ok {n:Nat} {c:api_Condition} (h:cond1 n c=0):0≤c.Attr∧c.Attr<n∧1≤c.Op∧c.Op≤4∧validV c.Value=true:=by
 unfold cond1 at h
 split at h
 ·cases h
 ·split at h
  ·cases h
  ·split at h
   ·cases h
   ·split at h
    ·cases h
    ·split at h
     ·rename_i a1 a2 a3 a4 a5;exact ⟨by omega,by omega,by omega,by omega,a5⟩
     ·cases h
theorem condE_ok {n:Nat}:∀ {l:List api_Condition},condE n l=0→∀ c∈l,cond1 n c=0
 | [],_,c,hc=>by cases hc
 | d::l,h,c,hc=>by
  rw [condE] at h
  by_cases h0:cond1 n d=0
  ·rw [if_pos h0] at h
   rcases List.mem_cons.1 hc with rfl | hc
   ·exact h0
   ·exact condE_ok h c hc
  ·rw [if_neg h0] at h;exact absurd h h0
theorem at_some {r:api_Row} {i:Int} (h0:0≤i) (h:i<r.Values.length):lget r.Values i=some (atV r i):=by
 obtain ⟨a,ha⟩:=lget_lt h0 h
 unfold atV
 rw [ha];rfl
theorem aggregate_satisfies.spec {r:api_Row} {l:List api_Condition} (hl:l.length≤1000) (hc:∀ c∈l,cond1 r.Values.length c=0):aggregate_satisfies.C r l (satF r l):=by
 obtain ⟨q,h1,h2⟩:=aggregate_satisfies.enter r l (fun q=>q=satF r l) (by
  refine all_loop (l:=l) (p:=fun c=>opB c.Op (cmpV (atV r c.Attr) c.Value)) (L:=fun i=>aggregate_satisfies.L1 r l i _) (φ:=fun q=>q=satF r l) ?_ ?_ rfl
  ·intro h;apply aggregate_satisfies.L1_step;rw [if_neg (by omega)];exact h
  ·intro k c hk hlt h
   obtain ⟨c1,c2,c3,c4,c5⟩:=cond1_ok (hc c (List.mem_of_getElem? hk))
   have fin_:aggregate_satisfies.L2 r l (opB c.Op (cmpV (atV r c.Attr) c.Value)) (k:Int) (fun q=>q=satF r l):=by
    apply aggregate_satisfies.L2_step
    rw [wrap_succ (by omega)]
    exact h
   apply aggregate_satisfies.L1_step
   rw [if_pos (by omega)]
   refine ⟨c,lget_of hk,_,at_some c1 c2,_,value_Compare.spec,?_⟩
   unfold opB at fin_
   by_cases o2:c.Op=2
   ·rw [if_pos o2];rw [if_pos o2] at fin_;exact fin_
   ·rw [if_neg o2];rw [if_neg o2] at fin_
    by_cases o3:c.Op=3
    ·rw [if_pos o3];rw [if_pos o3] at fin_;exact fin_
    ·rw [if_neg o3];rw [if_neg o3] at fin_
     by_cases o4:c.Op=4
     ·rw [if_pos o4];rw [if_pos o4] at fin_;exact fin_
     ·rw [if_neg o4];rw [if_neg o4] at fin_;exact fin_)
 rw [← h1];exact h2
theorem drossref51_satisfies.spec {r:api_Row} {l:List api_Condition} (hl:l.length≤1000) (hv:∀ v∈r.Values,validV v=true) (hc:∀ c∈l,cond1 r.Values.length c=0):drossref51_satisfies.C r l (satF r l):=by
 obtain ⟨q,h1,h2⟩:=drossref51_satisfies.enter r l (fun q=>q=satF r l) (by
  refine all_loop (l:=l) (p:=fun c=>opB c.Op (cmpV (atV r c.Attr) c.Value)) (L:=fun i=>drossref51_satisfies.L1 r l i _) (φ:=fun q=>q=satF r l) ?_ ?_ rfl
  ·intro h;apply drossref51_satisfies.L1_step;rw [if_neg (by omega)];exact h
  ·intro k c hk hlt h
   obtain ⟨c1,c2,c3,c4,c5⟩:=cond1_ok (hc c (List.mem_of_getElem? hk))
   have hat:=at_some c1 c2
   have fin_:∀ b:Bool,b=opB c.Op (cmpV (atV r c.Attr) c.Value)→drossref51_satisfies.L2 r l (k:Int) b (fun q=>q=satF r l):=fun b hb=>by
    apply drossref51_satisfies.L2_step
    rw [wrap_succ (by omega),hb]
    exact h
   apply drossref51_satisfies.L1_step
   rw [if_pos (by omega)]
   refine ⟨c,lget_of hk,_,hat,_,drossref01_Compare.spec (by have:=valid_str (hv _ (List.mem_of_getElem? (lget_some hat).2));unfold Big;omega),?_⟩
   generalize cmpV (atV r c.Attr) c.Value=n at fin_
   have ho:c.Op=1∨c.Op=2∨c.Op=3∨c.Op=4:=by omega
   have n1:¬ (1:Int)=2:=by decide
   have n2:¬ (1:Int)=3:=by decide
   have n3:¬ (1:Int)=4:=by decide
   have n4:¬ (2:Int)=1:=by decide
   have n5:¬ (2:Int)=3:=by decide
   have n6:¬ (2:Int)=4:=by decide
   have n7:¬ (3:Int)=1:=by decide
   have n8:¬ (3:Int)=2:=by decide
   have n9:¬ (3:Int)=4:=by decide
   have n10:¬ (4:Int)=1:=by decide
   have n11:¬ (4:Int)=2:=by decide
   have n12:¬ (4:Int)=3:=by decide
   rcases ho with ho | ho | ho | ho<;>rw [ho] at fin_ ⊢<;>unfold opB at fin_<;>simp only [if_true,n1,n2,n3,n4,n5,n6,n7,n8,n9,n10,n11,n12,if_false] at fin_ ⊢
   ·by_cases h0:n=0
    ·rw [if_pos h0];exact fin_ true (by simp [h0])
    ·rw [if_neg h0];exact fin_ false (by simp [h0])
   ·by_cases h0:n=0
    ·rw [if_pos h0];exact fin_ false (by simp [h0])
    ·rw [if_neg h0];exact fin_ true (by simp [h0])
   ·by_cases h0:n<0
    ·rw [if_pos h0];exact fin_ true (by simp [h0])
    ·rw [if_neg h0];exact fin_ false (by simp [h0])
   ·exact fin_ _ rfl)
 rw [← h1];exact h2
end Go.Own
namespace Go.Own
theorem mgm {κ ν:Type} [DecidableEq κ] {k k':κ} {v:ν}:∀ {l:List (κ×ν)},mget k' (mset k v l)=if k=k' then some v else mget k' l
 | []=>by
  simp only [mset,mget]
  by_cases h:k'=k
  ·rw [if_pos h,if_pos h.symm]
  ·rw [if_neg h,if_neg (fun hh=>h hh.symm)]
 | (q,w)::l=>by
  simp only [mset]
  by_cases h:k=q
  ·rw [if_pos h]
   simp only [mget]
   by_cases h2:k'=q
   ·rw [if_pos h2,if_pos (h.trans h2.symm)]
   ·rw [if_neg h2,if_neg (fun hh=>h2 (hh.symm.trans h)),if_neg h2]
  ·rw [if_neg h]
   simp only [mget]
   by_cases h2:k'=q
   ·rw [if_pos h2,if_neg (fun hh=>h (hh.trans h2)),if_pos h2]
   ·rw [if_neg h2,if_neg h2];exact mgm
def numV (x:Int):api_Value:=⟨1,x,⟨#[]⟩⟩
theorem nil_toList:((⟨#[]⟩:ByteArray)).toList=[]:=bl_mk (l:=[])
def textB:List api_Value→Nat→Nat→List UInt8
 | [],_,_=>[]
 | v::r,s,k=>(if s.testBit k=true then (keyW v).data.toList else [])++textB r s (k+1)
theorem aggregate_text.spec {r:api_Row} {s:Nat} (hs:s<2^32) (hv:∀ v∈r.Values,validV v=true∧(keyW v).size≤1000) (hl:r.Values.length≤1000):aggregate_text.C r s (bstr (textB r.Values s 0)):=by
 obtain ⟨q,h1,h2⟩:=aggregate_text.enter r s (fun q=>q=bstr (textB r.Values s 0)) (by
  have go:∀ (l:List api_Value) (k:Nat) (acc:List UInt8),r.Values.drop k=l→acc.length≤1000*k→acc++textB l s k=textB r.Values s 0→aggregate_text.L1 r s acc (k:Int) (fun q=>q=bstr (textB r.Values s 0)):=by
   intro l
   induction l with
   | nil=>
    intro k acc hd hk h
    have:=drop_ge hd
    apply aggregate_text.L1_step
    rw [if_neg (by omega)]
    have h:acc=textB r.Values s 0:=by simpa [textB] using h
    rw [h]
   | cons v l ih=>
    intro k acc hd hk h
    have hlt:=drop_lt hd
    obtain ⟨hv1,hv2⟩:=hv v (List.mem_of_getElem? (drop_get hd))
    have hsz:(keyW v).data.toList.length=(keyW v).size:=rfl
    have next:∀ acc':List UInt8,acc'.length≤1000*(k+1)→acc'++textB l s (k+1)=textB r.Values s 0→aggregate_text.L2 r s acc' (k:Int) (fun q=>q=bstr (textB r.Values s 0)):=fun acc' h1 h2=>by
     apply aggregate_text.L2_step
     rw [wrap_succ (by omega)]
     exact ih (k+1) acc' (drop_next hd) h1 h2
    rw [textB] at h
    apply aggregate_text.L1_step
    rw [if_pos (by omega)]
    refine ⟨v,lget_drop hd,by omega,?_⟩
    have eb:=bit_eq1 (k:=.u32) (a:=s) (i:=k) (by simpa only [top] using hs) (by decide)
    by_cases hb:s.testBit k=true
    ·rw [if_pos (eb.2 hb)]
     rw [if_pos hb] at h
     refine ⟨_,value_Key.spec hv1,by simp only;omega,next _ (by rw [List.length_append];simp only;omega) (by rw [List.append_assoc];exact h)⟩
    ·rw [if_neg (fun hh=>hb (eb.1 hh))]
     rw [if_neg hb,List.nil_append] at h
     exact next acc (by omega) h
  exact go r.Values 0 [] rfl (by simp) rfl)
 rw [← h1];exact h2
def K1 (i:Nat):ByteArray:=keysW [numV i]
def K2 (i j:Nat):ByteArray:=keysW [numV i,numV j]
structure GInv (sz:Nat→Nat) (i j:Nat) (out:List (List aggregate_group)) (m1:List (ByteArray×Int)) (m2:List (ByteArray×(Int×Int))):Prop where
 len:out.length=if j=0 then i else i+1
 cnt:∀ q,q<i→∃ a,out[q]? = some a∧a.length=sz q
 cur:j≠0→∃ a,out[i]? = some a∧a.length=j
 h1:∀ q,q<1000→mget (K1 q) m1=if q<out.length then some (q:Int) else none
 h2:∀ q p,q<1000→p<1000→mhas (K2 q p) m2=true→q<i∨q=i∧p<j
def g0:aggregate_group:=⟨[],true,(⟨0,0,(⟨#[]⟩:ByteArray)⟩:api_Value),(⟨0,0⟩:aggregate_total)⟩
namespace aggregate_groups
variable {sz:Nat→Nat} {t:api_Table} {φ:List (List aggregate_group)→Prop}
end aggregate_groups
end Go.Own
namespace Go.Own
theorem low_range {a:Int}:0≤bAnd .i64 a 4294967295∧bAnd .i64 a 4294967295<4294967296:=by
 have h:∃ q:Nat,bAnd .i64 a ((4294967295:Nat):Int)=(q:Int)∧q≤4294967295:=by
  unfold bAnd
  rw [BitVec.toNat_and,toNat_top (k:=.i64) (n:=4294967295) (by simp only [top];omega)]
  refine ⟨_,wrap_top (k:=.i64) ?_,Nat.and_le_right⟩
  have:=Nat.and_le_right (n:=(BitVec.ofInt IntKind.i64.bits a).toNat) (m:=4294967295)
  simp only [top];omega
 obtain ⟨q,h1,h2⟩:=h
 rw [show (4294967295:Int)=((4294967295:Nat):Int) from rfl,h1]
 omega
theorem wrap_wrap {a b:Int}:IntKind.wrap .i64 (a+IntKind.wrap .i64 b)=IntKind.wrap .i64 (a+b):=by
 rw [IntKind.wrap_i64,IntKind.wrap_i64,IntKind.wrap_i64];omega
def addT (s:Int×Int) (n:Int):Int×Int:=
 (IntKind.wrap .i64 (IntKind.wrap .i64 (s.1+shrw .i64 n 32)+shrw .i64 (IntKind.wrap .i64 (s.2+bAnd .i64 n 4294967295)) 32),bAnd .i64 (IntKind.wrap .i64 (s.2+bAnd .i64 n 4294967295)) 4294967295)
theorem normal_spec {x:aggregate_total}:aggregate_total_normal.C x ⟨IntKind.wrap .i64 (x.high+shrw .i64 x.low 32),bAnd .i64 x.low 4294967295⟩:=by
 obtain ⟨r,h1,h2⟩:=aggregate_total_normal.enter x (fun r=>r=⟨IntKind.wrap .i64 (x.high+shrw .i64 x.low 32),bAnd .i64 x.low 4294967295⟩) rfl
 rw [← h1];exact h2
theorem addref_spec {s:Int×Int} {n:Int}:drossref51_add.C ⟨s.1,s.2⟩ n ⟨(addT s n).1,(addT s n).2⟩:=by
 obtain ⟨r,h1,h2⟩:=drossref51_add.enter ⟨s.1,s.2⟩ n (fun r=>r=⟨(addT s n).1,(addT s n).2⟩) rfl
 subst h1;exact h2
def fitT (h:Int):Bool:=if -2147483648≤h then decide (h≤2147483647) else false
def numR (s:Int×Int):api_Value:=⟨1,IntKind.wrap .i64 (shlw .i64 s.1 32+s.2),⟨#[]⟩⟩
theorem number_spec {s:Int×Int}:aggregate_total_number.C ⟨s.1,s.2⟩ (if fitT s.1=true then ((numR s,0):api_Value×Int) else (zeroV,7)):=by
 obtain ⟨r,h1,h2⟩:=aggregate_total_number.enter ⟨s.1,s.2⟩ (fun r=>r=if fitT s.1=true then ((numR s,0):api_Value×Int) else (zeroV,7)) (by
  unfold fitT
  by_cases a:s.1 < -2147483648
  ·rw [if_pos a,if_neg (c:=-2147483648≤s.1) (by omega),if_neg Bool.false_ne_true];rfl
  ·rw [if_neg a,if_pos (c:=-2147483648≤s.1) (by omega)]
   by_cases b:2147483647<s.1
   ·rw [if_pos b,if_neg (by rw [decide_eq_true_iff];omega)];rfl
   ·rw [if_neg b,if_pos (by rw [decide_eq_true_iff];omega)];rfl)
 rw [← h1];exact h2
theorem fits_spec {s:drossref51_Total}:drossref51_fits.C s (fitT s.High):=by
 obtain ⟨r,h1,h2⟩:=drossref51_fits.enter s (fun r=>r=fitT s.High) (by
  unfold fitT
  split<;>rfl)
 rw [← h1];exact h2
def sumS (kind attr:Int) (s:Int×Int) (r:api_Row):Int×Int:=
 if kind=1 then addT s 1 else if (atV r attr).Kind=1 then addT s (atV r attr).Num else s
def sumF (l:List api_Condition) (k a:Int) (rows:List api_Row):Int×Int:=(rows.filter fun r=>satF r l).foldl (sumS k a) (0,0)
theorem numR_count {c:Nat} (h:c<1000000):numR (0,(c:Int))=⟨1,(c:Int),⟨#[]⟩⟩:=by
 unfold numR
 have:shlw .i64 0 32=0:=by unfold shlw;simp;decide
 simp only [this]
 rw [show (0:Int)+(c:Int)=c by omega,wrap_id (by omega) (by omega)]
def betterB (great:Bool) (v b:api_Value):Bool:=if great=true then decide (0<cmpV v b) else decide (cmpV v b<0)
def pstep (great:Bool) (s:aggregate_group×Bool) (g:aggregate_group):aggregate_group×Bool:=
 if g.ok=true then (if s.2=true then (if betterB great g.value s.1.value=true then (g,true) else s) else (g,true)) else s
def zeroG:aggregate_group:=⟨[],false,zeroV,⟨0,0⟩⟩
theorem aggregate_pick.spec {gs:List aggregate_group} {great:Bool} (hl:gs.length≤1000000):aggregate_pick.C gs great (gs.foldl (pstep great) (zeroG,false)):=by
 generalize hR:gs.foldl (pstep great) (zeroG,false)=R
 obtain ⟨q,h1,h2⟩:=aggregate_pick.enter gs great (fun q=>q=R) (by
  have go:∀ (r:List aggregate_group) (i:Nat) (s:aggregate_group×Bool),gs.drop i=r→r.foldl (pstep great) s=R→aggregate_pick.L1 gs great s.1.ids s.1.ok s.1.value.Kind s.1.value.Num s.1.value.Str s.1.sum.high s.1.sum.low s.2 (i:Int) (fun q=>q=R):=by
   intro r
   induction r with
   | nil=>
    intro i s hd h
    have:=drop_ge hd
    apply aggregate_pick.L1_step
    rw [if_neg (by omega)]
    exact h
   | cons g r ih=>
    intro i s hd h
    have hlt:=drop_lt hd
    rw [List.foldl_cons] at h
    have keep:pstep great s g=s→aggregate_pick.L2 gs great s.1.ids s.1.ok s.1.value.Kind s.1.value.Num s.1.value.Str s.1.sum.high s.1.sum.low s.2 (i:Int) (fun q=>q=R):=fun e=>by
     rw [e] at h
     apply aggregate_pick.L2_step
     rw [wrap_succ (by omega)]
     exact ih (i+1) s (drop_next hd) h
    have take:pstep great s g=(g,true)→aggregate_pick.L3 gs great s.1.ids s.1.ok s.1.value.Kind s.1.value.Num s.1.value.Str s.1.sum.high s.1.sum.low g (i:Int) (fun q=>q=R):=fun e=>by
     rw [e] at h
     apply aggregate_pick.L3_step
     apply aggregate_pick.L2_step
     rw [wrap_succ (by omega)]
     exact ih (i+1) (g,true) (drop_next hd) h
    apply aggregate_pick.L1_step
    rw [if_pos (by omega)]
    refine ⟨g,lget_drop hd,?_⟩
    unfold pstep betterB at keep take
    by_cases ho:g.ok=true
    ·rw [if_pos ho];rw [if_pos ho] at keep take
     refine ⟨_,value_Compare.spec,?_⟩
     by_cases hf:s.2=true
     ·rw [if_pos hf];rw [if_pos hf] at keep take
      by_cases hg:great=true
      ·rw [if_pos hg];rw [if_pos hg] at keep take
       by_cases hb:0<cmpV g.value s.1.value
       ·rw [if_pos (by exact hb)];exact take (if_pos (decide_eq_true hb))
       ·rw [if_neg (by exact hb),if_pos hg];exact keep (if_neg (fun hh=>hb (of_decide_eq_true hh)))
      ·rw [if_neg hg,if_neg hg];rw [if_neg hg] at keep take
       by_cases hb:cmpV g.value s.1.value<0
       ·rw [if_pos (by exact hb)];exact take (if_pos (decide_eq_true hb))
       ·rw [if_neg (by exact hb)];exact keep (if_neg (fun hh=>hb (of_decide_eq_true hh)))
     ·rw [if_neg hf];exact take (if_neg hf)
    ·rw [if_neg ho];exact keep (if_neg ho)
  exact go gs 0 (zeroG,false) rfl hR)
 rw [← h1];exact h2
def vstep (great:Bool) (o:Option api_Value) (v:api_Value):Option api_Value:=
 match o with
 | none=>some v
 | some b=>some (if betterB great v b=true then v else b)
def bestF (l:List api_Condition) (great:Bool) (a:Int) (rows:List api_Row):Option api_Value:=
 ((rows.filter fun r=>satF r l).map fun r=>atV r a).foldl (vstep great) none
theorem best_some {great:Bool}:∀ {vs:List api_Value} {b:api_Value},∃ c,vs.foldl (vstep great) (some b)=some c
 | [],b=>⟨b,rfl⟩
 | v::r,b=>best_some (vs:=r)
end Go.Own
namespace Go.Own
theorem cmpI_swap {a b:Int}:cmpI b a = -cmpI a b:=by
 unfold cmpI
 repeat' split
 all_goals omega
theorem cmpI_lt {a b:Int}:cmpI a b<0↔a<b:=by
 unfold cmpI
 split
 ·omega
 ·split<;>omega
theorem cmpL_swap:∀ {a b:List UInt8},cmpL b a = -cmpL a b
 | [],[]=>rfl
 | [],_::_=>rfl
 | _::_,[]=>rfl
 | a::r,b::s=>by
  simp only [cmpL]
  by_cases h:a=b
  ·rw [if_pos h,if_pos h.symm];exact cmpL_swap
  ·rw [if_neg h,if_neg (fun e=>h e.symm)];exact cmpI_swap
theorem cmpL_trans:∀ {a b c:List UInt8},cmpL a b<0→cmpL b c<0→cmpL a c<0
 | [],[],c,h,h2=>h2
 | [],b::s,[],h,h2=>by simp [cmpL] at h2
 | [],b::s,c::q,h,h2=>by simp [cmpL]
 | a::r,[],_,h,h2=>by simp [cmpL] at h
 | a::r,b::s,[],h,h2=>by simp [cmpL] at h2
 | a::r,b::s,c::q,h,h2=>by
  simp only [cmpL] at h h2 ⊢
  by_cases h3:a=b
  ·subst h3
   rw [if_pos rfl] at h
   by_cases h4:a=c
   ·rw [if_pos h4] at h2 ⊢;exact cmpL_trans h h2
   ·rw [if_neg h4] at h2 ⊢;exact h2
  ·rw [if_neg h3,cmpI_lt] at h
   by_cases h4:b=c
   ·subst h4
    rw [if_neg h3,cmpI_lt];exact h
   ·rw [if_neg h4,cmpI_lt] at h2
    rw [if_neg (fun e=>by subst e;omega),cmpI_lt];omega
theorem cmpV_swap {v w:api_Value}:cmpV w v = -cmpV v w:=by
 unfold cmpV cmpS
 by_cases h1:v.Kind=w.Kind
 ·rw [if_pos (cmpI_zero.2 h1.symm),if_pos (cmpI_zero.2 h1)]
  by_cases h2:v.Num=w.Num
  ·rw [if_pos (cmpI_zero.2 h2.symm),if_pos (cmpI_zero.2 h2)];exact cmpL_swap
  ·rw [if_neg (fun h=>h2 (cmpI_zero.1 h).symm),if_neg (fun h=>h2 (cmpI_zero.1 h))];exact cmpI_swap
 ·rw [if_neg (fun h=>h1 (cmpI_zero.1 h).symm),if_neg (fun h=>h1 (cmpI_zero.1 h))];exact cmpI_swap
theorem cmpV_lt {v w:api_Value}:cmpV v w<0↔v.Kind<w.Kind∨(v.Kind=w.Kind∧(v.Num<w.Num∨(v.Num=w.Num∧cmpL v.Str.toList w.Str.toList<0))):=by
 unfold cmpV cmpS
 by_cases h1:v.Kind=w.Kind
 ·rw [if_pos (cmpI_zero.2 h1)]
  by_cases h2:v.Num=w.Num
  ·rw [if_pos (cmpI_zero.2 h2)]
   constructor
   ·exact fun h=>.inr ⟨h1,.inr ⟨h2,h⟩⟩
   ·rintro (h | ⟨_,h | ⟨_,h⟩⟩)
    ·omega
    ·omega
    ·exact h
  ·rw [if_neg (fun h=>h2 (cmpI_zero.1 h)),cmpI_lt]
   constructor
   ·exact fun h=>.inr ⟨h1,.inl h⟩
   ·rintro (h | ⟨_,h | ⟨h,_⟩⟩)
    ·omega
    ·exact h
    ·exact absurd h h2
 ·rw [if_neg (fun h=>h1 (cmpI_zero.1 h)),cmpI_lt]
  constructor
  ·exact .inl
  ·rintro (h | ⟨h,_⟩)
   ·exact h
   ·exact absurd h h1
theorem cmpV_trans {u v w:api_Value} (h:cmpV u v<0) (h2:cmpV v w<0):cmpV u w<0:=by
 rw [cmpV_lt] at h h2 ⊢
 rcases h with h | ⟨e1,h⟩
 ·rcases h2 with h2 | ⟨f1,h2⟩
  ·left;omega
  ·left;omega
 ·rcases h2 with h2 | ⟨f1,h2⟩
  ·left;omega
  ·right
   refine ⟨by omega,?_⟩
   rcases h with h | ⟨e2,h⟩
   ·rcases h2 with h2 | ⟨f2,h2⟩
    ·left;omega
    ·left;omega
   ·rcases h2 with h2 | ⟨f2,h2⟩
    ·left;omega
    ·exact .inr ⟨by omega,cmpL_trans h h2⟩
theorem better_not {g:Bool} {v b:api_Value}:betterB (!g) v b=betterB g b v:=by
 have hs:=cmpV_swap (v:=v) (w:=b)
 unfold betterB
 cases g with
 | true=>
  show decide (cmpV v b<0)=decide (0<cmpV b v)
  rw [decide_eq_decide];omega
 | false=>
  show decide (0<cmpV v b)=decide (cmpV b v<0)
  rw [decide_eq_decide];omega
theorem better_trans {g:Bool} {u v w:api_Value} (h:betterB g u v=true) (h2:betterB g v w=true):betterB g u w=true:=by
 cases g with
 | false=>
  have h:cmpV u v<0:=of_decide_eq_true h
  have h2:cmpV v w<0:=of_decide_eq_true h2
  exact decide_eq_true (cmpV_trans h h2)
 | true=>
  have h:0<cmpV u v:=of_decide_eq_true h
  have h2:0<cmpV v w:=of_decide_eq_true h2
  have e1:=cmpV_swap (v:=u) (w:=v)
  have e2:=cmpV_swap (v:=v) (w:=w)
  have e3:=cmpV_swap (v:=u) (w:=w)
  have:=cmpV_trans (u:=w) (v:=v) (w:=u) (by omega) (by omega)
  exact decide_eq_true (by omega)
theorem better_irrefl {g:Bool} {u:api_Value}:betterB g u u=false:=by
 have h:cmpV u u=0:=cmpV_zero.2 rfl
 cases g with
 | false=>exact decide_eq_false (by omega)
 | true=>exact decide_eq_false (by omega)
theorem better_total {g:Bool} {u v:api_Value} (h:betterB g u v=false) (h2:betterB g v u=false):u=v:=by
 have e:=cmpV_swap (v:=u) (w:=v)
 refine cmpV_zero.1 ?_
 cases g with
 | false=>
  have h:¬ cmpV u v<0:=of_decide_eq_false h
  have h2:¬ cmpV v u<0:=of_decide_eq_false h2
  omega
 | true=>
  have h:¬ 0<cmpV u v:=of_decide_eq_false h
  have h2:¬ 0<cmpV v u:=of_decide_eq_false h2
  omega
theorem better_le {g:Bool} {x y z:api_Value} (h:betterB g x y=false) (h2:betterB g y z=false):betterB g x z=false:=by
 cases hb:betterB g x z with
 | false=>rfl
 | true=>
  cases hc:betterB g y x with
  | true=>rw [better_trans hc hb] at h2;cases h2
  | false=>rw [better_total h hc] at hb;rw [hb] at h2;cases h2
def IsBest (g:Bool) (vs:List api_Value) (m:api_Value):Prop:=m∈vs∧∀ v∈vs,betterB g v m=false
theorem IsBest.uniq {g:Bool} {vs ws:List api_Value} {m n:api_Value} (h:IsBest g vs m) (h2:IsBest g ws n) (h3:n∈vs) (h4:m∈ws):m=n:=better_total (h2.2 m h4) (h.2 n h3)
theorem best_fold {g:Bool}:∀ {vs pre:List api_Value} {b:api_Value},IsBest g pre b→∃ m,vs.foldl (vstep g) (some b)=some m∧IsBest g (pre++vs) m
 | [],pre,b,h=>⟨b,rfl,by rw [List.append_nil];exact h⟩
 | v::r,pre,b,h=>by
  have e:pre++v::r=(pre++[v])++r:=by simp
  rw [e,List.foldl_cons]
  have h2:IsBest g (pre++[v]) (if betterB g v b=true then v else b):=by
   by_cases hb:betterB g v b=true
   ·rw [if_pos hb]
    refine ⟨by simp,fun w hw=>?_⟩
    rcases List.mem_append.1 hw with hw | hw
    ·have h5:=h.2 w hw
     cases hc:betterB g w v with
     | false=>rfl
     | true=>rw [better_trans hc hb] at h5;cases h5
    ·rw [List.mem_singleton.1 hw];exact better_irrefl
   ·rw [if_neg hb]
    refine ⟨List.mem_append_left _ h.1,fun w hw=>?_⟩
    rcases List.mem_append.1 hw with hw | hw
    ·exact h.2 w hw
    ·rw [List.mem_singleton.1 hw];simpa using hb
  exact best_fold h2
theorem best_nil {g:Bool} {vs:List api_Value} (h:vs.foldl (vstep g) none=none):vs=[]:=by
 cases vs with
 | nil=>rfl
 | cons v r=>
  rw [List.foldl_cons] at h
  obtain ⟨m,e,_⟩:=best_fold (g:=g) (vs:=r) (pre:=[v]) (b:=v) ⟨by simp,fun w hw=>by rw [List.mem_singleton.1 hw];exact better_irrefl⟩
  have:vstep g none v=some v:=rfl
  rw [this,e] at h;cases h
theorem best_get {g:Bool} {vs:List api_Value} {m:api_Value} (h:vs.foldl (vstep g) none=some m):IsBest g vs m:=by
 cases vs with
 | nil=>cases h
 | cons v r=>
  rw [List.foldl_cons] at h
  obtain ⟨n,e,hn⟩:=best_fold (g:=g) (vs:=r) (pre:=[v]) (b:=v) ⟨by simp,fun w hw=>by rw [List.mem_singleton.1 hw];exact better_irrefl⟩
  have:vstep g none v=some v:=rfl
  rw [this,e] at h
  rw [← Option.some.inj h];exact hn
theorem best_of {g:Bool} {vs:List api_Value} {m:api_Value} (h:IsBest g vs m):vs.foldl (vstep g) none=some m:=by
 cases hf:vs.foldl (vstep g) none with
 | none=>rw [best_nil hf] at h;cases h.1
 | some n=>rw [(best_get hf).uniq h h.1 (best_get hf).1]
end Go.Own
namespace Go.Own
def TextOK (r:api_Row):Prop:=(∀ v∈r.Values,validV v=true)∧r.Values.length≤16
theorem kind_ok {n:Nat} {k a:Int} (h:kindE n k a=0):1≤k∧k≤4∧(k≠1→0≤a∧a<n):=by
 unfold kindE at h
 split at h
 ·cases h
 ·split at h
  ·cases h
  ·split at h
   ·exact ⟨by omega,by omega,fun _=>by omega⟩
   ·split at h
    ·cases h
    ·split at h
     ·cases h
     ·exact ⟨by omega,by omega,fun _=>by omega⟩
def valR (l:List api_Condition) (k a:Int) (rows:List api_Row):api_Value×Bool×Int:=
 if k=1 then (⟨1,(((rows.filter fun r=>satF r l).length:Nat):Int),⟨#[]⟩⟩,true,0)
 else if k=2 then (if fitT (sumF l k a rows).1=true then (numR (sumF l k a rows),true,0) else (zeroV,false,7))
 else match bestF l (k == 4) a rows with
  | none=>(zeroV,false,0)
  | some v=>(v,true,0)
theorem best_is {l:List api_Condition} {g:Bool} {a:Int} {rows:List api_Row} (h:rows.any (fun r=>satF r l)=true):∃ v,bestF l g a rows=some v:=by
 unfold bestF
 obtain ⟨x,hx,hs⟩:=List.any_eq_true.1 h
 have:x∈rows.filter fun r=>satF r l:=List.mem_filter.2 ⟨hx,hs⟩
 cases hf:rows.filter fun r=>satF r l with
 | nil=>rw [hf] at this;cases this
 | cons y r=>exact best_some
def RowsOK (t:api_Table):Prop:=t.Rows.length≤1000∧∀ r∈t.Rows,TextOK r∧r.Values.length=t.Attrs.length
theorem TV.rowsOK {t:api_Table} (h:TV t):RowsOK t:=⟨h.nr,fun r hr=>⟨⟨h.val hr,by rw [h.len hr];exact h.na⟩,h.len hr⟩⟩
def valT (t:api_Table) (l:List api_Condition) (k a:Int):api_Value×Bool×Int:=if valE t l k a=0 then valR l k a t.Rows else (zeroV,false,valE t l k a)
theorem valE_zero {t:api_Table} {l:List api_Condition} {k a:Int} (h:valE t l k a=0):TV t∧condE t.Attrs.length l=0∧kindE t.Attrs.length k a=0:=by
 unfold valE at h
 by_cases h0:tableF t=0
 ·rw [if_pos h0] at h
  by_cases h1:condE t.Attrs.length l=0
  ·rw [if_pos h1] at h
   exact ⟨tableF_iff.1 h0,h1,h⟩
  ·rw [if_neg h1] at h;exact absurd h h1
 ·rw [if_neg h0] at h;exact absurd h h0
theorem drossref51_Rows.spec {t:api_Table} {l:List api_Condition} (hl:l.length≤1000) (ht:t.Rows.length≤1000000) (hv:∀ r∈t.Rows,(∀ v∈r.Values,validV v=true)∧∀ c∈l,cond1 r.Values.length c=0):drossref51_Rows.C t l (t.Rows.filter fun r=>satF r l):=by
 obtain ⟨q,h1,h2⟩:=drossref51_Rows.enter t l (fun q=>q=t.Rows.filter fun r=>satF r l) (by
  have go:∀ (r:List api_Row) (i:Nat) (acc:List api_Row),t.Rows.drop i=r→acc.length≤i→(acc++r.filter fun r=>satF r l)=(t.Rows.filter fun r=>satF r l)→drossref51_Rows.L1 t l acc (i:Int) (fun q=>q=t.Rows.filter fun r=>satF r l):=by
   intro r
   induction r with
   | nil=>
    intro i acc hd hi h
    have:=drop_ge hd
    apply drossref51_Rows.L1_step
    rw [if_neg (by omega)]
    rw [← h,List.filter_nil,List.append_nil]
   | cons x r ih=>
    intro i acc hd hi h
    have hlt:=drop_lt hd
    have hx:=hv x (List.mem_of_getElem? (drop_get hd))
    apply drossref51_Rows.L1_step
    rw [if_pos (by omega)]
    refine ⟨x,lget_drop hd,_,drossref51_satisfies.spec hl hx.1 hx.2,?_⟩
    rw [List.filter_cons] at h
    by_cases hs:satF x l=true
    ·rw [if_pos hs] at h ⊢
     refine ⟨by omega,?_⟩
     apply drossref51_Rows.L2_step
     rw [wrap_succ (by omega)]
     exact ih (i+1) _ (drop_next hd) (by rw [List.length_append];simp;omega) (by rw [List.append_assoc];exact h)
    ·rw [if_neg hs] at h ⊢
     apply drossref51_Rows.L2_step
     rw [wrap_succ (by omega)]
     exact ih (i+1) _ (drop_next hd) (by omega) h
  exact go t.Rows 0 [] rfl (by simp) rfl)
 rw [← h1];exact h2
def refR (k a:Int) (rows:List api_Row):drossref51_Result:=
 if k=1 then ⟨⟨1,((rows.length:Nat):Int),⟨#[]⟩⟩,⟨0,0⟩,true⟩
 else if k=2 then ⟨if fitT (rows.foldl (sumS k a) (0,0)).1=true then numR (rows.foldl (sumS k a) (0,0)) else ⟨1,0,⟨#[]⟩⟩,⟨(rows.foldl (sumS k a) (0,0)).1,(rows.foldl (sumS k a) (0,0)).2⟩,true⟩
 else ⟨((rows.map fun r=>atV r a).foldl (vstep (k == 4)) none).getD zeroV,⟨0,0⟩,((rows.map fun r=>atV r a).foldl (vstep (k == 4)) none).isSome⟩
theorem drossref51_Of.spec {rows:List api_Row} {k a:Int} (hl:rows.length≤1000000) (hk:1≤k∧k≤4) (hv:k≠1→∀ r∈rows,(∀ v∈r.Values,validV v=true)∧0≤a∧a<r.Values.length):drossref51_Of.C rows k a (refR k a rows):=by
 generalize hR:refR k a rows=R
 obtain ⟨q,h1,h2⟩:=drossref51_Of.enter rows k a (fun q=>q=R) (by
  unfold refR at hR
  by_cases hk1:k=1
  ·rw [if_pos hk1];rw [if_pos hk1] at hR;exact hR
  ·rw [if_neg hk1];rw [if_neg hk1] at hR
   have hv:=hv hk1
   by_cases hk2:k=2
   ·rw [if_pos hk2];rw [if_pos hk2] at hR
    have go:∀ (r:List api_Row) (i:Nat) (s:Int×Int),rows.drop i=r→r.foldl (sumS k a) s=rows.foldl (sumS k a) (0,0)→drossref51_Of.L1 rows a s.1 s.2 (i:Int) (fun q=>q=R):=by
     intro r
     induction r with
     | nil=>
      intro i s hd h
      have:=drop_ge hd
      have h:s=rows.foldl (sumS k a) (0,0):=h
      rw [← h] at hR
      apply drossref51_Of.L1_step
      rw [if_neg (by omega)]
      refine ⟨_,fits_spec,?_⟩
      by_cases hf:fitT s.1=true
      ·rw [if_pos (by exact hf)];rw [if_pos hf] at hR;exact hR
      ·rw [if_neg (by exact hf)];rw [if_neg hf] at hR;exact hR
     | cons x r ih=>
      intro i s hd h
      have hlt:=drop_lt hd
      obtain ⟨v1,v2,v3⟩:=hv x (List.mem_of_getElem? (drop_get hd))
      have next:∀ s',sumS k a s x=s'→drossref51_Of.L3 rows a s'.1 s'.2 (i:Int) (fun q=>q=R):=fun s' hs=>by
       apply drossref51_Of.L3_step
       rw [wrap_succ (by omega)]
       refine ih (i+1) s' (drop_next hd) ?_
       rw [← hs];exact h
      apply drossref51_Of.L1_step
      rw [if_pos (by omega)]
      refine ⟨x,lget_drop hd,_,at_some v2 v3,?_⟩
      unfold sumS at next
      rw [if_neg hk1] at next
      by_cases hn:(atV x a).Kind=1
      ·rw [if_pos hn];rw [if_pos hn] at next
       exact ⟨_,addref_spec,next _ rfl⟩
      ·rw [if_neg hn];rw [if_neg hn] at next
       exact next _ rfl
    exact go rows 0 (0,0) rfl rfl
   ·rw [if_neg hk2];rw [if_neg hk2] at hR
    have go:∀ (r:List api_Row) (i:Nat) (o:Option api_Value),rows.drop i=r→(i=0↔o=none)→(r.map fun r=>atV r a).foldl (vstep (k == 4)) o=(rows.map fun r=>atV r a).foldl (vstep (k == 4)) none→drossref51_Of.L2 rows k a (o.getD zeroV).Kind (o.getD zeroV).Num (o.getD zeroV).Str o.isSome (i:Int) (fun q=>q=R):=by
     intro r
     induction r with
     | nil=>
      intro i o hd hi h
      have:=drop_ge hd
      have h:o=(rows.map fun r=>atV r a).foldl (vstep (k == 4)) none:=h
      rw [← h] at hR
      apply drossref51_Of.L2_step
      rw [if_neg (by omega)]
      exact hR
     | cons x r ih=>
      intro i o hd hi h
      have hlt:=drop_lt hd
      have hx:=List.mem_of_getElem? (drop_get hd)
      obtain ⟨v1,v2,v3⟩:=hv x hx
      have hat:=at_some v2 v3
      rw [List.map_cons,List.foldl_cons] at h
      have keep:vstep (k == 4) o (atV x a)=o→o≠none→drossref51_Of.L5 rows k a (o.getD zeroV).Kind (o.getD zeroV).Num (o.getD zeroV).Str o.isSome (i:Int) (fun q=>q=R):=fun e hn=>by
       rw [e] at h
       apply drossref51_Of.L5_step
       rw [wrap_succ (by omega)]
       exact ih (i+1) o (drop_next hd) ⟨fun hh=>by omega,fun hh=>absurd hh hn⟩ h
      have take:vstep (k == 4) o (atV x a)=some (atV x a)→drossref51_Of.L4 rows k a (o.getD zeroV).Kind (o.getD zeroV).Num (o.getD zeroV).Str o.isSome (i:Int) (atV x a) (fun q=>q=R):=fun e=>by
       rw [e] at h
       apply drossref51_Of.L4_step
       apply drossref51_Of.L5_step
       rw [wrap_succ (by omega)]
       exact ih (i+1) (some (atV x a)) (drop_next hd) ⟨fun hh=>(by omega),fun hh=>by cases hh⟩ h
      apply drossref51_Of.L2_step
      rw [if_pos (by omega)]
      refine ⟨x,lget_drop hd,_,hat,_,drossref01_Compare.spec (by have:=valid_str (v1 _ (List.mem_of_getElem? (lget_some hat).2));unfold Big;omega),?_⟩
      by_cases hi0:i=0
      ·rw [if_pos (by omega)]
       have ho:=hi.1 hi0
       exact take (by rw [ho];rfl)
      ·rw [if_neg (by omega)]
       cases o with
       | none=>exact absurd (hi.2 rfl) hi0
       | some b=>
        have ev:vstep (k == 4) (some b) (atV x a)=some (if betterB (k == 4) (atV x a) b=true then atV x a else b):=rfl
        rw [ev] at keep take
        unfold betterB at keep take
        have hg:(some b:Option api_Value).getD zeroV=b:=rfl
        rw [hg] at keep take ⊢
        by_cases hk3:k=3
        ·rw [if_pos hk3]
         have e4:¬ (k == 4)=true:=by rw [hk3];decide
         rw [if_neg e4] at keep take
         by_cases hb:cmpV (atV x a) b<0
         ·rw [if_pos (by exact hb)]
          exact take (by rw [if_pos (decide_eq_true hb)])
         ·rw [if_neg (by exact hb),if_neg (by omega)]
          exact keep (by rw [if_neg (fun hh=>hb (of_decide_eq_true hh))]) (by simp)
        ·rw [if_neg hk3,if_pos (by omega)]
         have e4:(k == 4)=true:=by rw [show k=4 by omega];decide
         rw [if_pos e4] at keep take
         by_cases hb:0<cmpV (atV x a) b
         ·rw [if_pos (by exact hb)]
          exact take (by rw [if_pos (decide_eq_true hb)])
         ·rw [if_neg (by exact hb)]
          exact keep (by rw [if_neg (fun hh=>hb (of_decide_eq_true hh))]) (by simp)
    exact go rows 0 none rfl ⟨fun _=>rfl,fun _=>rfl⟩ rfl)
 rw [← h1];exact h2
theorem drossref51_Value.spec {t:api_Table} {l:List api_Condition} {k a:Int} (hl:l.length≤1000) :
  ∃ r,drossref51_Value.C t l k a r∧r.1.Value=(valT t l k a).1∧r.1.OK=(valT t l k a).2.1∧r.2=(valT t l k a).2.2:=by
 obtain ⟨q,h1,h2⟩:=drossref51_Value.enter t l k a (fun r=>r.1.Value=(valT t l k a).1∧r.1.OK=(valT t l k a).2.1∧r.2=(valT t l k a).2.2) (by
  refine ⟨_,drossref51_Error.spec hl,?_⟩
  unfold valT
  by_cases h0:valE t l k a=0
  ·rw [if_pos h0,if_pos h0]
   obtain ⟨ht,hcs,hk⟩:=valE_zero h0
   have hR:=ht.rowsOK
   obtain ⟨k1,k2,k3⟩:=kind_ok hk
   have hle:=List.length_filter_le (fun r=>satF r l) t.Rows
   have hR1:=hR.1
   refine ⟨_,drossref51_Rows.spec hl (by omega) (fun r hr=>⟨(hR.2 r hr).1.1,fun c hc=>by rw [(hR.2 r hr).2];exact condE_ok hcs c hc⟩),_,drossref51_Of.spec (by omega) ⟨k1,k2⟩ (fun hk1 r hr=>?_),_,fits_spec,?_⟩
   ·have hr:=(List.mem_filter.1 hr).1
    obtain ⟨a0,a1⟩:=k3 hk1
    exact ⟨(hR.2 r hr).1.1,a0,by rw [(hR.2 r hr).2];exact a1⟩
   ·unfold refR valR
    have f0:fitT 0=true:=by decide
    by_cases hk1:k=1
    ·rw [if_pos hk1,if_pos hk1,if_pos (by exact f0)]
     exact ⟨rfl,rfl,rfl⟩
    ·rw [if_neg hk1,if_neg hk1]
     by_cases hk2:k=2
     ·rw [if_pos hk2,if_pos hk2]
      have es:(t.Rows.filter fun r=>satF r l).foldl (sumS k a) (0,0)=sumF l k a t.Rows:=rfl
      rw [es]
      by_cases hf:fitT (sumF l k a t.Rows).1=true
      ·rw [if_pos (by exact hf),if_pos hf,if_pos hf]
       exact ⟨rfl,rfl,rfl⟩
      ·rw [if_neg (by exact hf),if_neg hf]
       exact ⟨rfl,rfl,rfl⟩
     ·rw [if_neg hk2,if_neg hk2,if_pos (by exact f0)]
      have es:((t.Rows.filter fun r=>satF r l).map fun r=>atV r a).foldl (vstep (k == 4)) none=bestF l (k == 4) a t.Rows:=rfl
      rw [es]
      cases bestF l (k == 4) a t.Rows with
      | none=>exact ⟨rfl,rfl,rfl⟩
      | some v=>exact ⟨rfl,rfl,rfl⟩
  ·rw [if_neg h0,if_neg h0];exact ⟨rfl,rfl,rfl⟩)
 exact ⟨q,h2,h1⟩
end Go.Own
namespace Go.Own
def keyE (t:api_Table) (key:Int):Int:=if tableF t=0 then (if sN key<2^t.Attrs.length then 0 else 6) else tableF t
def allE (t:api_Table) (key:Int) (l:List api_Condition) (k a:Int):Int:=if keyE t key=0 then (if condE t.Attrs.length l=0 then kindE t.Attrs.length k a else condE t.Attrs.length l) else keyE t key
theorem keyE_zero {t:api_Table} {key:Int} (h:keyE t key=0):TV t∧sN key<2^t.Attrs.length:=by
 unfold keyE at h
 by_cases h0:tableF t=0
 ·rw [if_pos h0] at h
  by_cases h1:sN key<2^t.Attrs.length
  ·exact ⟨tableF_iff.1 h0,h1⟩
  ·rw [if_neg h1] at h;cases h
 ·rw [if_neg h0] at h;exact absurd h h0
theorem aggregate_keyed.spec {t:api_Table} {key:Int} (hk:U32 key):aggregate_keyed.C t key (keyE t key):=by
 obtain ⟨r,h1,h2⟩:=aggregate_keyed.enter t key (fun r=>r=keyE t key) (by
  refine ⟨_,table_Valid.spec,?_⟩
  unfold keyE
  by_cases h0:tableF t=0
  ·rw [if_pos h0,if_pos h0]
   refine ⟨by omega,?_⟩
   have e:(shrw .u32 key (t.Attrs.length:Int)=0)↔sN key<2^t.Attrs.length:=by
    have hq:=hk.eq
    generalize sN key=q at hq
    have hl:=hk.top
    rw [hq]
    rw [hq] at hl
    have e1:sN (q:Int)=q:=by unfold sN;omega
    rw [shrw_nat (by rw [e1] at hl;exact hl),← div_zero]
    omega
   by_cases h1:sN key<2^t.Attrs.length
   ·rw [if_pos (e.2 h1),if_pos h1]
   ·rw [if_neg (fun hh=>h1 (e.1 hh)),if_neg h1]
  ·rw [if_neg h0,if_neg h0])
 rw [← h1];exact h2
theorem aggregate_check.specK {t:api_Table} {key:Int} {l:List api_Condition} {k a:Int} (hk:U32 key) (hl:l.length≤1000):aggregate_check.C t key l k a (allE t key l k a):=by
 obtain ⟨r,h1,h2⟩:=aggregate_check.enter t key l k a (fun r=>r=allE t key l k a) (by
  refine ⟨_,aggregate_keyed.spec hk,?_⟩
  unfold allE
  by_cases h0:keyE t key=0
  ·rw [if_pos h0,if_pos h0]
   refine ⟨_,aggregate_conditions.spec hl,?_⟩
   by_cases h1:condE t.Attrs.length l=0
   ·rw [if_pos h1,if_pos h1]
    exact kind_step (φ:=fun r=>r=kindE t.Attrs.length k a) rfl
   ·rw [if_neg h1,if_neg h1]
  ·rw [if_neg h0,if_neg h0])
 rw [← h1];exact h2
theorem drossref51_Key.spec {t:api_Table} {key:Int} (hk:U32 key):drossref51_Key.C t key (keyE t key):=by
 obtain ⟨r,h1,h2⟩:=drossref51_Key.enter t key (fun r=>r=keyE t key) (by
  refine ⟨_,drossref03_Valid.spec,?_⟩
  unfold keyE
  by_cases h0:tableF t=0
  ·rw [if_pos h0,if_pos h0]
   refine ⟨_,drossref02_Full.spec,?_⟩
   have ht:=tableF_iff.1 h0
   have e:(bAndNot .u32 key ((fullN t.Attrs.length:Nat):Int)=0)↔sN key<2^t.Attrs.length:=by
    have hq:=hk.eq
    generalize sN key=q at hq
    have hl:=hk.top
    rw [hq]
    rw [hq] at hl
    have e1:sN (q:Int)=q:=by unfold sN;omega
    rw [bAndNot_nat (by rw [e1] at hl;exact hl) (by simpa [top] using fullN_lt),← out_iff (by have:=ht.na;omega)]
    omega
   by_cases h1:sN key<2^t.Attrs.length
   ·rw [if_pos (e.2 h1),if_pos h1]
   ·rw [if_neg (fun hh=>h1 (e.1 hh)),if_neg h1]
  ·rw [if_neg h0,if_neg h0])
 rw [← h1];exact h2
def pickB:List api_Value→Nat→Nat→List api_Value
 | [],_,_=>[]
 | v::r,s,k=>(if s.testBit k=true then [v] else [])++pickB r s (k+1)
theorem textB_pick:∀ {l:List api_Value} {s k:Nat},textB l s k=(keysI (pickB l s k)).map b8
 | [],_,_=>rfl
 | v::r,s,k=>by
  rw [textB,pickB,textB_pick]
  unfold keysI
  rw [List.flatMap_append,List.map_append]
  split
  ·rw [keyS_list];simp
  ·simp
theorem pickB_sub:∀ {l:List api_Value} {s k:Nat},∀ v∈pickB l s k,v∈l
 | [],_,_,v,h=>h
 | w::r,s,k,v,h=>by
  rw [pickB] at h
  rcases List.mem_append.1 h with h | h
  ·split at h
   ·rw [List.mem_singleton.1 h];simp
   ·cases h
  ·exact List.mem_cons_of_mem _ (pickB_sub v h)
theorem pickB_len:∀ {l m:List api_Value} {s k:Nat},l.length=m.length→(pickB l s k).length=(pickB m s k).length
 | [],[],_,_,_=>rfl
 | [],_::_,_,_,h=>by simp at h
 | _::_,[],_,_,h=>by simp at h
 | v::r,w::q,s,k,h=>by
  rw [pickB,pickB,List.length_append,List.length_append,pickB_len (by simpa using h)]
  split<;>rfl
theorem pickB_eq:∀ {l m:List api_Value} {s k:Nat},l.length=m.length→(pickB l s k=pickB m s k↔∀ i,s.testBit (k+i)=true→l[i]? = m[i]?)
 | [],[],_,_,_=>by simp [pickB]
 | [],_::_,_,_,h=>by simp at h
 | _::_,[],_,_,h=>by simp at h
 | v::r,w::q,s,k,h=>by
  have ih:=pickB_eq (l:=r) (m:=q) (s:=s) (k:=k+1) (by simpa using h)
  rw [pickB,pickB]
  constructor
  ·intro hh i hi
   cases i with
   | zero=>
    rw [Nat.add_zero] at hi
    rw [if_pos hi,if_pos hi] at hh
    simp only [List.cons_append,List.nil_append,List.cons.injEq] at hh
    rw [List.getElem?_cons_zero,List.getElem?_cons_zero,hh.1]
   | succ i=>
    have h2:pickB r s (k+1)=pickB q s (k+1):=by
     by_cases hb:s.testBit k=true
     ·rw [if_pos hb,if_pos hb] at hh
      simp only [List.cons_append,List.nil_append,List.cons.injEq] at hh
      exact hh.2
     ·rw [if_neg hb,if_neg hb] at hh;exact hh
    rw [List.getElem?_cons_succ,List.getElem?_cons_succ]
    exact ih.1 h2 i (by rw [show k+1+i=k+(i+1) by omega];exact hi)
  ·intro hh
   have h2:=ih.2 fun i hi=>by
    have:=hh (i+1) (by rw [show k+(i+1)=k+1+i by omega];exact hi)
    rwa [List.getElem?_cons_succ,List.getElem?_cons_succ] at this
   rw [h2]
   by_cases hb:s.testBit k=true
   ·have:=hh 0 hb
    rw [List.getElem?_cons_zero,List.getElem?_cons_zero] at this
    rw [Option.some.inj this]
   ·rw [if_neg hb,if_neg hb]
theorem agreeB {a b:List api_Value} {n:Nat} (hn:n<2^32) (hl:a.length=b.length):agreeF a b n=decide (pickB a n 0=pickB b n 0):=by
 rw [Bool.eq_iff_iff,agree_iff hn hl,decide_eq_true_iff,pickB_eq hl]
 simp only [Nat.zero_add]
theorem pickB_full:∀ {l:List api_Value} {k:Nat},l.length+k≤32→pickB l 4294967295 k=l
 | [],_,_=>rfl
 | v::r,k,h=>by
  rw [List.length_cons] at h
  rw [pickB,pickB_full (by omega)]
  have:Nat.testBit 4294967295 k=true:=by
   have:=Nat.testBit_two_pow_sub_one 32 k
   rw [show (2^32-1:Nat)=4294967295 from rfl] at this
   rw [this];exact decide_eq_true (by omega)
  rw [if_pos this];rfl
def fK (key:Int) (r:api_Row):List api_Value:=pickB r.Values (sN key) 0
def fV (r:api_Row):List api_Value:=r.Values
theorem text_K {r:api_Row} {key:Int} (hr:(∀ v∈r.Values,validV v=true)∧r.Values.length≤16) (hk:U32 key):aggregate_text.C r key (keysW (fK key r)):=by
 have h:=aggregate_text.spec (r:=r) (s:=sN key) hk.lt (fun v hv=>⟨hr.1 v hv,by have:=keyI_len (hr.1 v hv);rw [keyS_size];omega⟩) (by have:=hr.2;omega)
 rw [textB_pick,← hk.eq] at h
 exact h
theorem text_V {r:api_Row} (hr:(∀ v∈r.Values,validV v=true)∧r.Values.length≤16):aggregate_text.C r 4294967295 (keysW (fV r)):=by
 have h:=aggregate_text.spec (r:=r) (s:=4294967295) (by decide) (fun v hv=>⟨hr.1 v hv,by have:=keyI_len (hr.1 v hv);rw [keyS_size];omega⟩) (by have:=hr.2;omega)
 rw [textB_pick,pickB_full (by have:=hr.2;omega)] at h
 exact h
theorem keyK_inj {t:api_Table} {key:Int} (ht:TV t) (hn:TNum t) {p q:api_Row} (hp:p∈t.Rows) (hq:q∈t.Rows):keysW (fK key p)=keysW (fK key q)↔fK key p=fK key q:=
 keysS_inj (pickB_len (by rw [ht.len hp,ht.len hq])) (fun v hv=>⟨ht.val hp v (pickB_sub v hv),hn _ hp v (pickB_sub v hv)⟩) (fun v hv=>⟨ht.val hq v (pickB_sub v hv),hn _ hq v (pickB_sub v hv)⟩)
theorem keyV_inj {t:api_Table} (ht:TV t) (hn:TNum t) {p q:api_Row} (hp:p∈t.Rows) (hq:q∈t.Rows):keysW (fV p)=keysW (fV q)↔fV p=fV q:=
 keysS_inj (by unfold fV;rw [ht.len hp,ht.len hq]) (fun v hv=>⟨ht.val hp v hv,hn _ hp v hv⟩) (fun v hv=>⟨ht.val hq v hv,hn _ hq v hv⟩)
theorem fK_of_fV {key:Int} {p q:api_Row} (h:fV p=fV q):fK key p=fK key q:=by
 unfold fV at h;unfold fK;rw [h]
end Go.Own
namespace Go.Own
def plusT (s:aggregate_total) (n:Int):aggregate_total:=⟨(addT (s.high,s.low) n).1,(addT (s.high,s.low) n).2⟩
theorem plusT_spec {s:aggregate_total} {n:Int}:aggregate_total_plus.C s n 1 (plusT s n):=by
 obtain ⟨r,h1,h2⟩:=aggregate_total_plus.enter s n 1 (fun r=>r=plusT s n) ⟨_,normal_spec,by
  have hl:=low_range (a:=n)
  unfold plusT addT
  simp only [Int.mul_one]
  have e1:IntKind.wrap .i64 (bAnd .i64 n 4294967295)=bAnd .i64 n 4294967295:=wrap_id (by omega) (by omega)
  rw [e1,wrap_wrap]⟩
 rw [← h1];exact h2
def updG (l:List api_Condition) (k a:Int) (g:aggregate_group) (x:api_Row):aggregate_group:=
 if g.ok=true then (if k=1 then ⟨g.ids++[x.ID],g.ok,g.value,plusT g.sum 1⟩ else if k=2 then (if (atV x a).Kind=1 then ⟨g.ids++[x.ID],g.ok,g.value,plusT g.sum (atV x a).Num⟩ else ⟨g.ids++[x.ID],g.ok,g.value,g.sum⟩) else ⟨g.ids++[x.ID],g.ok,atV x a,g.sum⟩)
 else ⟨g.ids++[x.ID],g.ok,g.value,g.sum⟩
def freshG (l:List api_Condition) (x:api_Row):aggregate_group:=⟨[],satF x l,zeroV,⟨0,0⟩⟩
def mkG (l:List api_Condition) (k a:Int):List api_Row→aggregate_group
 | []=>zeroG
 | r::s=>(r::s).foldl (updG l k a) (freshG l r)
def mkX (l:List api_Condition) (k a:Int) (x:api_Row) (g:List api_Row):aggregate_group:=if g=[] then freshG l x else mkG l k a g
theorem mkX_snoc {l:List api_Condition} {k a:Int} {x:api_Row} {g:List api_Row}:updG l k a (mkX l k a x g) x=mkG l k a (g++[x]):=by
 unfold mkX
 cases g with
 | nil=>rfl
 | cons r s=>
  rw [if_neg (by simp)]
  show updG l k a ((r::s).foldl (updG l k a) (freshG l r)) x=((r::s)++[x]).foldl (updG l k a) (freshG l r)
  rw [List.foldl_append];rfl
theorem mkX_ne {l:List api_Condition} {k a:Int} {x:api_Row} {g:List api_Row} (h:g≠[]):mkX l k a x g=mkG l k a g:=if_neg h
def grpsB (l:List api_Condition) (k a:Int) (b:List api_Row):List aggregate_group:=(blk fV b).map (mkG l k a)
theorem upd_ids {l:List api_Condition} {k a:Int} {g:aggregate_group} {x:api_Row}:(updG l k a g x).ids=g.ids++[x.ID]:=by
 unfold updG
 split
 ·split
  ·rfl
  ·split
   ·split<;>rfl
   ·rfl
 ·rfl
theorem upd_ok {l:List api_Condition} {k a:Int} {g:aggregate_group} {x:api_Row}:(updG l k a g x).ok=g.ok:=by
 unfold updG
 split
 ·split
  ·rfl
  ·split
   ·split<;>rfl
   ·rfl
 ·rfl
theorem fold_ids {l:List api_Condition} {k a:Int}:∀ {b:List api_Row} {g:aggregate_group},(b.foldl (updG l k a) g).ids=g.ids++b.map api_Row.ID
 | [],g=>by simp
 | x::r,g=>by rw [List.foldl_cons,fold_ids,upd_ids,List.map_cons,List.append_assoc];rfl
theorem fold_ok {l:List api_Condition} {k a:Int}:∀ {b:List api_Row} {g:aggregate_group},(b.foldl (updG l k a) g).ok=g.ok
 | [],g=>rfl
 | x::r,g=>by rw [List.foldl_cons,fold_ok,upd_ok]
theorem mkG_ids {l:List api_Condition} {k a:Int} {b:List api_Row}:(mkG l k a b).ids=b.map api_Row.ID:=by
 cases b with
 | nil=>rfl
 | cons r s=>show ((r::s).foldl (updG l k a) (freshG l r)).ids=_;rw [fold_ids];rfl
theorem mkG_ok {l:List api_Condition} {k a:Int} {r:api_Row} {s:List api_Row}:(mkG l k a (r::s)).ok=satF r l:=by
 show ((r::s).foldl (updG l k a) (freshG l r)).ok=_
 rw [fold_ok];rfl
structure HB (key:Int) (p:List api_Row) (bm:List (ByteArray×Int)):Prop where
 has:∀ r∈p,∃ i:Nat,mget (keysW (fK key r)) bm=some (i:Int)∧(keysB (fK key) p)[i]? = some (fK key r)
 old:∀ b v,mget b bm=some v→∃ r∈p,keysW (fK key r)=b
structure HP (key:Int) (p:List api_Row) (pm:List (ByteArray×(Int×Int))):Prop where
 has:∀ r∈p,∃ (i:Int) (j:Nat),mget (keysW (fV r)) pm=some (i,(j:Int))∧(keysB fV (clB (fK key) p (fK key r)))[j]? = some (fV r)
 old:∀ b v,mget b pm=some v→∃ r∈p,keysW (fV r)=b
theorem clB_mono {α κ:Type} [DecidableEq κ] {f:α→κ} {l:List α} {x:α} {k:κ} {κ':Type} [DecidableEq κ'] {g:α→κ'} {i:Nat} {v:κ'} (h:(keysB g (clB f l k))[i]? = some v):(keysB g (clB f (l++[x]) k))[i]? = some v:=by
 rw [clB_snoc]
 split
 ·exact keysB_mono h
 ·exact h
theorem lset_lset {α:Type} {l:List α} {i:Int} {a b:α}:lset (lset l i a) i b=lset l i b:=by unfold lset;rw [List.set_set]
theorem lset_n {α:Type} {l:List α} {i:Nat} {a:α}:lset l (i:Int) a=l.set i a:=by unfold lset;rw [Int.toNat_natCast]
theorem aggregate_groups.specG {t:api_Table} {key:Int} {l:List api_Condition} {k a:Int} (ht:TV t) (hn:TNum t) (hk:U32 key) (hl:l.length≤1000) (hc:condE t.Attrs.length l=0) (hkd:kindE t.Attrs.length k a=0) :
  aggregate_groups.C t key l k a ((blk (fK key) t.Rows).map (grpsB l k a)):=by
 have hR:=ht.rowsOK
 have hR1:=hR.1
 obtain ⟨k1,k2,k3⟩:=kind_ok hkd
 obtain ⟨q,h1,h2⟩:=aggregate_groups.enter t key l k a (fun q=>q=(blk (fK key) t.Rows).map (grpsB l k a)) (by
  have go:∀ (rest p:List api_Row) (bm:List (ByteArray×Int)) (pm:List (ByteArray×(Int×Int))),p++rest=t.Rows→HB key p bm→HP key p pm →
    aggregate_groups.L1 t key l k a ((blk (fK key) p).map (grpsB l k a)) bm pm (p.length:Int) (fun q=>q=(blk (fK key) t.Rows).map (grpsB l k a)):=by
   intro rest
   induction rest with
   | nil=>
    intro p bm pm hp hb hq
    rw [List.append_nil] at hp
    subst hp
    apply aggregate_groups.L1_step
    rw [if_neg (by omega)]
   | cons x rest ih=>
    intro p bm pm hp hb hq
    have hlen:p.length+rest.length+1=t.Rows.length:=by rw [← hp];simp;omega
    have hmem:∀ r∈p,r∈t.Rows:=fun r hr=>by rw [← hp];exact List.mem_append_left _ hr
    have hx:x∈t.Rows:=by rw [← hp];simp
    have hget:lget t.Rows (p.length:Int)=some x:=by
     rw [lget_nat,← hp,List.getElem?_append_right (Nat.le_refl _),Nat.sub_self];rfl
    obtain ⟨hxt,hxl⟩:=hR.2 x hx
    have tb:=text_K hxt hk
    have tp:=text_V hxt
    have third:∀ (out:List (List aggregate_group)) (bm':List (ByteArray×Int)) (pm':List (ByteArray×(Int×Int))) (i j:Nat),HB key (p++[x]) bm'→HP key (p++[x]) pm' →
      (keysB (fK key) (p++[x]))[i]? = some (fK key x)→(keysB fV (clB (fK key) p (fK key x)++[x]))[j]? = some (fV x) →
      out[i]? = some (base (mkX l k a x) fV (clB (fK key) p (fK key x)) x)→(∀ Z,out.set i Z=(base (grpsB l k a) (fK key) p x).set i Z)→(mgetD (keysW (fV x)) pm' ⟨0,0⟩).2=(j:Int) →
      aggregate_groups.L3 t key l k a out bm' pm' x (keysW (fV x)) (i:Int) (p.length:Int) (fun q=>q=(blk (fK key) t.Rows).map (grpsB l k a)):=fun out bm' pm' i j hb' hq' hi hj hout hset hm=>by
     have h12:=base_get (F:=mkX l k a x) hj
     have hcl:(clB fV (clB (fK key) p (fK key x)) (fV x)).length≤t.Rows.length:=Nat.le_trans clB_len (Nat.le_trans clB_len (by omega))
     generalize hg:mkX l k a x (clB fV (clB (fK key) p (fK key x)) (fV x))=g at h12
     have hids:g.ids.length≤1000:=by
      rw [← hg]
      unfold mkX
      split
      ·simp [freshG]
      ·rw [mkG_ids,List.length_map];omega
     have hb2:=base_set (F0:=mkX l k a x) (F:=mkG l k a) hj (fun k' hk' hne=>mkX_ne (clB_ne (by
      rw [keysB_snoc] at hk'
      split at hk'
      ·exact hk'
      ·rcases List.mem_append.1 hk' with h | h
       ·exact h
       ·exact absurd (List.mem_singleton.1 h) hne)))
     have hb1:=base_set (F0:=grpsB l k a) (F:=grpsB l k a) hi (fun _ _ _=>rfl)
     rw [← mkX_snoc,hg] at hb2
     have done:aggregate_groups.L2 t key l k a (out.set i ((base (mkX l k a x) fV (clB (fK key) p (fK key x)) x).set j (updG l k a g x))) bm' pm' (p.length:Int) (fun q=>q=(blk (fK key) t.Rows).map (grpsB l k a)):=by
      apply aggregate_groups.L2_step
      rw [wrap_succ (by omega),hset,hb2]
      have e:(blk fV (clB (fK key) p (fK key x)++[x])).map (mkG l k a)=grpsB l k a (clB (fK key) p (fK key x)++[x]):=rfl
      rw [e,hb1]
      have:=ih (p++[x]) bm' pm' (by rw [List.append_assoc];exact hp) hb' hq'
      rw [List.length_append,List.length_singleton] at this
      exact this
     apply aggregate_groups.L3_step
     rw [hm]
     refine ⟨_,by rw [lget_nat];exact hout,g,by rw [lget_nat];exact h12,by omega,?_⟩
     simp only [lset_lset]
     rw [lset_n,lset_n]
     unfold updG at done
     by_cases hok:g.ok=true
     ·rw [if_pos hok];rw [if_pos hok] at done
      by_cases hk1:k=1
      ·rw [if_pos hk1];rw [if_pos hk1] at done
       refine ⟨_,plusT_spec,?_⟩
       simp only [lset_n]
       exact done
      ·rw [if_neg hk1];rw [if_neg hk1] at done
       obtain ⟨a0,a1⟩:=k3 hk1
       have hat:=at_some (r:=x) a0 (by rw [hxl];exact a1)
       by_cases hk2:k=2
       ·rw [if_pos hk2];rw [if_pos hk2] at done
        refine ⟨_,hat,?_⟩
        by_cases hnk:(atV x a).Kind=1
        ·rw [if_pos hnk];rw [if_pos hnk] at done
         refine ⟨_,plusT_spec,?_⟩
         simp only [lset_n]
         exact done
        ·rw [if_neg hnk];rw [if_neg hnk] at done
         exact done
       ·rw [if_neg hk2];rw [if_neg hk2] at done
        refine ⟨_,hat,?_⟩
        simp only [lset_n]
        exact done
     ·rw [if_neg hok];rw [if_neg hok] at done
      exact done
    have mid:∀ (bm':List (ByteArray×Int)) (i:Nat),HB key (p++[x]) bm'→mgetD (keysW (fK key x)) bm' 0=(i:Int)→(keysB (fK key) (p++[x]))[i]? = some (fK key x) →
      aggregate_groups.L4 t key l k a (base (grpsB l k a) (fK key) p x) bm' pm x (keysW (fK key x)) (keysW (fV x)) (p.length:Int) (fun q=>q=(blk (fK key) t.Rows).map (grpsB l k a)):=fun bm' i hb' hm hi=>by
     have hout:=base_get (F:=grpsB l k a) hi
     have hlenB:(clB (fK key) p (fK key x)).length≤t.Rows.length:=Nat.le_trans clB_len (by omega)
     apply aggregate_groups.L4_step
     rw [hm]
     cases hv:mget (keysW (fV x)) pm with
     | some v=>
      rw [if_pos (by unfold mhas;rw [hv];rfl)]
      obtain ⟨r,hr,he⟩:=hq.old _ _ hv
      have he:=(keyV_inj ht hn (hmem r hr) hx).1 he
      obtain ⟨i',j,g1,g2⟩:=hq.has r hr
      rw [he] at g1 g2
      rw [fK_of_fV (key:=key) he] at g2
      have hkn:fV x∈keysB fV (clB (fK key) p (fK key x)):=List.mem_of_getElem? g2
      refine third _ bm' pm i j hb' ⟨fun s hs=>?_,fun b v hb=>?_⟩ hi (keysB_mono g2) ?_ (fun Z=>rfl) ?_
      ·rcases List.mem_append.1 hs with hs | hs
       ·obtain ⟨i2,j2,q1,q2⟩:=hq.has s hs
        exact ⟨i2,j2,q1,clB_mono q2⟩
       ·rw [List.mem_singleton.1 hs]
        exact ⟨i',j,g1,clB_mono g2⟩
      ·obtain ⟨s,hs,e⟩:=hq.old b v hb
       exact ⟨s,List.mem_append_left _ hs,e⟩
      ·rw [hout,base_old hkn]
       refine congrArg some ?_
       unfold grpsB
       refine List.map_congr_left fun g hg=>?_
       rw [mkX_ne (mem_blk hg).1]
      ·unfold mgetD;rw [g1];rfl
     | none=>
      rw [if_neg (by unfold mhas;rw [hv];simp)]
      have hkn:fV x ∉ keysB fV (clB (fK key) p (fK key x)):=fun hh=>by
       obtain ⟨r,hr,he⟩:=mem_keysB.1 hh
       obtain ⟨i',j,g1,_⟩:=hq.has r (mem_clB.1 hr).1
       rw [he,hv] at g1;cases g1
      have hjl:(keysB fV (clB (fK key) p (fK key x))).length≤t.Rows.length:=Nat.le_trans keysB_len hlenB
      have hj:(keysB fV (clB (fK key) p (fK key x)++[x]))[(keysB fV (clB (fK key) p (fK key x))).length]? = some (fV x):=by
       rw [keysB_snoc,if_neg hkn,List.getElem?_append_right (Nat.le_refl _),Nat.sub_self];rfl
      have hgl:(grpsB l k a (clB (fK key) p (fK key x))).length=(keysB fV (clB (fK key) p (fK key x))).length:=by unfold grpsB;rw [List.length_map,blk_len]
      refine ⟨_,by rw [lget_nat];exact hout,_,aggregate_satisfies.spec hl (fun c hcc=>by rw [hxl];exact condE_ok hc c hcc),by omega,?_⟩
      rw [lset_n]
      have hb2:grpsB l k a (clB (fK key) p (fK key x))++[(⟨[],satF x l,(⟨0,0,(⟨#[]⟩:ByteArray)⟩:api_Value),(⟨0,0⟩:aggregate_total)⟩:aggregate_group)]=base (mkX l k a x) fV (clB (fK key) p (fK key x)) x:=by
       rw [base_new hkn]
       have:grpsB l k a (clB (fK key) p (fK key x))=(blk fV (clB (fK key) p (fK key x))).map (mkX l k a x):=by
        unfold grpsB
        refine List.map_congr_left fun g hg=>?_
        rw [mkX_ne (mem_blk hg).1]
       rw [this];rfl
      rw [hb2]
      refine third _ bm' _ i (keysB fV (clB (fK key) p (fK key x))).length hb' ⟨fun s hs=>?_,fun b v hb=>?_⟩ hi hj ?_ (fun Z=>List.set_set ..) ?_
      ·rcases List.mem_append.1 hs with hs | hs
       ·obtain ⟨i2,j2,q1,q2⟩:=hq.has s hs
        refine ⟨i2,j2,?_,clB_mono q2⟩
        rw [mgm,if_neg (fun e=>by rw [e,q1] at hv;cases hv)]
        exact q1
       ·rw [List.mem_singleton.1 hs]
        refine ⟨_,_,by rw [mgm,if_pos rfl,hgl],?_⟩
        rw [clB_snoc,if_pos rfl];exact hj
      ·rw [mgm] at hb
       by_cases he:keysW (fV x)=b
       ·exact ⟨x,by simp,he⟩
       ·rw [if_neg he] at hb
        obtain ⟨s,hs,e⟩:=hq.old b v hb
        exact ⟨s,List.mem_append_left _ hs,e⟩
      ·rw [List.getElem?_set,if_pos rfl,if_pos (List.getElem?_eq_some_iff.1 hout).1]
      ·unfold mgetD
       rw [mgm,if_pos rfl,hgl];rfl
    apply aggregate_groups.L1_step
    rw [if_pos (by omega)]
    refine ⟨x,hget,_,tb,_,tp,?_⟩
    cases hv:mget (keysW (fK key x)) bm with
    | some v=>
     rw [if_pos (by unfold mhas;rw [hv];rfl)]
     obtain ⟨r,hr,he⟩:=hb.old _ _ hv
     have he:=(keyK_inj ht hn (hmem r hr) hx).1 he
     obtain ⟨i,g1,g2⟩:=hb.has r hr
     rw [he] at g1 g2
     have hm:=mid bm i ⟨fun s hs=>?_,fun b v hbv=>?_⟩ (by unfold mgetD;rw [g1];rfl) (keysB_mono g2)
     ·rw [base_old (List.mem_of_getElem? g2)] at hm
      exact hm
     ·rcases List.mem_append.1 hs with hs | hs
      ·obtain ⟨i2,q1,q2⟩:=hb.has s hs
       exact ⟨i2,q1,keysB_mono q2⟩
      ·rw [List.mem_singleton.1 hs]
       exact ⟨i,g1,keysB_mono g2⟩
     ·obtain ⟨s,hs,e⟩:=hb.old b v hbv
      exact ⟨s,List.mem_append_left _ hs,e⟩
    | none=>
     rw [if_neg (by unfold mhas;rw [hv];simp)]
     have hkn:fK key x ∉ keysB (fK key) p:=fun hh=>by
      obtain ⟨r,hr,he⟩:=mem_keysB.1 hh
      obtain ⟨i,g1,_⟩:=hb.has r hr
      rw [he,hv] at g1;cases g1
     have hbl:((blk (fK key) p).map (grpsB l k a)).length=(keysB (fK key) p).length:=by rw [List.length_map,blk_len]
     have hkl:(keysB (fK key) p).length≤p.length:=keysB_len
     have hi:(keysB (fK key) (p++[x]))[(keysB (fK key) p).length]? = some (fK key x):=by
      rw [keysB_snoc,if_neg hkn,List.getElem?_append_right (Nat.le_refl _),Nat.sub_self];rfl
     refine ⟨by omega,?_⟩
     have hm:=mid (mset (keysW (fK key x)) (((blk (fK key) p).map (grpsB l k a)).length:Int) bm) (keysB (fK key) p).length ⟨fun s hs=>?_,fun b v hbv=>?_⟩ (by unfold mgetD;rw [mgm,if_pos rfl,hbl];rfl) hi
     ·rw [base_new hkn] at hm
      exact hm
     ·rcases List.mem_append.1 hs with hs | hs
      ·obtain ⟨i2,q1,q2⟩:=hb.has s hs
       refine ⟨i2,?_,keysB_mono q2⟩
       rw [mgm,if_neg (fun e=>by rw [e,q1] at hv;cases hv)]
       exact q1
      ·rw [List.mem_singleton.1 hs]
       exact ⟨_,by rw [mgm,if_pos rfl,hbl],hi⟩
     ·rw [mgm] at hbv
      by_cases he:keysW (fK key x)=b
      ·exact ⟨x,by simp,he⟩
      ·rw [if_neg he] at hbv
       obtain ⟨s,hs,e⟩:=hb.old b v hbv
       exact ⟨s,List.mem_append_left _ hs,e⟩
  exact go t.Rows [] [] [] rfl ⟨fun r hr=>(by cases hr),fun b v hv=>(by cases hv)⟩ ⟨fun r hr=>(by cases hr),fun b v hv=>(by cases hv)⟩)
 rw [← h1];exact h2
end Go.Own
namespace Go.Own
theorem lset_mid {α:Type} {l m:List α} {a b:α} {n:Nat} (h:l.length=n):lset (l++a::m) (n:Int) b=l++b::m:=by
 unfold lset
 rw [Int.toNat_natCast,← h]
 simp
theorem lget_mid {α:Type} {l m:List α} {a:α} {n:Nat} (h:l.length=n):lget (l++a::m) (n:Int)=some a:=by
 rw [lget_nat,← h];simp
def StrV (r:api_Row):Prop:=(∀ v∈r.Values,validV v=true)∧r.Values.length≤16
theorem StrV.ok {r:api_Row} (h:StrV r):StrOK r.Values:=⟨by have:=h.2;unfold Big;omega,fun v hv=>by have:=valid_str (h.1 v hv);unfold Big;omega⟩
theorem drossref51_Blocks.spec {t:api_Table} {key:Int} (hR:t.Rows.length≤1000) (hv:∀ r∈t.Rows,StrV r∧r.Values.length=t.Attrs.length) (hk:U32 key):drossref51_Blocks.C t key (blk (fK key) t.Rows):=by
 obtain ⟨q,h1,h2⟩:=drossref51_Blocks.enter t key (fun q=>q=blk (fK key) t.Rows) (by
  have go:∀ (rest p:List api_Row),p++rest=t.Rows→drossref51_Blocks.L1 t key (blk (fK key) p) (p.length:Int) (fun q=>q=blk (fK key) t.Rows):=by
   intro rest
   induction rest with
   | nil=>
    intro p hp
    rw [List.append_nil] at hp
    subst hp
    apply drossref51_Blocks.L1_step
    rw [if_neg (by omega)]
   | cons x rest ih=>
    intro p hp
    have hlen:p.length+rest.length+1=t.Rows.length:=by rw [← hp];simp;omega
    have hmem:∀ r∈p,r∈t.Rows:=fun r hr=>by rw [← hp];exact List.mem_append_left _ hr
    have hx:x∈t.Rows:=by rw [← hp];simp
    have hget:lget t.Rows (p.length:Int)=some x:=by
     rw [lget_nat,← hp,List.getElem?_append_right (Nat.le_refl _),Nat.sub_self];rfl
    have hkl:(keysB (fK key) p).length≤p.length:=keysB_len
    have next:∀ B,B=blk (fK key) (p++[x])→drossref51_Blocks.L4 t key B (p.length:Int) (fun q=>q=blk (fK key) t.Rows):=fun B hB=>by
     subst hB
     apply drossref51_Blocks.L4_step
     rw [wrap_succ (by omega)]
     have:=ih (p++[x]) (by rw [List.append_assoc];exact hp)
     rw [List.length_append,List.length_singleton] at this
     exact this
    let u:List api_Value→List api_Row:=fun k=>if fK key x=k then clB (fK key) p k++[x] else clB (fK key) p k
    have inner:∀ (ks done:List (List api_Value)),done++ks=keysB (fK key) p→drossref51_Blocks.L2 t key (done.map u++ks.map (clB (fK key) p)) (p.length:Int) (decide (fK key x∈done)) (done.length:Int) (fun q=>q=blk (fK key) t.Rows):=by
     intro ks
     induction ks with
     | nil=>
      intro done hd
      rw [List.append_nil] at hd
      apply drossref51_Blocks.L2_step
      rw [if_neg (by simp),List.map_nil,List.append_nil]
      by_cases hm:fK key x∈done
      ·rw [if_pos (decide_eq_true hm)]
       refine next _ ?_
       rw [blk_snoc,if_pos (by rw [← hd];exact hm),hd]
      ·rw [if_neg (by rw [decide_eq_true_iff];exact hm)]
       have hbl:(done.map u).length=(keysB (fK key) p).length:=by rw [List.length_map,hd]
       refine ⟨x,hget,by omega,next _ ?_⟩
       rw [blk_snoc,if_neg (by rw [← hd];exact hm)]
       unfold blk
       rw [← hd]
       refine congrArg (fun q=>q++_) (List.map_congr_left fun k hkk=>?_)
       exact if_neg (fun e=>hm (by rw [e];exact hkk))
     | cons k ks ih2=>
      intro done hd
      have hkin:k∈keysB (fK key) p:=by rw [← hd];simp
      obtain ⟨y,ys,hb⟩:∃ y ys,clB (fK key) p k=y::ys:=by
       cases h:clB (fK key) p k with
       | nil=>exact absurd h (clB_ne hkin)
       | cons y ys=>exact ⟨y,ys,rfl⟩
      have hy:y∈p∧fK key y=k:=mem_clB.1 (by rw [hb];simp)
      have hyr:=hv y (hmem y hy.1)
      have hxr:=hv x hx
      have hdl:done.length+ks.length+1=(keysB (fK key) p).length:=by rw [← hd];simp;omega
      have hcl:(clB (fK key) p k).length≤p.length:=clB_len
      have eu:∀ W,W=u k→drossref51_Blocks.L3 t key (done.map u++W::ks.map (clB (fK key) p)) (p.length:Int) (decide (fK key x∈done) || decide (fK key x=k)) (done.length:Int) (fun q=>q=blk (fK key) t.Rows):=fun W hW=>by
       subst hW
       apply drossref51_Blocks.L3_step
       rw [wrap_succ (by omega)]
       have:=ih2 (done++[k]) (by rw [List.append_assoc];exact hd)
       rw [List.length_append,List.length_singleton,List.map_append,List.append_assoc] at this
       have e:(decide (fK key x∈done) || decide (fK key x=k))=decide (fK key x∈done++[k]):=by
        rw [Bool.eq_iff_iff,Bool.or_eq_true,decide_eq_true_iff,decide_eq_true_iff,decide_eq_true_iff,List.mem_append,List.mem_singleton]
       rw [e];exact this
      apply drossref51_Blocks.L2_step
      rw [List.map_cons]
      rw [if_pos (by simp only [List.length_append,List.length_map,List.length_cons];omega)]
      refine ⟨_,lget_mid (by rw [List.length_map]),y,by rw [hb];rfl,x,hget,_,by
       have:=drossref03_Agree.spec (a:=y) (b:=x) (n:=sN key) hk.lt (by have:=hyr.1.2;omega) (by have:=hxr.1.2;omega) (fun v hv=>hyr.1.ok.2 v hv)
       rw [← hk.eq] at this
       exact this,?_⟩
      rw [agreeB hk.lt (by rw [hyr.2,hxr.2])]
      have ek:(pickB y.Values (sN key) 0=pickB x.Values (sN key) 0)↔fK key x=k:=by
       rw [← hy.2];exact eq_comm
      by_cases he:fK key x=k
      ·rw [if_pos (decide_eq_true (ek.2 he))]
       refine ⟨by omega,?_⟩
       rw [lset_mid (by rw [List.length_map])]
       have:=eu (clB (fK key) p k++[x]) (if_pos he).symm
       rw [decide_eq_true he,Bool.or_true] at this
       exact this
      ·rw [if_neg (by rw [decide_eq_true_iff];exact fun h=>he (ek.1 h))]
       have:=eu (clB (fK key) p k) (if_neg he).symm
       rw [decide_eq_false he,Bool.or_false] at this
       exact this
    apply drossref51_Blocks.L1_step
    rw [if_pos (by omega)]
    exact inner (keysB (fK key) p) [] rfl
  exact go t.Rows [] rfl)
 rw [← h1];exact h2
theorem drossref03_Listed.spec {rows:List api_Row} {vs:List api_Value} (hl:rows.length≤1000000) (hv:∀ r∈rows,StrV r):drossref03_Listed.C rows vs (rows.any fun r=>decide (r.Values=vs)):=by
 obtain ⟨q,h1,h2⟩:=drossref03_Listed.enter rows vs (fun q=>q=rows.any fun r=>decide (r.Values=vs)) (by
  refine any_loop (l:=rows) (p:=fun r=>decide (r.Values=vs)) (L:=fun i=>drossref03_Listed.L1 rows vs i _) (φ:=fun q=>q=rows.any fun r=>decide (r.Values=vs)) ?_ ?_ rfl
  ·intro h;apply drossref03_Listed.L1_step;rw [if_neg (by omega)];exact h
  ·intro k r hk hlt h
   apply drossref03_Listed.L1_step
   rw [if_pos (by omega)]
   refine ⟨r,lget_of hk,_,drossref01_Same.spec (hv r (List.mem_of_getElem? hk)).ok,?_⟩
   rw [wrap_succ (by omega)]
   exact h)
 rw [← h1];exact h2
def withB (lists:List (List api_Row)) (b:List api_Row):List (List api_Row):=lists.flatMap fun li=>(blk fV b).map fun g=>li++g
theorem drossref51_with.spec {lists:List (List api_Row)} {b:List api_Row} (hl:lists.length≤100000) (hb:b.length≤1000) (hll:∀ li∈lists,li.length≤100000) (hv:∀ r∈b,StrV r):drossref51_with.C lists b (withB lists b):=by
 obtain ⟨q,h1,h2⟩:=drossref51_with.enter lists b (fun q=>q=withB lists b) (by
  have row:∀ (li:List api_Row) (i:Nat) (acc:List (List api_Row)),lget lists (i:Int)=some li→li.length≤100000→acc.length≤100000000→drossref51_with.L1 lists b (acc++(blk fV b).map fun g=>li++g) ((i+1:Nat):Int) (fun q=>q=withB lists b)→i<lists.length →
    ∀ (rest p:List api_Row),p++rest=b→drossref51_with.L2 lists b (acc++(keysB fV p).map fun v=>li++clB fV b v) (i:Int) (p.length:Int) (fun q=>q=withB lists b):=by
   intro li i acc hli hlen hacc hnext hi rest
   induction rest with
   | nil=>
    intro p hp
    rw [List.append_nil] at hp
    subst hp
    apply drossref51_with.L2_step
    rw [if_neg (by omega),wrap_succ (by omega)]
    unfold blk at hnext
    rw [List.map_map] at hnext
    exact hnext
   | cons x rest ih=>
    intro p hp
    have hpl:p.length+rest.length+1=b.length:=by rw [← hp];simp;omega
    have hx:x∈b:=by rw [← hp];simp
    have hget:lget b (p.length:Int)=some x:=by
     rw [lget_nat,← hp,List.getElem?_append_right (Nat.le_refl _),Nat.sub_self];rfl
    have htake:List.take (((p.length:Nat):Int).toNat-0) b=p:=by
     rw [Int.toNat_natCast,Nat.sub_zero,← hp,List.take_left]
    have hkl:(keysB fV p).length≤p.length:=keysB_len
    have hany:(p.any fun r=>decide (r.Values=x.Values))=true↔fV x∈keysB fV p:=by
     rw [List.any_eq_true,mem_keysB]
     constructor
     ·rintro ⟨r,hr,he⟩;exact ⟨r,hr,of_decide_eq_true he⟩
     ·rintro ⟨r,hr,he⟩;exact ⟨r,hr,decide_eq_true he⟩
    have next:∀ Y,Y=(acc++(keysB fV (p++[x])).map fun v=>li++clB fV b v)→drossref51_with.L5 lists b Y (i:Int) (p.length:Int) (fun q=>q=withB lists b):=fun Y hY=>by
     subst hY
     apply drossref51_with.L5_step
     rw [wrap_succ (by omega)]
     have:=ih (p++[x]) (by rw [List.append_assoc];exact hp)
     rw [List.length_append,List.length_singleton] at this
     exact this
    apply drossref51_with.L2_step
    rw [if_pos (by omega),htake]
    refine ⟨by omega,by omega,x,hget,_,drossref03_Listed.spec (by omega) (fun r hr=>hv r (by rw [← hp];exact List.mem_append_left _ hr)),?_⟩
    by_cases hm:fV x∈keysB fV p
    ·rw [if_pos (hany.2 hm)]
     refine next _ ?_
     rw [keysB_snoc,if_pos hm]
    ·rw [if_neg (fun h=>hm (hany.1 h))]
     refine ⟨li,hli,by omega,?_⟩
     have grp:∀ (s d:List api_Row),d++s=b→drossref51_with.L3 lists b (acc++(keysB fV p).map fun v=>li++clB fV b v) (i:Int) (p.length:Int) (li++clB fV d (fV x)) (d.length:Int) (fun q=>q=withB lists b):=by
      intro s
      induction s with
      | nil=>
       intro d hd
       rw [List.append_nil] at hd
       subst hd
       apply drossref51_with.L3_step
       rw [if_neg (by omega)]
       refine ⟨by rw [List.length_append,List.length_map];omega,next _ ?_⟩
       rw [keysB_snoc,if_neg hm,List.map_append,List.append_assoc];rfl
      | cons y s ih2=>
       intro d hd
       have hdl:d.length+s.length+1=b.length:=by rw [← hd];simp;omega
       have hy:y∈b:=by rw [← hd];simp
       have hgy:lget b (d.length:Int)=some y:=by
        rw [lget_nat,← hd,List.getElem?_append_right (Nat.le_refl _),Nat.sub_self];rfl
       have hcl:(clB fV d (fV x)).length≤d.length:=clB_len
       have nx:∀ Y,Y=li++clB fV (d++[y]) (fV x)→drossref51_with.L4 lists b (acc++(keysB fV p).map fun v=>li++clB fV b v) (i:Int) (p.length:Int) Y (d.length:Int) (fun q=>q=withB lists b):=fun Y hY=>by
        subst hY
        apply drossref51_with.L4_step
        rw [wrap_succ (by omega)]
        have:=ih2 (d++[y]) (by rw [List.append_assoc];exact hd)
        rw [List.length_append,List.length_singleton] at this
        exact this
       apply drossref51_with.L3_step
       rw [if_pos (by omega)]
       refine ⟨y,hgy,x,hget,_,drossref01_Same.spec (hv y hy).ok,?_⟩
       by_cases he:y.Values=x.Values
       ·rw [if_pos (decide_eq_true he)]
        refine ⟨by rw [List.length_append];omega,nx _ ?_⟩
        rw [clB_snoc,if_pos (show fV y=fV x from he),List.append_assoc]
       ·rw [if_neg (by rw [decide_eq_true_iff];exact he)]
        refine nx _ ?_
        rw [clB_snoc,if_neg (show ¬ fV y=fV x from he)]
     have:=grp b [] rfl
     have e:clB fV ([]:List api_Row) (fV x)=[]:=rfl
     rw [e,List.append_nil] at this
     exact this
  have go:∀ (rest p:List (List api_Row)),p++rest=lists→drossref51_with.L1 lists b (withB p b) (p.length:Int) (fun q=>q=withB lists b):=by
   intro rest
   induction rest with
   | nil=>
    intro p hp
    rw [List.append_nil] at hp
    subst hp
    apply drossref51_with.L1_step
    rw [if_neg (by omega)]
   | cons li rest ih=>
    intro p hp
    have hpl:p.length+rest.length+1=lists.length:=by rw [← hp];simp;omega
    have hli:li∈lists:=by rw [← hp];simp
    have hget:lget lists (p.length:Int)=some li:=by
     rw [lget_nat,← hp,List.getElem?_append_right (Nat.le_refl _),Nat.sub_self];rfl
    apply drossref51_with.L1_step
    rw [if_pos (by omega)]
    have hacc:(withB p b).length≤100000000:=by
     have hbl:(blk fV b).length≤1000:=by rw [blk_len];exact Nat.le_trans keysB_len hb
     have:∀ q:List (List api_Row),(withB q b).length=q.length*(blk fV b).length:=by
      intro q
      induction q with
      | nil=>simp [withB]
      | cons a q ih=>
       have e:withB (a::q) b=((blk fV b).map fun g=>a++g)++withB q b:=rfl
       rw [e,List.length_append,List.length_map,ih,List.length_cons,Nat.succ_mul];omega
     rw [this]
     exact Nat.le_trans (Nat.mul_le_mul (show p.length≤100000 by omega) hbl) (by decide)
    have hnext:=ih (p++[li]) (by rw [List.append_assoc];exact hp)
    rw [List.length_append,List.length_singleton] at hnext
    have e:withB (p++[li]) b=withB p b++(blk fV b).map fun g=>li++g:=by
     unfold withB
     rw [List.flatMap_append]
     simp
    rw [e] at hnext
    have:=row li p.length (withB p b) hget (hll li hli) hacc hnext (by omega) b [] rfl
    have e0:keysB fV ([]:List api_Row)=[]:=rfl
    rw [e0,List.map_nil,List.append_nil] at this
    exact this
  exact go lists [] rfl)
 rw [← h1];exact h2
def allB (bs:List (List api_Row)):List (List api_Row):=bs.foldl withB [[]]
theorem withB_len {ls:List (List api_Row)} {b:List api_Row}:(withB ls b).length=ls.length*(blk fV b).length:=by
 induction ls with
 | nil=>simp [withB]
 | cons a q ih=>
  have e:withB (a::q) b=((blk fV b).map fun g=>a++g)++withB q b:=rfl
  rw [e,List.length_append,List.length_map,ih,List.length_cons,Nat.succ_mul];omega
theorem withB_each {ls:List (List api_Row)} {b:List api_Row} {m:Nat} (h:∀ li∈ls,li.length≤m):∀ li∈withB ls b,li.length≤m+b.length:=fun li hli=>by
 unfold withB at hli
 obtain ⟨l0,h0,h1⟩:=List.mem_flatMap.1 hli
 obtain ⟨g,h2,rfl⟩:=List.mem_map.1 h1
 unfold blk at h2
 obtain ⟨k,_,rfl⟩:=List.mem_map.1 h2
 rw [List.length_append]
 have:=h l0 h0
 have:=clB_len (f:=fV) (l:=b) (k:=k)
 omega
theorem drossref51_All.spec {t:api_Table} {key:Int} (hR:t.Rows.length≤8) (hv:∀ r∈t.Rows,StrV r∧r.Values.length=t.Attrs.length) (hk:U32 key):drossref51_All.C t key (allB (blk (fK key) t.Rows)):=by
 obtain ⟨q,h1,h2⟩:=drossref51_All.enter t key (fun q=>q=allB (blk (fK key) t.Rows)) ⟨_,drossref51_Blocks.spec (by omega) hv hk,by
  have hsum:=blk_sum_len (f:=fK key) (l:=t.Rows)
  have hbl:(blk (fK key) t.Rows).length≤8:=by rw [blk_len];exact Nat.le_trans keysB_len hR
  have hrow:∀ b∈blk (fK key) t.Rows,∀ r∈b,StrV r:=fun b hb r hr=>(hv r ((mem_blk hb).2 r hr).1).1
  generalize blk (fK key) t.Rows=bs at hsum hbl hrow
  have go:∀ (rest p:List (List api_Row)) (acc:List (List api_Row)) (m:Nat),p++rest=bs→acc.length≤2^m→(∀ li∈acc,li.length≤m)→m+(rest.map List.length).sum≤8→rest.foldl withB acc=allB bs→drossref51_All.L1 acc bs (p.length:Int) (fun q=>q=allB bs):=by
   intro rest
   induction rest with
   | nil=>
    intro p acc m hp ha hli hm hf
    rw [List.append_nil] at hp
    subst hp
    apply drossref51_All.L1_step
    rw [if_neg (by omega)]
    exact hf
   | cons b rest ih=>
    intro p acc m hp ha hli hm hf
    have hpl:p.length+rest.length+1=bs.length:=by rw [← hp];simp;omega
    have hget:lget bs (p.length:Int)=some b:=by
     rw [lget_nat,← hp,List.getElem?_append_right (Nat.le_refl _),Nat.sub_self];rfl
    rw [List.map_cons,List.sum_cons] at hm
    have h2m:(2:Nat)^m≤2^8:=Nat.pow_le_pow_right (by decide) (by omega)
    have h2:(2:Nat)^8=256:=by decide
    apply drossref51_All.L1_step
    rw [if_pos (by omega)]
    refine ⟨b,hget,_,drossref51_with.spec (by omega) (by omega) (fun li h=>by have:=hli li h;omega) (hrow b (by rw [← hp];simp)),?_⟩
    rw [wrap_succ (by omega)]
    have:=ih (p++[b]) (withB acc b) (m+b.length) (by rw [List.append_assoc];exact hp) (by
     rw [withB_len,Nat.pow_add]
     have hb1:(blk fV b).length≤b.length:=by rw [blk_len];exact keysB_len
     exact Nat.mul_le_mul ha (Nat.le_trans hb1 (Nat.le_of_lt Nat.lt_two_pow_self))) (withB_each hli) (by omega) hf
    rw [List.length_append,List.length_singleton] at this
    exact this
  exact go bs [] [[]] 0 rfl (by simp) (fun li h=>by rw [List.mem_singleton.1 h];simp) (by omega) rfl⟩
 rw [← h1];exact h2
end Go.Own
namespace Go.Own
theorem TV.strV {t:api_Table} (h:TV t):∀ r∈t.Rows,StrV r∧r.Values.length=t.Attrs.length:=fun r hr=>⟨(h.rowsOK.2 r hr).1,h.len hr⟩
theorem aggregate_empty_1.spec {g:aggregate_group}:aggregate_empty_1.C g (!g.ok):=by
 obtain ⟨r,h1,h2⟩:=aggregate_empty_1.enter g (fun r=>r=!g.ok) rfl
 rw [← h1];exact h2
theorem index_empty {gs:List aggregate_group} (hl:gs.length≤1000000):slices_IndexFunc_saggregate_group_aggregate_group_aggregate_empty_1.C gs (ixI (fun g=>!g.ok) gs):=by
 obtain ⟨q,h1,h2⟩:=slices_IndexFunc_saggregate_group_aggregate_group_aggregate_empty_1.enter gs (fun q=>q=ixI (fun g=>!g.ok) gs) (by
  refine index_loop (l:=gs) (p:=fun g=>!g.ok) (L:=fun i=>slices_IndexFunc_saggregate_group_aggregate_group_aggregate_empty_1.L1 gs i _) (φ:=fun q=>q=ixI (fun g=>!g.ok) gs) ?_ ?_ rfl
  ·intro h;apply slices_IndexFunc_saggregate_group_aggregate_group_aggregate_empty_1.L1_step;rw [if_neg (by omega)];exact h
  ·intro k g hk hlt h
   apply slices_IndexFunc_saggregate_group_aggregate_group_aggregate_empty_1.L1_step
   rw [if_pos (by omega)]
   refine ⟨g,lget_of hk,_,aggregate_empty_1.spec,?_⟩
   rw [wrap_succ (by omega)]
   exact h)
 rw [← h1];exact h2
theorem aggregate_empty.spec {gs:List aggregate_group} (hl:gs.length≤1000000):∃ r,aggregate_empty.C gs r∧r.2=gs.any (fun g=>!g.ok)∧(r.2=true→r.1∈gs∧r.1.ok=false)∧(r.2=false→r.1=zeroG):=by
 obtain ⟨q,h1,h2⟩:=aggregate_empty.enter gs (fun r=>r.2=gs.any (fun g=>!g.ok)∧(r.2=true→r.1∈gs∧r.1.ok=false)∧(r.2=false→r.1=zeroG)) (by
  refine ⟨_,index_empty hl,?_⟩
  have hany:=ixI_any (p:=fun g:aggregate_group=>!g.ok) (l:=gs)
  by_cases h:ixI (fun g:aggregate_group=>!g.ok) gs<0
  ·rw [if_pos h]
   rw [decide_eq_false (by omega)] at hany
   exact ⟨hany,fun h=>(by cases h),fun _=>rfl⟩
  ·rw [if_neg h]
   rw [decide_eq_true (by omega)] at hany
   rcases ixI_spec (p:=fun g:aggregate_group=>!g.ok) (l:=gs) with ⟨e,_⟩ | ⟨n,g,e,hg,hp,_⟩
   ·omega
   ·refine ⟨g,by rw [e];exact lget_of hg,hany,fun _=>⟨List.mem_of_getElem? hg,by simpa using hp⟩,fun h=>by cases h⟩)
 exact ⟨q,h2,h1⟩
theorem grps_any {l:List api_Condition} {k a:Int} {b:List api_Row}:(grpsB l k a b).any (fun g=>!g.ok)=b.any fun r=>!satF r l:=by
 unfold grpsB
 rw [List.any_map,Bool.eq_iff_iff,List.any_eq_true,List.any_eq_true]
 constructor
 ·rintro ⟨g,hg,h⟩
  obtain ⟨hne,hall⟩:=mem_blk hg
  cases g with
  | nil=>exact absurd rfl hne
  | cons r s=>
   refine ⟨r,(hall r (by simp)).1,?_⟩
   simpa [mkG_ok] using h
 ·rintro ⟨r,hr,h⟩
  have hk:fV r∈keysB fV b:=mem_keysB.2 ⟨r,hr,rfl⟩
  refine ⟨clB fV b (fV r),List.mem_map.2 ⟨_,hk,rfl⟩,?_⟩
  cases hc:clB fV b (fV r) with
  | nil=>exact absurd hc (clB_ne hk)
  | cons s q=>
   have hs:fV s=fV r:=(mem_clB.1 (by rw [hc];simp)).2
   have:satF s l=satF r l:=by
    unfold satF atV
    unfold fV at hs
    rw [hs]
   simpa [mkG_ok,this] using h
theorem drossref51_chosen.spec {rows:List api_Row} {l:List api_Condition} (hl:l.length≤1000) (hr:rows.length≤1000000) (hv:∀ r∈rows,(∀ v∈r.Values,validV v=true)∧∀ c∈l,cond1 r.Values.length c=0):drossref51_chosen.C rows l (rows.filter fun r=>satF r l):=by
 obtain ⟨q,h1,h2⟩:=drossref51_chosen.enter rows l (fun q=>q=rows.filter fun r=>satF r l) ⟨_,drossref51_Rows.spec (t:=⟨(⟨#[]⟩:ByteArray),[],rows⟩) hl hr hv,rfl⟩
 rw [← h1];exact h2
end Go.Own
namespace Go.Own
theorem low_mod {n:Int}:bAnd .i64 n 4294967295=n % 4294967296:=by
 unfold bAnd
 have e:(4294967295:Int)=((4294967295:Nat):Int):=rfl
 rw [BitVec.toNat_and,e,toNat_top (k:=.i64) (n:=4294967295) (by simp only [top];omega)]
 have h1:(BitVec.ofInt IntKind.i64.bits n).toNat=(n % 18446744073709551616).toNat:=by
  rw [BitVec.toNat_ofInt];rfl
 rw [h1]
 have h2:=Nat.and_two_pow_sub_one_eq_mod (n % 18446744073709551616).toNat 32
 rw [show (2^32-1:Nat)=4294967295 from rfl] at h2
 rw [h2]
 have h3:(n % 18446744073709551616).toNat % 2^32<4294967296:=Nat.mod_lt _ (by decide)
 rw [wrap_top (k:=.i64) (by simp only [top];omega)]
 have h4:(((n % 18446744073709551616).toNat % 2^32:Nat):Int)=(n % 18446744073709551616) % 4294967296:=by
  rw [Int.natCast_emod]
  have:((n % 18446744073709551616).toNat:Int)=n % 18446744073709551616:=by omega
  rw [this];rfl
 rw [h4];omega
theorem shr_div {n:Int}:shrw .i64 n 32=n / 4294967296:=by
 unfold shrw
 have:(2:Int)^min (Int.toNat 32) IntKind.i64.bits=4294967296:=by decide
 rw [this,Int.fdiv_eq_ediv_of_nonneg _ (by decide)]
def nrm (z:Int):Int×Int:=(z / 4294967296,z % 4294967296)
def BigZ (z:Int):Prop:=-10000000000000000000000<z∧z<10000000000000000000000
theorem addT_nrm {z n:Int} (hz:BigZ z) (hn:BigZ n):addT (nrm z) n=nrm (z+n):=by
 unfold BigZ at hz hn
 unfold addT nrm
 simp only
 rw [shr_div,low_mod]
 have e2:IntKind.wrap .i64 (z % 4294967296+n % 4294967296)=z % 4294967296+n % 4294967296:=wrap_id (by omega) (by omega)
 rw [e2,shr_div,low_mod]
 have e1:IntKind.wrap .i64 (z / 4294967296+n / 4294967296)=z / 4294967296+n / 4294967296:=wrap_id (by omega) (by omega)
 rw [e1,wrap_id (by omega) (by omega)]
 congr 1
 ·omega
 ·omega
theorem nrm_lt {a b:Int}:a<b↔(nrm a).1<(nrm b).1∨((nrm a).1=(nrm b).1∧(nrm a).2<(nrm b).2):=by
 unfold nrm;simp only;omega
theorem nrm_eq {a b:Int}:a=b↔((nrm a).1=(nrm b).1∧(nrm a).2=(nrm b).2):=by
 unfold nrm;simp only;omega
def zrow (l:List api_Condition) (k a:Int) (r:api_Row):Int:=if satF r l=true then (if k=1 then 1 else if (atV r a).Kind=1 then (atV r a).Num else 0) else 0
def zs (l:List api_Condition) (k a:Int) (rs:List api_Row):Int:=(rs.map (zrow l k a)).sum
theorem zs_append {l:List api_Condition} {k a:Int} {p q:List api_Row}:zs l k a (p++q)=zs l k a p+zs l k a q:=by
 unfold zs;rw [List.map_append,List.sum_append]
theorem zs_cons {l:List api_Condition} {k a:Int} {p:api_Row} {q:List api_Row}:zs l k a (p::q)=zrow l k a p+zs l k a q:=by
 unfold zs;rw [List.map_cons,List.sum_cons]
def NumA (a:Int) (r:api_Row):Prop:=-9223372036854775808≤(atV r a).Num∧(atV r a).Num<9223372036854775808
theorem zrow_big {l:List api_Condition} {k a:Int} {r:api_Row} (h:NumA a r) : -9223372036854775808≤zrow l k a r∧zrow l k a r<9223372036854775808:=by
 unfold NumA at h
 unfold zrow
 split
 ·split
  ·omega
  ·split
   ·exact h
   ·omega
 ·omega
theorem zs_big {l:List api_Condition} {k a:Int}:∀ {rs:List api_Row} {m:Nat},rs.length≤m→m≤1000→(∀ r∈rs,NumA a r)→-(9223372036854775808*(m:Int))≤zs l k a rs∧zs l k a rs≤9223372036854775808*(m:Int)
 | [],m,_,_,_=>by simp [zs];omega
 | r::rs,m,hm,hm2,h=>by
  rw [List.length_cons] at hm
  have h1:=zrow_big (l:=l) (k:=k) (h r (by simp))
  have h2:=zs_big (l:=l) (k:=k) (rs:=rs) (m:=m-1) (by omega) (by omega) (fun x hx=>h x (by simp [hx]))
  rw [zs_cons]
  omega
theorem big_of {l:List api_Condition} {k a:Int} {rs:List api_Row} (h:rs.length≤100) (hn:∀ r∈rs,NumA a r):BigZ (zs l k a rs):=by
 have:=zs_big (l:=l) (k:=k) h (by decide) hn
 unfold BigZ;omega
theorem zs_filter {l:List api_Condition} {k a:Int}:∀ {rs:List api_Row},zs l k a (rs.filter fun r=>satF r l)=zs l k a rs
 | []=>rfl
 | r::rs=>by
  rw [List.filter_cons]
  by_cases h:satF r l=true
  ·rw [if_pos h,zs_cons,zs_cons,zs_filter]
  ·rw [if_neg h,zs_cons,zs_filter]
   have:zrow l k a r=0:=if_neg h
   rw [this];omega
theorem sum_nrm {l:List api_Condition} {k a:Int} (hk:k=1∨k=2):∀ {rs:List api_Row} {z:Int} {m:Nat},rs.length+m≤100→-(9223372036854775808*(m:Int))≤z∧z≤9223372036854775808*(m:Int)→(∀ r∈rs,NumA a r∧satF r l=true)→rs.foldl (sumS k a) (nrm z)=nrm (z+zs l k a rs)
 | [],z,m,_,_,_=>by simp [zs]
 | r::rs,z,m,hm,hz,h=>by
  rw [List.length_cons] at hm
  have hr:=h r (by simp)
  have h1:=zrow_big (l:=l) (k:=k) hr.1
  have e:sumS k a (nrm z) r=nrm (z+zrow l k a r):=by
   unfold sumS zrow
   rw [if_pos hr.2]
   have hb:BigZ z:=by unfold BigZ;omega
   by_cases hk1:k=1
   ·rw [if_pos hk1,if_pos hk1]
    exact addT_nrm hb (by unfold BigZ;omega)
   ·rw [if_neg hk1,if_neg hk1]
    by_cases hn:(atV r a).Kind=1
    ·rw [if_pos hn,if_pos hn]
     have:=hr.1
     unfold NumA at this
     exact addT_nrm hb (by unfold BigZ;omega)
    ·rw [if_neg hn,if_neg hn,Int.add_zero]
  rw [List.foldl_cons,e,sum_nrm hk (m:=m+1) (by omega) (by omega) (fun x hx=>h x (by simp [hx])),zs_cons,Int.add_assoc]
def resZ (k z:Int):drossref51_Result:=
 if k=1 then ⟨⟨1,z,⟨#[]⟩⟩,⟨0,0⟩,true⟩ else ⟨if fitT (nrm z).1=true then numR (nrm z) else ⟨1,0,⟨#[]⟩⟩,⟨(nrm z).1,(nrm z).2⟩,true⟩
theorem zs_one {l:List api_Condition} {a:Int}:∀ {rs:List api_Row},zs l 1 a rs=((rs.filter fun r=>satF r l).length:Int)
 | []=>rfl
 | r::rs=>by
  rw [zs_cons,zs_one,List.filter_cons]
  unfold zrow
  by_cases h:satF r l=true
  ·rw [if_pos h,if_pos h,if_pos rfl,List.length_cons];omega
  ·rw [if_neg h,if_neg h];omega
theorem refR_sum {l:List api_Condition} {k a:Int} {rs:List api_Row} (hk:k=1∨k=2) (hl:rs.length≤100) (hn:∀ r∈rs,NumA a r):refR k a (rs.filter fun r=>satF r l)=resZ k (zs l k a rs):=by
 unfold refR resZ
 by_cases hk1:k=1
 ·rw [if_pos hk1,if_pos hk1]
  subst hk1
  rw [zs_one]
 ·rw [if_neg hk1,if_neg hk1,if_pos (by omega)]
  have hle:=List.length_filter_le (fun r=>satF r l) rs
  have h0:((0:Int),(0:Int))=nrm 0:=rfl
  have:=sum_nrm (l:=l) (k:=k) (a:=a) hk (rs:=rs.filter fun r=>satF r l) (z:=0) (m:=0) (by omega) (by simp) (fun r hr=>⟨hn r (List.mem_filter.1 hr).1,(List.mem_filter.1 hr).2⟩)
  rw [Int.zero_add,zs_filter] at this
  rw [h0,this]
theorem upd_sum {l:List api_Condition} {k a:Int} {g:aggregate_group} {x:api_Row} {z:Int} (hk:k=1∨k=2) (hg:g.sum=⟨(nrm z).1,(nrm z).2⟩) (hz:BigZ z) (hx:NumA a x) (ho:g.ok=satF x l):(updG l k a g x).sum=⟨(nrm (z+zrow l k a x)).1,(nrm (z+zrow l k a x)).2⟩:=by
 unfold updG zrow
 by_cases hs:satF x l=true
 ·rw [if_pos (by rw [ho];exact hs),if_pos hs]
  by_cases hk1:k=1
  ·rw [if_pos hk1,if_pos hk1]
   show plusT g.sum 1=_
   unfold plusT
   rw [hg]
   have:=addT_nrm (z:=z) (n:=1) hz (by unfold BigZ;omega)
   rw [this]
  ·rw [if_neg hk1,if_neg hk1,if_pos (by omega)]
   by_cases hn:(atV x a).Kind=1
   ·rw [if_pos hn,if_pos hn]
    show plusT g.sum (atV x a).Num=_
    unfold plusT
    rw [hg]
    unfold NumA at hx
    have:=addT_nrm (z:=z) (n:=(atV x a).Num) hz (by unfold BigZ;omega)
    rw [this]
   ·rw [if_neg hn,if_neg hn,Int.add_zero]
    exact hg
 ·rw [if_neg (by rw [ho];exact hs),if_neg hs,Int.add_zero]
  exact hg
theorem sat_same {l:List api_Condition} {p q:api_Row} (h:fV p=fV q):satF p l=satF q l:=by
 unfold satF atV;unfold fV at h;rw [h]
theorem at_same {a:Int} {p q:api_Row} (h:fV p=fV q):atV p a=atV q a:=by
 unfold atV;unfold fV at h;rw [h]
theorem mkG_sum {l:List api_Condition} {k a:Int} {g:List api_Row} (hk:k=1∨k=2) (hne:g≠[]) (hl:g.length≤100) (hv:∀ y∈g,NumA a y∧∀ z∈g,fV y=fV z):(mkG l k a g).sum=⟨(nrm (zs l k a g)).1,(nrm (zs l k a g)).2⟩:=by
 cases g with
 | nil=>exact absurd rfl hne
 | cons r s=>
  have go:∀ (q p:List api_Row) (h:aggregate_group),p++q=r::s→h.ok=satF r l→h.sum=⟨(nrm (zs l k a p)).1,(nrm (zs l k a p)).2⟩→(q.foldl (updG l k a) h).sum=⟨(nrm (zs l k a (r::s))).1,(nrm (zs l k a (r::s))).2⟩:=by
   intro q
   induction q with
   | nil=>intro p h hp ho hs;rw [List.append_nil] at hp;rw [← hp];exact hs
   | cons x q ih=>
    intro p h hp ho hs
    have hpl:p.length+q.length+1=(r::s).length:=by rw [← hp];simp;omega
    have hx:=hv x (by rw [← hp];simp)
    rw [List.foldl_cons]
    refine ih (p++[x]) _ (by rw [List.append_assoc];exact hp) (by rw [upd_ok];exact ho) ?_
    rw [zs_append,zs_cons,show zs l k a []=0 from rfl,Int.add_zero]
    exact upd_sum hk hs (big_of (by omega) (fun y hy=>(hv y (by rw [← hp];simp [hy])).1)) hx.1 (by rw [ho];exact sat_same (hx.2 r (by simp)).symm)
  exact go (r::s) [] (freshG l r) rfl rfl rfl
theorem mkG_value {l:List api_Condition} {k a:Int} {r:api_Row} {s:List api_Row} (hk:k≠1∧k≠2) (hv:∀ y∈r::s,fV y=fV r) (hs:satF r l=true):(mkG l k a (r::s)).value=atV r a:=by
 have go:∀ (q:List api_Row) (h:aggregate_group),(∀ y∈q,fV y=fV r)→h.ok=true→h.value=atV r a→(q.foldl (updG l k a) h).value=atV r a:=by
  intro q
  induction q with
  | nil=>intro h _ _ hh;exact hh
  | cons x q ih=>
   intro h hq ho hh
   rw [List.foldl_cons]
   refine ih _ (fun y hy=>hq y (by simp [hy])) (by rw [upd_ok];exact ho) ?_
   unfold updG
   rw [if_pos ho,if_neg hk.1,if_neg hk.2]
   exact at_same (hq x (by simp))
 show ((r::s).foldl (updG l k a) (freshG l r)).value=_
 rw [List.foldl_cons]
 refine go s _ (fun y hy=>hv y (by simp [hy])) (by rw [upd_ok];exact hs) ?_
 unfold updG
 rw [if_pos (show (freshG l r).ok=true from hs),if_neg hk.1,if_neg hk.2]
end Go.Own
namespace Go.Own
def IsCh:List (List api_Row)→List (List api_Row)→Prop
 | [],[]=>True
 | b::bs,c::cs=>c∈blk fV b∧IsCh bs cs
 | _,_=>False
theorem mem_fold:∀ {bs acc:List (List api_Row)} {R:List api_Row},R∈bs.foldl withB acc↔∃ li∈acc,∃ cs,IsCh bs cs∧R=li++cs.flatten
 | [],acc,R=>by
  constructor
  ·exact fun h=>⟨R,h,[],trivial,by simp⟩
  ·rintro ⟨li,h,cs,hc,rfl⟩
   cases cs with
   | nil=>simpa using h
   | cons c cs=>exact hc.elim
 | b::bs,acc,R=>by
  rw [List.foldl_cons,mem_fold]
  constructor
  ·rintro ⟨li,h,cs,hc,rfl⟩
   unfold withB at h
   obtain ⟨l0,h0,h1⟩:=List.mem_flatMap.1 h
   obtain ⟨g,h2,rfl⟩:=List.mem_map.1 h1
   exact ⟨l0,h0,g::cs,⟨h2,hc⟩,by rw [List.flatten_cons,List.append_assoc]⟩
  ·rintro ⟨li,h,cs,hc,rfl⟩
   cases cs with
   | nil=>exact hc.elim
   | cons c cs=>
    refine ⟨li++c,?_,cs,hc.2,by rw [List.flatten_cons,List.append_assoc]⟩
    unfold withB
    exact List.mem_flatMap.2 ⟨li,h,List.mem_map.2 ⟨c,hc.1,rfl⟩⟩
theorem mem_allB {bs:List (List api_Row)} {R:List api_Row}:R∈allB bs↔∃ cs,IsCh bs cs∧R=cs.flatten:=by
 unfold allB
 rw [mem_fold]
 constructor
 ·rintro ⟨li,h,cs,hc,rfl⟩
  rw [List.mem_singleton.1 h];exact ⟨cs,hc,rfl⟩
 ·rintro ⟨cs,hc,rfl⟩
  exact ⟨[],by simp,cs,hc,rfl⟩
theorem IsCh.snoc:∀ {p cs:List (List api_Row)} {b c:List api_Row},IsCh p cs→c∈blk fV b→IsCh (p++[b]) (cs++[c])
 | [],[],b,c,_,h=>⟨h,trivial⟩
 | [],_::_,b,c,h,_=>h.elim
 | _::_,[],b,c,h,_=>h.elim
 | a::p,d::cs,b,c,h,h2=>⟨h.1,IsCh.snoc h.2 h2⟩
theorem IsCh.unsnoc:∀ {p cs:List (List api_Row)} {b:List api_Row},IsCh (p++[b]) cs→∃ cs0 c,cs=cs0++[c]∧IsCh p cs0∧c∈blk fV b
 | [],[],b,h=>h.elim
 | [],[c],b,h=>⟨[],c,rfl,trivial,h.1⟩
 | [],_::_::_,b,h=>h.2.elim
 | a::p,[],b,h=>h.elim
 | a::p,d::cs,b,h=>by
  obtain ⟨cs0,c,e,h1,h2⟩:=IsCh.unsnoc h.2
  exact ⟨d::cs0,c,by rw [e];rfl,⟨h.1,h1⟩,h2⟩
theorem IsCh.len:∀ {p cs:List (List api_Row)},IsCh p cs→cs.length=p.length
 | [],[],_=>rfl
 | [],_::_,h=>h.elim
 | _::_,[],h=>h.elim
 | a::p,d::cs,h=>by rw [List.length_cons,List.length_cons,IsCh.len h.2]
theorem IsCh.get:∀ {p cs:List (List api_Row)},IsCh p cs→∀ {i:Nat} {b:List api_Row},p[i]? = some b→∃ c,cs[i]? = some c∧c∈blk fV b
 | [],[],_,i,b,h=>by cases h
 | [],_::_,h,_,_,_=>h.elim
 | _::_,[],h,_,_,_=>h.elim
 | a::p,d::cs,h,0,b,hb=>by cases hb;exact ⟨d,rfl,h.1⟩
 | a::p,d::cs,h,i+1,b,hb=>IsCh.get h.2 hb
theorem IsCh.has {p cs:List (List api_Row)} (h:IsCh p cs) {b:List api_Row} (hb:b∈p):∃ c∈cs,c∈blk fV b:=by
 obtain ⟨i,hi⟩:=List.mem_iff_getElem?.1 hb
 obtain ⟨c,h1,h2⟩:=h.get hi
 exact ⟨c,List.mem_of_getElem? h1,h2⟩
theorem IsCh.mem:∀ {p cs:List (List api_Row)},IsCh p cs→∀ {c:List api_Row},c∈cs→∃ b∈p,c∈blk fV b
 | [],[],_,c,h=>by cases h
 | [],_::_,h,_,_=>h.elim
 | _::_,[],h,_,_=>h.elim
 | a::p,d::cs,h,c,hc=>by
  rcases List.mem_cons.1 hc with rfl | hc
  ·exact ⟨a,by simp,h.1⟩
  ·obtain ⟨b,h1,h2⟩:=IsCh.mem h.2 hc
   exact ⟨b,by simp [h1],h2⟩
theorem IsCh.set:∀ {p cs:List (List api_Row)},IsCh p cs→∀ {i:Nat} {b c:List api_Row},p[i]? = some b→c∈blk fV b→IsCh p (cs.set i c)
 | [],[],_,i,b,c,h,_=>by cases h
 | [],_::_,h,_,_,_,_,_=>h.elim
 | _::_,[],h,_,_,_,_,_=>h.elim
 | a::p,d::cs,h,0,b,c,hb,hc=>by cases hb;exact ⟨hc,h.2⟩
 | a::p,d::cs,h,i+1,b,c,hb,hc=>⟨h.1,IsCh.set h.2 hb hc⟩
structure BsOK (l:List api_Condition) (a:Int) (bs:List (List api_Row)):Prop where
 len:bs.length≤8
 tot:(bs.map List.length).sum≤8
 ne:∀ b∈bs,b≠[]
 row:∀ b∈bs,∀ r∈b,NumA a r
theorem BsOK.each {l:List api_Condition} {a:Int} {bs:List (List api_Row)} (h:BsOK l a bs) {b:List api_Row} (hb:b∈bs):b.length≤8:=by
 have:=h.tot
 have h2:∀ q:List (List api_Row),b∈q→b.length≤(q.map List.length).sum:=by
  intro q
  induction q with
  | nil=>intro h;cases h
  | cons c q ih=>
   intro h
   rw [List.map_cons,List.sum_cons]
   rcases List.mem_cons.1 h with rfl | h
   ·omega
   ·have:=ih h;omega
 have:=h2 bs hb
 omega
theorem cls_fact {b c:List api_Row} (h:c∈blk fV b):c≠[]∧c.length≤b.length∧(∀ r∈c,r∈b)∧∀ y∈c,∀ z∈c,fV y=fV z:=by
 obtain ⟨h1,h2⟩:=mem_blk h
 refine ⟨h1,?_,fun r hr=>(h2 r hr).1,fun y hy z hz=>(h2 y hy).2 z hz⟩
 unfold blk at h
 obtain ⟨k,_,rfl⟩:=List.mem_map.1 h
 exact clB_len
theorem cls_of {b:List api_Row} {r:api_Row} (h:r∈b):∃ c∈blk fV b,r∈c:=by
 have hk:fV r∈keysB fV b:=mem_keysB.2 ⟨r,h,rfl⟩
 exact ⟨clB fV b (fV r),List.mem_map.2 ⟨_,hk,rfl⟩,mem_clB.2 ⟨h,rfl⟩⟩
theorem grps_sum {l:List api_Condition} {k a:Int} {bs:List (List api_Row)} (hb:BsOK l a bs) (hk:k=1∨k=2) {b c:List api_Row} (h:b∈bs) (hc:c∈blk fV b):(mkG l k a c).sum=⟨(nrm (zs l k a c)).1,(nrm (zs l k a c)).2⟩:=by
 obtain ⟨h1,h2,h3,h4⟩:=cls_fact hc
 have:=hb.each h
 exact mkG_sum hk h1 (by omega) (fun y hy=>⟨hb.row b h y (h3 y hy),fun z hz=>h4 y hy z hz⟩)
theorem ch_big {l:List api_Condition} {k a:Int} {bs cs:List (List api_Row)} (hb:BsOK l a bs) (h:IsCh bs cs):cs.flatten.length≤8∧∀ r∈cs.flatten,NumA a r:=by
 have hl:∀ {p cs:List (List api_Row)},IsCh p cs→cs.flatten.length≤(p.map List.length).sum:=by
  intro p
  induction p with
  | nil=>
   intro cs h
   cases cs with
   | nil=>simp
   | cons c cs=>exact h.elim
  | cons b p ih=>
   intro cs h
   cases cs with
   | nil=>exact h.elim
   | cons c cs=>
    have:=ih h.2
    have:=(cls_fact h.1).2.1
    rw [List.flatten_cons,List.length_append,List.map_cons,List.sum_cons];omega
 refine ⟨Nat.le_trans (hl h) hb.tot,fun r hr=>?_⟩
 obtain ⟨c,hc,hrc⟩:=List.mem_flatten.1 hr
 obtain ⟨b,hbm,hcb⟩:=h.mem hc
 exact hb.row b hbm r ((cls_fact hcb).2.2.1 r hrc)
def leZ (great:Bool) (z w:Int):Prop:=if great=true then w≤z else z≤w
theorem less_spec {x y:Int}:aggregate_total_less.C ⟨(nrm x).1,(nrm x).2⟩ ⟨(nrm y).1,(nrm y).2⟩ (decide (x<y)):=by
 obtain ⟨q,h1,h2⟩:=aggregate_total_less.enter ⟨(nrm x).1,(nrm x).2⟩ ⟨(nrm y).1,(nrm y).2⟩ (fun q=>q=decide (x<y)) (by
  have:=nrm_lt (a:=x) (b:=y)
  by_cases ha:(nrm x).1<(nrm y).1
  ·rw [if_pos (by exact ha)]
   rw [decide_eq_true (this.2 (.inl ha))]
  ·rw [if_neg (by exact ha)]
   by_cases hb:(nrm x).1=(nrm y).1
   ·rw [if_pos (by exact hb),decide_eq_decide,this]
    constructor
    ·exact fun h=>.inr ⟨hb,h⟩
    ·rintro (h | h)
     ·exact absurd h ha
     ·exact h.2
   ·rw [if_neg (by exact hb),eq_comm,decide_eq_false_iff_not,this]
    rintro (h | h)
    ·exact ha h
    ·exact hb h.1)
 rw [← h1];exact h2
theorem extreme_sums {l:List api_Condition} {k a:Int} {great:Bool} {bs:List (List api_Row)} (hb:BsOK l a bs) (hk:k=1∨k=2) :
  ∃ cs,IsCh bs cs∧aggregate_extreme.C (bs.map (grpsB l k a)) k great (cs.map (mkG l k a),true)∧∀ cs',IsCh bs cs'→leZ great (zs l k a cs.flatten) (zs l k a cs'.flatten):=by
 obtain ⟨q,⟨cs,g1,g2,g3⟩,h2⟩:=aggregate_extreme.enter (bs.map (grpsB l k a)) k great (fun q=>∃ cs,IsCh bs cs∧q=(cs.map (mkG l k a),true)∧∀ cs',IsCh bs cs'→leZ great (zs l k a cs.flatten) (zs l k a cs'.flatten)) (by
  have go:∀ (rest p cs:List (List api_Row)),p++rest=bs→IsCh p cs→(∀ cs',IsCh p cs'→leZ great (zs l k a cs.flatten) (zs l k a cs'.flatten))→aggregate_extreme.L1 (bs.map (grpsB l k a)) great (cs.map (mkG l k a)) (p.length:Int) (fun q=>∃ cs,IsCh bs cs∧q=(cs.map (mkG l k a),true)∧∀ cs',IsCh bs cs'→leZ great (zs l k a cs.flatten) (zs l k a cs'.flatten)):=by
   intro rest
   induction rest with
   | nil=>
    intro p cs hp hc hopt
    rw [List.append_nil] at hp
    subst hp
    apply aggregate_extreme.L1_step
    rw [if_neg (by rw [List.length_map];omega)]
    exact ⟨cs,hc,rfl,hopt⟩
   | cons b rest ih=>
    intro p cs hp hc hopt
    have hpl:p.length+rest.length+1=bs.length:=by rw [← hp];simp;omega
    have hbm:b∈bs:=by rw [← hp];simp
    have hbl:=hb.each hbm
    have hget:lget (bs.map (grpsB l k a)) (p.length:Int)=some (grpsB l k a b):=by
     rw [lget_nat,List.getElem?_map,← hp,List.getElem?_append_right (Nat.le_refl _),Nat.sub_self];rfl
    have hkl:(blk fV b).length≤8:=by rw [blk_len];exact Nat.le_trans keysB_len hbl
    obtain ⟨c0,cr,ebk⟩:∃ c0 cr,blk fV b=c0::cr:=by
     cases h:blk fV b with
     | nil=>
      cases hb2:b with
      | nil=>exact absurd hb2 (hb.ne b hbm)
      | cons r s=>
       obtain ⟨c,hc,_⟩:=cls_of (b:=b) (r:=r) (by rw [hb2];simp)
       rw [h] at hc;cases hc
     | cons c0 cr=>exact ⟨c0,cr,rfl⟩
    have eg:grpsB l k a b=mkG l k a c0::cr.map (mkG l k a):=by unfold grpsB;rw [ebk,List.map_cons]
    have etd:List.take ((mkG l k a c0::cr.map (mkG l k a)).length-1) (List.drop 1 (mkG l k a c0::cr.map (mkG l k a)))=cr.map (mkG l k a):=by
     simp only [List.length_cons,Nat.add_sub_cancel,List.drop_succ_cons,List.drop_zero]
     exact List.take_of_length_le (by simp)
    have hcsl:=hc.len
    have hbsl:=hb.len
    have inner:∀ (s d:List (List api_Row)) (c:List api_Row),d++s=cr→c∈blk fV b→(∀ c'∈c0::d,leZ great (zs l k a c) (zs l k a c')) →
      aggregate_extreme.L3 (bs.map (grpsB l k a)) great (cs.map (mkG l k a)) (mkG l k a c0::cr.map (mkG l k a)) (mkG l k a c) (p.length:Int) (d.length:Int) (fun q=>∃ cs,IsCh bs cs∧q=(cs.map (mkG l k a),true)∧∀ cs',IsCh bs cs'→leZ great (zs l k a cs.flatten) (zs l k a cs'.flatten)):=by
     intro s
     induction s with
     | nil=>
      intro d c hd hcm hbest
      rw [List.append_nil] at hd
      subst hd
      apply aggregate_extreme.L3_step
      rw [etd,if_neg (by rw [List.length_map];omega)]
      refine ⟨by rw [List.length_map];omega,?_⟩
      rw [wrap_succ (by omega)]
      have:=ih (p++[b]) (cs++[c]) (by rw [List.append_assoc];exact hp) (hc.snoc hcm) (fun cs' h'=>by
       obtain ⟨cs0,c',e,h0,hc'⟩:=h'.unsnoc
       subst e
       have o1:=hopt cs0 h0
       have o2:=hbest c' (by rw [← ebk];exact hc')
       rw [List.flatten_append,List.flatten_append,zs_append,zs_append]
       simp only [List.flatten_cons,List.flatten_nil,List.append_nil]
       unfold leZ at o1 o2 ⊢
       split at o1
       ·rename_i hg;rw [if_pos hg] at o2 ⊢;omega
       ·rename_i hg;rw [if_neg hg] at o2 ⊢;omega)
      rw [List.length_append,List.length_singleton,List.map_append] at this
      exact this
     | cons c8 s ih2=>
      intro d c hd hcm hbest
      have hdl:d.length+s.length+1=cr.length:=by rw [← hd];simp;omega
      have h8:c8∈blk fV b:=by rw [ebk,← hd];simp
      have hcrl:cr.length+1≤8:=by rw [ebk,List.length_cons] at hkl;omega
      have hg8:lget (cr.map (mkG l k a)) (d.length:Int)=some (mkG l k a c8):=by
       rw [lget_nat,List.getElem?_map,← hd,List.getElem?_append_right (Nat.le_refl _),Nat.sub_self];rfl
      have next:∀ c',c'∈blk fV b→(∀ e∈c0::(d++[c8]),leZ great (zs l k a c') (zs l k a e))→aggregate_extreme.L4 (bs.map (grpsB l k a)) great (cs.map (mkG l k a)) (mkG l k a c0::cr.map (mkG l k a)) (mkG l k a c') (p.length:Int) (d.length:Int) (fun q=>∃ cs,IsCh bs cs∧q=(cs.map (mkG l k a),true)∧∀ cs',IsCh bs cs'→leZ great (zs l k a cs.flatten) (zs l k a cs'.flatten)):=fun c' h1 h2=>by
       apply aggregate_extreme.L4_step
       rw [wrap_succ (by omega)]
       have:=ih2 (d++[c8]) c' (by rw [List.append_assoc];exact hd) h1 h2
       rw [List.length_append,List.length_singleton] at this
       exact this
      have keep:leZ great (zs l k a c) (zs l k a c8)→∀ e∈c0::(d++[c8]),leZ great (zs l k a c) (zs l k a e):=fun h e he=>by
       rcases List.mem_cons.1 he with rfl | he
       ·exact hbest _ (by simp)
       ·rcases List.mem_append.1 he with he | he
        ·exact hbest e (by simp [he])
        ·rw [List.mem_singleton.1 he];exact h
      have take:leZ great (zs l k a c8) (zs l k a c)→∀ e∈c0::(d++[c8]),leZ great (zs l k a c8) (zs l k a e):=fun h e he=>by
       have tr:∀ e∈c0::d,leZ great (zs l k a c8) (zs l k a e):=fun e he=>by
        have:=hbest e he
        unfold leZ at h this ⊢
        split at h
        ·rename_i hg;rw [if_pos hg] at this ⊢;omega
        ·rename_i hg;rw [if_neg hg] at this ⊢;omega
       rcases List.mem_cons.1 he with rfl | he
       ·exact tr _ (by simp)
       ·rcases List.mem_append.1 he with he | he
        ·exact tr e (by simp [he])
        ·rw [List.mem_singleton.1 he];unfold leZ;split<;>omega
      apply aggregate_extreme.L3_step
      rw [etd,if_pos (by rw [List.length_map];omega)]
      refine ⟨_,hg8,decide (zs l k a c<zs l k a c8),by rw [grps_sum hb hk hbm hcm,grps_sum hb hk hbm h8];exact less_spec,?_⟩
      rw [grps_sum hb hk hbm hcm,grps_sum hb hk hbm h8]
      by_cases hl:decide (zs l k a c<zs l k a c8)=great
      ·rw [if_pos hl]
       by_cases he:zs l k a c=zs l k a c8
       ·rw [he]
        rw [if_pos (by simp)]
        exact next c hcm (keep (by unfold leZ;split<;>omega))
       ·rw [if_neg (by
         intro hh
         simp only [Bool.and_true,Bool.and_eq_true,beq_iff_eq] at hh
         exact he (nrm_eq.2 hh))]
        refine next c8 h8 (take ?_)
        unfold leZ
        cases great with
        | true=>rw [if_pos rfl];have:=of_decide_eq_true hl;omega
        | false=>rw [if_neg Bool.false_ne_true];have:=of_decide_eq_false hl;omega
      ·rw [if_neg hl]
       refine next c hcm (keep ?_)
       unfold leZ
       cases great with
       | true=>rw [if_pos rfl];rw [decide_eq_true_iff] at hl;omega
       | false=>
        rw [if_neg Bool.false_ne_true]
        have:zs l k a c<zs l k a c8:=by
         false_or_by_contra
         rename_i hh
         exact hl (decide_eq_false hh)
        omega
    apply aggregate_extreme.L1_step
    rw [if_pos (by rw [List.length_map];omega)]
    refine ⟨_,hget,mkG l k a c0,by rw [eg];rfl,by rw [eg,List.length_cons];omega,?_⟩
    rw [eg]
    exact inner cr [] c0 rfl (by rw [ebk];simp) (fun c' h=>by
     rw [List.mem_singleton.1 h];unfold leZ;split<;>omega)
  have h0:aggregate_extreme.L2 (bs.map (grpsB l k a)) great (fun q=>∃ cs,IsCh bs cs∧q=(cs.map (mkG l k a),true)∧∀ cs',IsCh bs cs'→leZ great (zs l k a cs.flatten) (zs l k a cs'.flatten)):=by
   apply aggregate_extreme.L2_step
   refine go bs [] [] rfl trivial (fun cs' h=>?_)
   cases cs' with
   | nil=>unfold leZ;split<;>omega
   | cons c cs=>exact h.elim
  by_cases k1:k=1
  ·rw [if_pos k1];exact h0
  ·rw [if_neg k1,if_pos (by omega)];exact h0)
 rw [g2] at h2
 exact ⟨cs,g1,h2,g3⟩
theorem add_nrm {x y:Int} (hx:BigZ x) (hy:BigZ y):aggregate_total_add.C ⟨(nrm x).1,(nrm x).2⟩ ⟨(nrm y).1,(nrm y).2⟩ ⟨(nrm (x+y)).1,(nrm (x+y)).2⟩:=by
 obtain ⟨r,h1,h2⟩:=aggregate_total_add.enter ⟨(nrm x).1,(nrm x).2⟩ ⟨(nrm y).1,(nrm y).2⟩ (fun r=>r=⟨(nrm (x+y)).1,(nrm (x+y)).2⟩) ⟨_,normal_spec,by
  unfold BigZ at hx hy
  unfold nrm
  simp only
  rw [wrap_id (x:=x % 4294967296+y % 4294967296) (by omega) (by omega),wrap_id (x:=x / 4294967296+y / 4294967296) (by omega) (by omega),shr_div,low_mod,wrap_id (by omega) (by omega)]
  congr 1
  ·omega
  ·omega⟩
 rw [← h1];exact h2
theorem result_sums {l:List api_Condition} {k a:Int} {bs cs:List (List api_Row)} (hb:BsOK l a bs) (hk:k=1∨k=2) (hc:IsCh bs cs) :
  aggregate_choice_result.C (cs.map (mkG l k a)) k (if fitT (nrm (zs l k a cs.flatten)).1=true then (numR (nrm (zs l k a cs.flatten)),0) else (zeroV,7)):=by
 generalize hR:(if fitT (nrm (zs l k a cs.flatten)).1=true then ((numR (nrm (zs l k a cs.flatten)),0):api_Value×Int) else (zeroV,7))=R
 have hlen:=hc.len
 have hbl:=hb.len
 obtain ⟨hfl,hnum⟩:=ch_big (k:=k) hb hc
 obtain ⟨q,h1,h2⟩:=aggregate_choice_result.enter (cs.map (mkG l k a)) k (fun q=>q=R) (by
  have go:∀ (rest p:List (List api_Row)),p++rest=cs→aggregate_choice_result.L1 (cs.map (mkG l k a)) (nrm (zs l k a p.flatten)).1 (nrm (zs l k a p.flatten)).2 (p.length:Int) (fun q=>q=R):=by
   intro rest
   induction rest with
   | nil=>
    intro p hp
    rw [List.append_nil] at hp
    subst hp
    apply aggregate_choice_result.L1_step
    rw [if_neg (by rw [List.length_map];omega)]
    exact ⟨_,number_spec,hR⟩
   | cons c rest ih=>
    intro p hp
    have hpl:p.length+rest.length+1=cs.length:=by rw [← hp];simp;omega
    have hcm:c∈cs:=by rw [← hp];simp
    obtain ⟨b,hbm,hcb⟩:=hc.mem hcm
    have hget:lget (cs.map (mkG l k a)) (p.length:Int)=some (mkG l k a c):=by
     rw [lget_nat,List.getElem?_map,← hp,List.getElem?_append_right (Nat.le_refl _),Nat.sub_self];rfl
    have hfp:p.flatten.length+c.length≤8∧(∀ r∈p.flatten,NumA a r)∧∀ r∈c,NumA a r:=by
     have e:cs.flatten=p.flatten++(c++rest.flatten):=by rw [← hp];simp
     rw [e] at hfl hnum
     rw [List.length_append,List.length_append] at hfl
     exact ⟨by omega,fun r hr=>hnum r (List.mem_append_left _ hr),fun r hr=>hnum r (List.mem_append_right _ (List.mem_append_left _ hr))⟩
    apply aggregate_choice_result.L1_step
    rw [if_pos (by rw [List.length_map];omega)]
    refine ⟨_,hget,_,by rw [grps_sum hb hk hbm hcb];exact add_nrm (big_of (by omega) hfp.2.1) (big_of (by omega) hfp.2.2),?_⟩
    rw [wrap_succ (by omega)]
    have:=ih (p++[c]) (by rw [List.append_assoc];exact hp)
    rw [List.length_append,List.length_singleton,List.flatten_append,zs_append] at this
    simp only [List.flatten_cons,List.flatten_nil,List.append_nil] at this
    exact this
  have h0:aggregate_choice_result.L2 (cs.map (mkG l k a)) (fun q=>q=R):=by
   apply aggregate_choice_result.L2_step
   exact go cs [] rfl
  by_cases k1:k=1
  ·rw [if_pos k1];exact h0
  ·rw [if_neg k1,if_pos (by omega)];exact h0)
 rw [← h1];exact h2
end Go.Own
namespace Go.Own
structure PickI (great:Bool) (pre:List aggregate_group) (s:aggregate_group×Bool):Prop where
 any:s.2=pre.any fun g=>g.ok
 some:s.2=true→s.1∈pre∧s.1.ok=true∧∀ g∈pre,g.ok=true→betterB great g.value s.1.value=false
theorem pick_inv {great:Bool}:∀ {gs pre:List aggregate_group} {s:aggregate_group×Bool},PickI great pre s→PickI great (pre++gs) (gs.foldl (pstep great) s)
 | [],pre,s,h=>by rw [List.append_nil];exact h
 | g::r,pre,s,h=>by
  have e:pre++g::r=(pre++[g])++r:=by simp
  rw [e,List.foldl_cons]
  refine pick_inv ?_
  unfold pstep
  by_cases ho:g.ok=true
  ·rw [if_pos ho]
   by_cases hf:s.2=true
   ·obtain ⟨h1,h2,h3⟩:=h.some hf
    rw [if_pos hf]
    by_cases hb:betterB great g.value s.1.value=true
    ·rw [if_pos hb]
     refine ⟨by rw [List.any_append];simp [ho],fun _=>⟨by simp,ho,fun x hx hxo=>?_⟩⟩
     rcases List.mem_append.1 hx with hx | hx
     ·have h5:=h3 x hx hxo
      cases hc:betterB great x.value g.value with
      | false=>rfl
      | true=>rw [better_trans hc hb] at h5;cases h5
     ·rw [List.mem_singleton.1 hx];exact better_irrefl
    ·rw [if_neg hb]
     refine ⟨by rw [hf,List.any_append];simp [ho],fun _=>⟨List.mem_append_left _ h1,h2,fun x hx hxo=>?_⟩⟩
     rcases List.mem_append.1 hx with hx | hx
     ·exact h3 x hx hxo
     ·rw [List.mem_singleton.1 hx];simpa using hb
   ·rw [if_neg hf]
    have hn:pre.any (fun g=>g.ok)=false:=by rw [← h.any];simpa using hf
    refine ⟨by rw [List.any_append];simp [ho],fun _=>⟨by simp,ho,fun x hx hxo=>?_⟩⟩
    rcases List.mem_append.1 hx with hx | hx
    ·rw [List.any_eq_false] at hn
     exact absurd hxo (hn x hx)
    ·rw [List.mem_singleton.1 hx];exact better_irrefl
  ·rw [if_neg ho]
   refine ⟨by rw [h.any,List.any_append];simp [ho],fun hs=>?_⟩
   obtain ⟨h1,h2,h3⟩:=h.some hs
   refine ⟨List.mem_append_left _ h1,h2,fun x hx hxo=>?_⟩
   rcases List.mem_append.1 hx with hx | hx
   ·exact h3 x hx hxo
   ·rw [List.mem_singleton.1 hx] at hxo;exact absurd hxo ho
theorem pick_prop {great:Bool} {gs:List aggregate_group}:PickI great gs (gs.foldl (pstep great) (zeroG,false)):=by
 have:=pick_inv (great:=great) (gs:=gs) (pre:=[]) (s:=(zeroG,false)) ⟨rfl,fun h=>by cases h⟩
 exact this
theorem cls_ok {l:List api_Condition} {k a:Int} {b c:List api_Row} (hk:k≠1∧k≠2) (h:c∈blk fV b):∀ y∈c,(mkG l k a c).ok=satF y l∧(satF y l=true→(mkG l k a c).value=atV y a):=by
 obtain ⟨h1,h2,h3,h4⟩:=cls_fact h
 cases c with
 | nil=>exact absurd rfl h1
 | cons r s=>
  intro y hy
  have hyr:=h4 y hy r (by simp)
  refine ⟨by rw [mkG_ok];exact (sat_same hyr).symm,fun hs=>?_⟩
  rw [mkG_value hk (fun z hz=>h4 z hz r (by simp)) (by rw [← sat_same hyr];exact hs)]
  exact (at_same hyr).symm
theorem link {l:List api_Condition} {k a:Int} {great:Bool} {bs cs:List (List api_Row)} (hk:k≠1∧k≠2) (hc:IsCh bs cs) (hs:∃ c∈cs,∃ z∈c,satF z l=true) :
  bestF l great a cs.flatten=some ((cs.map (mkG l k a)).foldl (pstep great) (zeroG,false)).1.value:=by
 have hp:=pick_prop (great:=great) (gs:=cs.map (mkG l k a))
 generalize (cs.map (mkG l k a)).foldl (pstep great) (zeroG,false)=r at hp
 obtain ⟨c,hcm,z,hz,hsz⟩:=hs
 have hr2:r.2=true:=by
  rw [hp.any,List.any_eq_true]
  obtain ⟨b,_,hcb⟩:=hc.mem hcm
  exact ⟨_,List.mem_map.2 ⟨c,hcm,rfl⟩,by rw [(cls_ok hk hcb z hz).1];exact hsz⟩
 obtain ⟨h1,h2,h3⟩:=hp.some hr2
 obtain ⟨d,hd,ed⟩:=List.mem_map.1 h1
 obtain ⟨b,_,hdb⟩:=hc.mem hd
 unfold bestF
 refine best_of ⟨?_,fun v hv=>?_⟩
 ·cases hd2:d with
  | nil=>exact absurd hd2 (cls_fact hdb).1
  | cons x s=>
   have hx:x∈d:=by rw [hd2];simp
   have hq:=cls_ok (l:=l) (k:=k) (a:=a) hk hdb x hx
   rw [ed,h2] at hq
   rw [hq.2 hq.1.symm]
   exact List.mem_map.2 ⟨x,List.mem_filter.2 ⟨List.mem_flatten.2 ⟨d,hd,hx⟩,hq.1.symm⟩,rfl⟩
 ·obtain ⟨y,hy,rfl⟩:=List.mem_map.1 hv
  obtain ⟨hy,hsy⟩:=List.mem_filter.1 hy
  obtain ⟨e,he,hye⟩:=List.mem_flatten.1 hy
  obtain ⟨b2,_,heb⟩:=hc.mem he
  have hq:=cls_ok (l:=l) (k:=k) (a:=a) hk heb y hye
  have:=h3 _ (List.mem_map.2 ⟨e,he,rfl⟩) (by rw [hq.1];exact hsy)
  rw [hq.2 hsy] at this
  exact this
theorem result_val {l:List api_Condition} {k a:Int} {bs cs:List (List api_Row)} (hb:bs.length≤1000) (hk:k≠1∧k≠2) (hc:IsCh bs cs) {m:api_Value} (h:bestF l (k == 4) a cs.flatten=some m) (hs:∃ c∈cs,∃ z∈c,satF z l=true):aggregate_choice_result.C (cs.map (mkG l k a)) k (m,0):=by
 obtain ⟨q,h1,h2⟩:=aggregate_choice_result.enter (cs.map (mkG l k a)) k (fun q=>q=(m,0)) (by
  rw [if_neg hk.1,if_neg hk.2]
  refine ⟨_,aggregate_pick.spec (by rw [List.length_map,hc.len];omega),?_⟩
  rw [link hk hc hs] at h
  rw [← Option.some.inj h])
 rw [← h1];exact h2
def anyS (l:List api_Condition) (bs:List (List api_Row)):Bool:=bs.any fun b=>b.any fun r=>satF r l
theorem anyS_iff {l:List api_Condition} {bs:List (List api_Row)}:anyS l bs=true↔∃ b∈bs,∃ r∈b,satF r l=true:=by
 unfold anyS
 rw [List.any_eq_true]
 constructor
 ·rintro ⟨b,hb,h⟩
  obtain ⟨r,hr,h⟩:=List.any_eq_true.1 h
  exact ⟨b,hb,r,hr,h⟩
 ·rintro ⟨b,hb,r,hr,h⟩
  exact ⟨b,hb,List.any_eq_true.2 ⟨r,hr,h⟩⟩
theorem grps_ok {l:List api_Condition} {k a:Int} (hk:k≠1∧k≠2) {b:List api_Row}:(grpsB l k a b).any (fun g=>g.ok)=b.any fun r=>satF r l:=by
 rw [Bool.eq_iff_iff,List.any_eq_true,List.any_eq_true]
 constructor
 ·rintro ⟨g,hg,h⟩
  obtain ⟨c,hc,rfl⟩:=List.mem_map.1 hg
  obtain ⟨h1,h2,h3,h4⟩:=cls_fact hc
  cases hc2:c with
  | nil=>exact absurd hc2 h1
  | cons x s=>
   have hx:x∈c:=by rw [hc2];simp
   exact ⟨x,h3 x hx,by rw [← (cls_ok (k:=k) (a:=a) hk hc x hx).1];exact h⟩
 ·rintro ⟨r,hr,h⟩
  obtain ⟨c,hc,hrc⟩:=cls_of hr
  exact ⟨_,List.mem_map.2 ⟨c,hc,rfl⟩,by rw [(cls_ok hk hc r hrc).1];exact h⟩
theorem blk_cons {b:List api_Row} (h:b≠[]):∃ c0 cr,blk fV b=c0::cr:=by
 cases hk:blk fV b with
 | nil=>
  cases hb:b with
  | nil=>exact absurd hb h
  | cons r s=>
   obtain ⟨c,hc,_⟩:=cls_of (b:=b) (r:=r) (by rw [hb];simp)
   rw [hk] at hc;cases hc
 | cons c0 cr=>exact ⟨c0,cr,rfl⟩
theorem grps_len {l:List api_Condition} {k a:Int} {b:List api_Row}:(grpsB l k a b).length≤b.length:=by
 unfold grpsB;rw [List.length_map,blk_len];exact keysB_len
theorem outer_val {l:List api_Condition} {k a:Int} {great:Bool} {bs:List (List api_Row)} (hb:BsOK l a bs) (hk:k≠1∧k≠2) :
  ∃ cs,IsCh bs cs∧aggregate_outer.C (bs.map (grpsB l k a)) great (cs.map (mkG l k a),anyS l bs)∧∀ b∈bs,∀ y∈b,satF y l=true→∃ c∈cs,∃ z∈c,satF z l=true∧betterB great (atV y a) (atV z a)=false:=by
 have hlen:=hb.len
 obtain ⟨q,⟨cs,g1,g2,g3⟩,h2⟩:=aggregate_outer.enter (bs.map (grpsB l k a)) great (fun q=>∃ cs,IsCh bs cs∧q=(cs.map (mkG l k a),anyS l bs)∧∀ b∈bs,∀ y∈b,satF y l=true→∃ c∈cs,∃ z∈c,satF z l=true∧betterB great (atV y a) (atV z a)=false) (by
  have go:∀ (rest p cs:List (List api_Row)),p++rest=bs→IsCh p cs→(∀ b∈p,∀ y∈b,satF y l=true→∃ c∈cs,∃ z∈c,satF z l=true∧betterB great (atV y a) (atV z a)=false) →
    aggregate_outer.L1 (bs.map (grpsB l k a)) great (cs.map (mkG l k a)) (anyS l p) (p.length:Int) (fun q=>∃ cs,IsCh bs cs∧q=(cs.map (mkG l k a),anyS l bs)∧∀ b∈bs,∀ y∈b,satF y l=true→∃ c∈cs,∃ z∈c,satF z l=true∧betterB great (atV y a) (atV z a)=false):=by
   intro rest
   induction rest with
   | nil=>
    intro p cs hp hc ho
    rw [List.append_nil] at hp
    subst hp
    apply aggregate_outer.L1_step
    rw [if_neg (by rw [List.length_map];omega)]
    exact ⟨cs,hc,rfl,ho⟩
   | cons b rest ih=>
    intro p cs hp hc ho
    have hpl:p.length+rest.length+1=bs.length:=by rw [← hp];simp;omega
    have hbm:b∈bs:=by rw [← hp];simp
    have hbl:=hb.each hbm
    have hcl:=hc.len
    have hget:lget (bs.map (grpsB l k a)) (p.length:Int)=some (grpsB l k a b):=by
     rw [lget_nat,List.getElem?_map,← hp,List.getElem?_append_right (Nat.le_refl _),Nat.sub_self];rfl
    have hgl:=grps_len (l:=l) (k:=k) (a:=a) (b:=b)
    have hpk:=pick_prop (great:=great) (gs:=grpsB l k a b)
    have next:∀ (c:List api_Row) (g:aggregate_group) (r3:aggregate_group×Bool),c∈blk fV b→g=mkG l k a c→r3.2=(b.any fun r=>satF r l)→(∀ y∈b,satF y l=true→∃ z∈c,satF z l=true∧betterB great (atV y a) (atV z a)=false) →
      aggregate_outer.L3 (bs.map (grpsB l k a)) great (cs.map (mkG l k a)) (anyS l p) g.ids g.ok g.value.Kind g.value.Num g.value.Str g.sum.high g.sum.low r3 (p.length:Int) (fun q=>∃ cs,IsCh bs cs∧q=(cs.map (mkG l k a),anyS l bs)∧∀ b∈bs,∀ y∈b,satF y l=true→∃ c∈cs,∃ z∈c,satF z l=true∧betterB great (atV y a) (atV z a)=false):=fun c g r3 hc0 hg hr ho2=>by
     subst hg
     have e:anyS l (p++[b])=(anyS l p || r3.2):=by unfold anyS;rw [List.any_append,hr];simp
     have h2:aggregate_outer.L2 (bs.map (grpsB l k a)) great (cs.map (mkG l k a)) (anyS l (p++[b])) (mkG l k a c).ids (mkG l k a c).ok (mkG l k a c).value.Kind (mkG l k a c).value.Num (mkG l k a c).value.Str (mkG l k a c).sum.high (mkG l k a c).sum.low (p.length:Int) (fun q=>∃ cs,IsCh bs cs∧q=(cs.map (mkG l k a),anyS l bs)∧∀ b∈bs,∀ y∈b,satF y l=true→∃ c∈cs,∃ z∈c,satF z l=true∧betterB great (atV y a) (atV z a)=false):=by
      apply aggregate_outer.L2_step
      refine ⟨by rw [List.length_map];omega,?_⟩
      rw [wrap_succ (by omega)]
      have:=ih (p++[b]) (cs++[c]) (by rw [List.append_assoc];exact hp) (hc.snoc hc0) (fun b' hb' y hy hs=>by
       rcases List.mem_append.1 hb' with hb' | hb'
       ·obtain ⟨c',h1,h2⟩:=ho b' hb' y hy hs
        exact ⟨c',List.mem_append_left _ h1,h2⟩
       ·rw [List.mem_singleton.1 hb'] at hy
        exact ⟨c,by simp,ho2 y hy hs⟩)
      rw [List.length_append,List.length_singleton,List.map_append] at this
      exact this
     apply aggregate_outer.L3_step
     cases hf:anyS l p with
     | true=>
      rw [if_pos rfl]
      rw [e,hf,Bool.true_or] at h2
      exact h2
     | false=>
      rw [if_neg Bool.false_ne_true]
      rw [e,hf,Bool.false_or] at h2
      exact h2
    apply aggregate_outer.L1_step
    rw [if_pos (by rw [List.length_map];omega)]
    refine ⟨_,hget,_,aggregate_pick.spec (by omega),?_⟩
    have ha:=hpk.any
    rw [grps_ok hk] at ha
    generalize (grpsB l k a b).foldl (pstep great) (zeroG,false)=r3 at hpk ha
    by_cases hr:r3.2=true
    ·rw [if_pos hr]
     obtain ⟨h1,h2,h3⟩:=hpk.some hr
     obtain ⟨c,hcm,ec⟩:=List.mem_map.1 h1
     refine next c r3.1 r3 hcm ec.symm ha (fun y hy hs=>?_)
     cases hc2:c with
     | nil=>exact absurd hc2 (cls_fact hcm).1
     | cons x s=>
      have hx:x∈c:=by rw [hc2];simp
      have hq:=cls_ok (l:=l) (k:=k) (a:=a) hk hcm x hx
      rw [ec,h2] at hq
      obtain ⟨c',hc',hyc⟩:=cls_of hy
      have hq':=cls_ok (l:=l) (k:=k) (a:=a) hk hc' y hyc
      have h5:=h3 _ (List.mem_map.2 ⟨c',hc',rfl⟩) (by rw [hq'.1];exact hs)
      rw [hq'.2 hs,hq.2 hq.1.symm] at h5
      exact ⟨x,by simp,hq.1.symm,h5⟩
    ·rw [if_neg hr]
     obtain ⟨c0,cr,ec⟩:=blk_cons (hb.ne b hbm)
     refine ⟨mkG l k a c0,by unfold grpsB;rw [ec];rfl,next c0 _ r3 (by rw [ec];simp) rfl ha (fun y hy hs=>?_)⟩
     have:b.any (fun r=>satF r l)=false:=by rw [← ha];simpa using hr
     rw [List.any_eq_false] at this
     exact absurd hs (this y hy)
  exact go bs [] [] rfl trivial (fun b hb=>by cases hb))
 rw [g2] at h2
 exact ⟨cs,g1,h2,g3⟩
def freeB (l:List api_Condition) (b:List api_Row):Bool:=b.any fun r=>!satF r l
theorem free_false {l:List api_Condition} {b:List api_Row} (h:freeB l b=false):∀ r∈b,satF r l=true:=fun r hr=>by
 unfold freeB at h
 rw [List.any_eq_false] at h
 simpa using h r hr
def SelCh (l:List api_Condition) (a:Int) (G:Bool):List (List api_Row)→List (List api_Row)→Prop
 | [],[]=>True
 | b::bs,c::cs=>(freeB l b=true→∀ z∈c,satF z l=false)∧(freeB l b=false→∀ z∈c,∀ y∈b,betterB G (atV y a) (atV z a)=false)∧SelCh l a G bs cs
 | _,_=>False
theorem SelCh.snoc {l:List api_Condition} {a:Int} {G:Bool}:∀ {p cs:List (List api_Row)} {b c:List api_Row},SelCh l a G p cs→(freeB l b=true→∀ z∈c,satF z l=false)→(freeB l b=false→∀ z∈c,∀ y∈b,betterB G (atV y a) (atV z a)=false)→SelCh l a G (p++[b]) (cs++[c])
 | [],[],b,c,_,h,h2=>⟨h,h2,trivial⟩
 | [],_::_,b,c,h,_,_=>h.elim
 | _::_,[],b,c,h,_,_=>h.elim
 | x::p,d::cs,b,c,h,h2,h3=>⟨h.1,h.2.1,SelCh.snoc h.2.2 h2 h3⟩
theorem SelCh.mem {l:List api_Condition} {a:Int} {G:Bool}:∀ {p cs:List (List api_Row)},SelCh l a G p cs→IsCh p cs→∀ {c:List api_Row},c∈cs→∃ b∈p,c∈blk fV b∧(freeB l b=true→∀ z∈c,satF z l=false)∧(freeB l b=false→∀ z∈c,∀ y∈b,betterB G (atV y a) (atV z a)=false)
 | [],[],_,_,c,h=>by cases h
 | [],_::_,h,_,_,_=>h.elim
 | _::_,[],h,_,_,_=>h.elim
 | x::p,d::cs,h,hi,c,hc=>by
  rcases List.mem_cons.1 hc with rfl | hc
  ·exact ⟨x,by simp,hi.1,h.1,h.2.1⟩
  ·obtain ⟨b,h1,h2⟩:=SelCh.mem h.2.2 hi.2 hc
   exact ⟨b,by simp [h1],h2⟩
def TopI (l:List api_Condition) (k a:Int) (G:Bool) (p:List (List api_Row)) (i:Int) (top:aggregate_group):Prop:=
 (i = -1∧∀ b∈p,freeB l b=true→∀ y∈b,satF y l=false) ∨
 ∃ (n:Nat) (bt ct:List api_Row),i=(n:Int)∧p[n]? = some bt∧freeB l bt=true∧ct∈blk fV bt∧top=mkG l k a ct∧top.ok=true∧∀ b∈p,freeB l b=true→∀ y∈b,satF y l=true→betterB G (atV y a) top.value=false
def InnerR (l:List api_Condition) (a:Int) (G:Bool) (bs cs:List (List api_Row)):Prop:=
 (anyS l bs=true→∃ c∈cs,∃ z∈c,satF z l=true) ∧
 ((∃ b∈bs,freeB l b=false)→∀ c∈cs,∀ z∈c,satF z l=true→∃ b∈bs,freeB l b=false∧∀ y∈b,betterB G (atV y a) (atV z a)=false) ∧
 ((∀ b∈bs,freeB l b=true)→∀ c∈cs,∀ z∈c,satF z l=true→∀ b∈bs,∀ y∈b,satF y l=true→betterB G (atV y a) (atV z a)=false)
def mustS (l:List api_Condition) (p:List (List api_Row)):Bool:=p.any fun b=>!freeB l b
theorem inner_val {l:List api_Condition} {k a:Int} {G:Bool} {bs:List (List api_Row)} (hb:BsOK l a bs) (hk:k≠1∧k≠2) :
  ∃ cs,IsCh bs cs∧aggregate_inner.C (bs.map (grpsB l k a)) G (cs.map (mkG l k a),anyS l bs)∧InnerR l a G bs cs:=by
 have hlen:=hb.len
 obtain ⟨q,⟨cs,g1,g2,g3⟩,h2⟩:=aggregate_inner.enter (bs.map (grpsB l k a)) G (fun q=>∃ cs,IsCh bs cs∧q=(cs.map (mkG l k a),anyS l bs)∧InnerR l a G bs cs) (by
  have go:∀ (rest p cs:List (List api_Row)) (i:Int) (top:aggregate_group),p++rest=bs→IsCh p cs→SelCh l a G p cs→TopI l k a G p i top →
    aggregate_inner.L1 (bs.map (grpsB l k a)) G (cs.map (mkG l k a)) (mustS l p) i top.ids top.ok top.value.Kind top.value.Num top.value.Str top.sum.high top.sum.low (p.length:Int) (fun q=>∃ cs,IsCh bs cs∧q=(cs.map (mkG l k a),anyS l bs)∧InnerR l a G bs cs):=by
   intro rest
   induction rest with
   | nil=>
    intro p cs i top hp hc hsel htop
    rw [List.append_nil] at hp
    subst hp
    have hcl:=hc.len
    apply aggregate_inner.L1_step
    rw [if_neg (by rw [List.length_map];omega)]
    by_cases hm:mustS l p=true
    ·rw [if_pos hm]
     apply aggregate_inner.L4_step
     rw [if_pos hm]
     obtain ⟨b0,hb0,hf0⟩:=List.any_eq_true.1 hm
     have hf0:freeB l b0=false:=by simpa using hf0
     have hsat0:anyS l p=true:=by
      rw [anyS_iff]
      cases hbb:b0 with
      | nil=>exact absurd hbb (hb.ne b0 hb0)
      | cons r s=>exact ⟨b0,hb0,r,by rw [hbb];simp,free_false hf0 r (by rw [hbb];simp)⟩
     refine ⟨cs,hc,by rw [hsat0],fun _=>?_,fun _ c hcm z hz hs=>?_,fun hall=>?_⟩
     ·obtain ⟨c,hcm,hcb⟩:=hc.has hb0
      obtain ⟨f1,f2,f3,f4⟩:=cls_fact hcb
      cases hcc:c with
      | nil=>exact absurd hcc f1
      | cons z s=>exact ⟨c,hcm,z,by rw [hcc];simp,free_false hf0 z (f3 z (by rw [hcc];simp))⟩
     ·obtain ⟨b,hbm,hcb,s1,s2⟩:=hsel.mem hc hcm
      cases hfb:freeB l b with
      | true=>rw [s1 hfb z hz] at hs;cases hs
      | false=>exact ⟨b,hbm,hfb,s2 hfb z hz⟩
     ·rw [hall b0 hb0] at hf0;cases hf0
    ·rw [if_neg hm]
     have hm':mustS l p=false:=by simpa using hm
     have hallf:∀ b∈p,freeB l b=true:=fun b hbm=>by
      unfold mustS at hm'
      rw [List.any_eq_false] at hm'
      simpa using hm' b hbm
     have hnos:∀ c∈cs,∀ z∈c,satF z l=false:=fun c hcm z hz=>by
      obtain ⟨b,hbm,hcb,s1,s2⟩:=hsel.mem hc hcm
      exact s1 (hallf b hbm) z hz
     rcases htop with ⟨hi,hno⟩ | ⟨n,bt,ct,hi,hpn,hfb,hct,htp,hok,hopt⟩
     ·subst hi
      rw [if_neg (by omega)]
      apply aggregate_inner.L4_step
      rw [if_neg hm,decide_eq_false (by omega)]
      have hf:anyS l p=false:=by
       cases h:anyS l p with
       | false=>rfl
       | true=>
        obtain ⟨b,hbm,r,hr,hs⟩:=anyS_iff.1 h
        rw [hno b hbm (hallf b hbm) r hr] at hs;cases hs
      refine ⟨cs,hc,by rw [hf],fun h=>(by rw [hf] at h;cases h),fun ⟨b,hbm,h⟩=>(by rw [hallf b hbm] at h;cases h),fun _ c hcm z hz hs=>(by rw [hnos c hcm z hz] at hs;cases hs)⟩
     ·subst hi
      rw [if_pos (by omega)]
      obtain ⟨cn,hcn,_⟩:=hc.get hpn
      refine ⟨mkG l k a cn,by rw [lget_nat,List.getElem?_map,hcn];rfl,?_⟩
      apply aggregate_inner.L4_step
      rw [if_neg hm,decide_eq_true (by omega),lset_n]
      have hbt:=List.mem_of_getElem? hpn
      obtain ⟨f1,f2,f3,f4⟩:=cls_fact hct
      obtain ⟨z0,hz0⟩:∃ z0,z0∈ct:=by
       cases hcc:ct with
       | nil=>exact absurd hcc f1
       | cons z s=>exact ⟨z,by simp⟩
      have hq0:=cls_ok (l:=l) (k:=k) (a:=a) hk hct z0 hz0
      rw [← htp,hok] at hq0
      have hany:anyS l p=true:=anyS_iff.2 ⟨bt,hbt,z0,f3 z0 hz0,hq0.1.symm⟩
      have hnlt:n<cs.length:=(List.getElem?_eq_some_iff.1 hcn).1
      refine ⟨cs.set n ct,hc.set hpn hct,?_,fun _=>⟨ct,List.mem_iff_getElem?.2 ⟨n,by rw [List.getElem?_set,if_pos rfl,if_pos hnlt]⟩,z0,hz0,hq0.1.symm⟩,fun ⟨b,hbm,h⟩=>(by rw [hallf b hbm] at h;cases h),fun _ c hcm z hz hs b hbm y hy hsy=>?_⟩
      ·rw [List.map_set,← htp,hany]
      ·rcases List.mem_or_eq_of_mem_set hcm with hcm | rfl
       ·rw [hnos c hcm z hz] at hs;cases hs
       ·have hq:=cls_ok (l:=l) (k:=k) (a:=a) hk hct z hz
        rw [← htp] at hq
        rw [← hq.2 hs]
        exact hopt b hbm (hallf b hbm) y hy hsy
   | cons b rest ih=>
    intro p cs i top hp hc hsel htop
    have hpl:p.length+rest.length+1=bs.length:=by rw [← hp];simp;omega
    have hbm:b∈bs:=by rw [← hp];simp
    have hbl:=hb.each hbm
    have hcl:=hc.len
    have hget:lget (bs.map (grpsB l k a)) (p.length:Int)=some (grpsB l k a b):=by
     rw [lget_nat,List.getElem?_map,← hp,List.getElem?_append_right (Nat.le_refl _),Nat.sub_self];rfl
    have hgl:=grps_len (l:=l) (k:=k) (a:=a) (b:=b)
    have hpk:=pick_prop (great:=G) (gs:=grpsB l k a b)
    have ha:=hpk.any
    rw [grps_ok hk] at ha
    obtain ⟨r4,e1,e2,e3,e4⟩:=aggregate_empty.spec (gs:=grpsB l k a b) (by omega)
    rw [grps_any] at e2
    have next:∀ (c:List api_Row) (r:aggregate_group×Bool) (mu:Bool) (i':Int) (top':aggregate_group),c∈blk fV b→r.1=mkG l k a c→mu=mustS l (p++[b])→(freeB l b=true→∀ z∈c,satF z l=false)→(freeB l b=false→∀ z∈c,∀ y∈b,betterB G (atV y a) (atV z a)=false)→TopI l k a G (p++[b]) i' top' →
      aggregate_inner.L5 (bs.map (grpsB l k a)) G (cs.map (mkG l k a)) mu i' top'.ids top'.ok top'.value.Kind top'.value.Num top'.value.Str top'.sum.high top'.sum.low r (p.length:Int) (fun q=>∃ cs,IsCh bs cs∧q=(cs.map (mkG l k a),anyS l bs)∧InnerR l a G bs cs):=fun c r mu i' top' hcm hr hmu s1 s2 ht=>by
     subst hmu
     apply aggregate_inner.L5_step
     refine ⟨by rw [List.length_map];omega,?_⟩
     rw [wrap_succ (by omega),hr]
     have:=ih (p++[b]) (cs++[c]) i' top' (by rw [List.append_assoc];exact hp) (hc.snoc hcm) (hsel.snoc s1 s2) ht
     rw [List.length_append,List.length_singleton,List.map_append] at this
     exact this
    have emu:mustS l (p++[b])=(mustS l p || !freeB l b):=by unfold mustS;rw [List.any_append];simp
    apply aggregate_inner.L1_step
    rw [if_pos (by rw [List.length_map];omega)]
    refine ⟨_,hget,_,aggregate_pick.spec (by omega),r4,e1,?_⟩
    generalize (grpsB l k a b).foldl (pstep G) (zeroG,false)=r3 at hpk ha
    have pk:r3.2=true→∃ c∈blk fV b,r3.1=mkG l k a c∧(∀ z∈c,satF z l=true∧r3.1.value=atV z a)∧∀ y∈b,satF y l=true→betterB G (atV y a) r3.1.value=false:=fun hr=>by
     obtain ⟨h1,h2,h3⟩:=hpk.some hr
     obtain ⟨c,hcm,ec⟩:=List.mem_map.1 h1
     refine ⟨c,hcm,ec.symm,fun z hz=>?_,fun y hy hs=>?_⟩
     ·have hq:=cls_ok (l:=l) (k:=k) (a:=a) hk hcm z hz
      rw [ec,h2] at hq
      exact ⟨hq.1.symm,hq.2 hq.1.symm⟩
     ·obtain ⟨c',hc',hyc⟩:=cls_of hy
      have hq':=cls_ok (l:=l) (k:=k) (a:=a) hk hc' y hyc
      have h5:=h3 _ (List.mem_map.2 ⟨c',hc',rfl⟩) (by rw [hq'.1];exact hs)
      rw [hq'.2 hs] at h5
      exact h5
    by_cases hfb:freeB l b=true
    ·rw [if_pos (by rw [e2];exact hfb)]
     have emf:mustS l (p++[b])=mustS l p:=by rw [emu,hfb];simp
     obtain ⟨m1,m2⟩:=e3 (by rw [e2];exact hfb)
     obtain ⟨ce,hce,ece⟩:=List.mem_map.1 m1
     have hno:∀ z∈ce,satF z l=false:=fun z hz=>by
      rw [← (cls_ok (k:=k) (a:=a) hk hce z hz).1,ece];exact m2
     have third:∀ (i':Int) (top':aggregate_group),TopI l k a G (p++[b]) i' top'→aggregate_inner.L3 (bs.map (grpsB l k a)) G (cs.map (mkG l k a)) (mustS l p) i' top'.ids top'.ok top'.value.Kind top'.value.Num top'.value.Str top'.sum.high top'.sum.low r3 r4 (p.length:Int) (fun q=>∃ cs,IsCh bs cs∧q=(cs.map (mkG l k a),anyS l bs)∧InnerR l a G bs cs):=fun i' top' ht=>by
      apply aggregate_inner.L3_step
      exact next ce r4 _ i' top' hce ece.symm emf.symm (fun _=>hno) (fun h=>by rw [hfb] at h;cases h) ht
     have keep:(∀ y∈b,satF y l=true→i≠-1∧betterB G (atV y a) top.value=false)→TopI l k a G (p++[b]) i top:=fun h=>by
      rcases htop with ⟨hi,hno⟩ | ⟨n,bt,ct,hi,hpn,hfbt,hct,htp,hok,hopt⟩
      ·refine .inl ⟨hi,fun b' hb' hf y hy=>?_⟩
       rcases List.mem_append.1 hb' with hb' | hb'
       ·exact hno b' hb' hf y hy
       ·rw [List.mem_singleton.1 hb'] at hy
        cases hs:satF y l with
        | false=>rfl
        | true=>exact absurd hi (h y hy hs).1
      ·refine .inr ⟨n,bt,ct,hi,by rw [List.getElem?_append_left (List.getElem?_eq_some_iff.1 hpn).1];exact hpn,hfbt,hct,htp,hok,fun b' hb' hf y hy hs=>?_⟩
       rcases List.mem_append.1 hb' with hb' | hb'
       ·exact hopt b' hb' hf y hy hs
       ·rw [List.mem_singleton.1 hb'] at hy
        exact (h y hy hs).2
     have take:r3.2=true→(i = -1∨betterB G r3.1.value top.value=true)→aggregate_inner.L2 (bs.map (grpsB l k a)) G (cs.map (mkG l k a)) (mustS l p) top.ids top.ok top.value.Kind top.value.Num top.value.Str top.sum.high top.sum.low (p.length:Int) r3 r4 (fun q=>∃ cs,IsCh bs cs∧q=(cs.map (mkG l k a),anyS l bs)∧InnerR l a G bs cs):=fun hr hbt=>by
      apply aggregate_inner.L2_step
      refine third (p.length:Int) r3.1 ?_
      obtain ⟨c,hcm,ec,hz,hy⟩:=pk hr
      refine .inr ⟨p.length,b,c,rfl,by rw [List.getElem?_append_right (Nat.le_refl _),Nat.sub_self];rfl,hfb,hcm,ec,(hpk.some hr).2.1,fun b' hb' hf y hyy hs=>?_⟩
      rcases List.mem_append.1 hb' with hb' | hb'
      ·rcases htop with ⟨hi,hno⟩ | ⟨n,bt,ct,hi,hpn,hfbt,hct,htp,hok,hopt⟩
       ·rw [hno b' hb' hf y hyy] at hs;cases hs
       ·have h6:=hopt b' hb' hf y hyy hs
        rcases hbt with hbt | hbt
        ·omega
        ·cases hcc:betterB G (atV y a) r3.1.value with
         | false=>rfl
         | true=>rw [better_trans hcc hbt] at h6;cases h6
      ·rw [List.mem_singleton.1 hb'] at hyy
       exact hy y hyy hs
     refine ⟨_,value_Compare.spec,?_⟩
     have ev:(⟨top.value.Kind,top.value.Num,top.value.Str⟩:api_Value)=top.value:=rfl
     rw [ev]
     by_cases hr:r3.2=true
     ·rw [if_pos hr]
      obtain ⟨c,hcm,ec,hz,hy⟩:=pk hr
      by_cases hi:i<0
      ·rw [if_pos hi]
       refine take hr (.inl ?_)
       rcases htop with ⟨hi2,_⟩ | ⟨n,_,_,hi2,_⟩
       ·exact hi2
       ·omega
      ·rw [if_neg hi]
       have kp:betterB G r3.1.value top.value=false→TopI l k a G (p++[b]) i top:=fun h=>keep fun y hyy hs=>⟨by omega,better_le (hy y hyy hs) h⟩
       cases G with
       | true=>
        rw [if_pos rfl]
        by_cases hcmp:0<cmpV r3.1.value top.value
        ·rw [if_pos hcmp];exact take hr (.inr (decide_eq_true hcmp))
        ·rw [if_neg hcmp,if_pos rfl];exact third i top (kp (decide_eq_false hcmp))
       | false=>
        rw [if_neg Bool.false_ne_true,if_neg Bool.false_ne_true]
        by_cases hcmp:cmpV r3.1.value top.value<0
        ·rw [if_pos hcmp];exact take hr (.inr (decide_eq_true hcmp))
        ·rw [if_neg hcmp];exact third i top (kp (decide_eq_false hcmp))
     ·rw [if_neg hr]
      refine third i top (keep fun y hyy hs=>?_)
      have:b.any (fun r=>satF r l)=false:=by rw [← ha];simpa using hr
      rw [List.any_eq_false] at this
      exact absurd hs (this y hyy)
    ·rw [if_neg (by rw [e2];exact hfb)]
     have hfb':freeB l b=false:=by simpa using hfb
     have hsat:=free_false hfb'
     have hr:r3.2=true:=by
      rw [ha]
      cases hbb:b with
      | nil=>exact absurd hbb (hb.ne b hbm)
      | cons r s=>exact List.any_eq_true.2 ⟨r,by simp,hsat r (by rw [hbb];simp)⟩
     obtain ⟨c,hcm,ec,hz,hy⟩:=pk hr
     refine next c r3 true i top hcm ec (by rw [emu,hfb'];simp) (fun h=>by rw [hfb'] at h;cases h) (fun _ z hzz y hyy=>?_) ?_
     ·rw [← (hz z hzz).2];exact hy y hyy (hsat y hyy)
     ·rcases htop with ⟨hi,hno⟩ | ⟨n,bt,ct,hi,hpn,hfbt,hct,htp,hok,hopt⟩
      ·refine .inl ⟨hi,fun b' hb' hf y hy=>?_⟩
       rcases List.mem_append.1 hb' with hb' | hb'
       ·exact hno b' hb' hf y hy
       ·rw [List.mem_singleton.1 hb',hfb'] at hf;cases hf
      ·refine .inr ⟨n,bt,ct,hi,by rw [List.getElem?_append_left (List.getElem?_eq_some_iff.1 hpn).1];exact hpn,hfbt,hct,htp,hok,fun b' hb' hf y hy hs=>?_⟩
       rcases List.mem_append.1 hb' with hb' | hb'
       ·exact hopt b' hb' hf y hy hs
       ·rw [List.mem_singleton.1 hb',hfb'] at hf;cases hf
  exact go bs [] [] (-1) zeroG rfl trivial trivial (.inl ⟨rfl,fun b hb=>by cases hb⟩))
 rw [g2] at h2
 exact ⟨cs,g1,h2,g3⟩
def OP (l:List api_Condition) (k a:Int) (bs:List (List api_Row)) (v:api_Value):Prop:=∃ R∈allB bs,bestF l (k == 4) a R=some v
theorem best_mem {l:List api_Condition} {g:Bool} {a:Int} {R:List api_Row} {v:api_Value} (h:bestF l g a R=some v):(∃ y∈R,satF y l=true∧v=atV y a)∧∀ y∈R,satF y l=true→betterB g (atV y a) v=false:=by
 unfold bestF at h
 have hb:=best_get h
 constructor
 ·obtain ⟨y,hy,e⟩:=List.mem_map.1 hb.1
  obtain ⟨hy,hs⟩:=List.mem_filter.1 hy
  exact ⟨y,hy,hs,e.symm⟩
 ·intro y hy hs
  exact hb.2 _ (List.mem_map.2 ⟨y,List.mem_filter.2 ⟨hy,hs⟩,rfl⟩)
theorem extreme_val {l:List api_Condition} {k a:Int} {great:Bool} {bs:List (List api_Row)} (hb:BsOK l a bs) (hk:k=3∨k=4) :
  ∃ cs,IsCh bs cs∧aggregate_extreme.C (bs.map (grpsB l k a)) k great (cs.map (mkG l k a),anyS l bs) ∧
   (anyS l bs=true→∃ m,aggregate_choice_result.C (cs.map (mkG l k a)) k (m,0)∧bestF l (k == 4) a cs.flatten=some m∧∀ v,OP l k a bs v→betterB great v m=false):=by
 have hk':k≠1∧k≠2:=⟨by omega,by omega⟩
 have hlen:=hb.len
 have hop:∀ v,OP l k a bs v→∃ R∈allB bs,∃ cs',IsCh bs cs'∧R=cs'.flatten∧bestF l (k == 4) a R=some v:=fun v hv=>by
  obtain ⟨R,hR,hbR⟩:=hv
  obtain ⟨cs',h1,h2⟩:=mem_allB.1 hR
  exact ⟨R,hR,cs',h1,h2,hbR⟩
 by_cases hg:(k == 4)=great
 ·obtain ⟨cs,h1,h2,h3⟩:=outer_val (great:=great) hb hk'
  obtain ⟨q,e1,e2⟩:=aggregate_extreme.enter (bs.map (grpsB l k a)) k great (fun q=>q=(cs.map (mkG l k a),anyS l bs)) (by
   rw [if_neg hk'.1,if_neg hk'.2,if_pos hg]
   exact ⟨_,h2,rfl⟩)
  rw [e1] at e2
  refine ⟨cs,h1,e2,fun hs=>?_⟩
  obtain ⟨b,hbm,y,hy,hsy⟩:=anyS_iff.1 hs
  obtain ⟨c,hcm,z,hz,hsz,_⟩:=h3 b hbm y hy hsy
  have hne:∃ c∈cs,∃ z∈c,satF z l=true:=⟨c,hcm,z,hz,hsz⟩
  have hl:=link (a:=a) (great:=(k == 4)) hk' h1 hne
  refine ⟨_,result_val (by omega) hk' h1 hl hne,hl,fun v hv=>?_⟩
  generalize ((cs.map (mkG l k a)).foldl (pstep (k == 4)) (zeroG,false)).1.value=m at hl
  obtain ⟨R,hR,cs',hc',rfl,hbR⟩:=hop v hv
  obtain ⟨⟨y',hy',hs',rfl⟩,_⟩:=best_mem hbR
  obtain ⟨c',hcm',hyc'⟩:=List.mem_flatten.1 hy'
  obtain ⟨b',hbm',hcb'⟩:=hc'.mem hcm'
  obtain ⟨c2,hc2,z2,hz2,hs2,hbt⟩:=h3 b' hbm' y' ((cls_fact hcb').2.2.1 y' hyc') hs'
  have:=(best_mem hl).2 z2 (List.mem_flatten.2 ⟨c2,hc2,hz2⟩) hs2
  rw [hg] at this
  exact better_le hbt this
 ·have hg2:great=!(k == 4):=by
   cases great<;>cases hkk:(k == 4)<;>simp_all
  obtain ⟨cs,h1,h2,h3,h4,h5⟩:=inner_val (G:=great) hb hk'
  obtain ⟨q,e1,e2⟩:=aggregate_extreme.enter (bs.map (grpsB l k a)) k great (fun q=>q=(cs.map (mkG l k a),anyS l bs)) (by
   rw [if_neg hk'.1,if_neg hk'.2,if_neg hg]
   exact ⟨_,h2,rfl⟩)
  rw [e1] at e2
  refine ⟨cs,h1,e2,fun hs=>?_⟩
  have hne:=h3 hs
  have hl:=link (a:=a) (great:=(k == 4)) hk' h1 hne
  refine ⟨_,result_val (by omega) hk' h1 hl hne,hl,fun v hv=>?_⟩
  generalize ((cs.map (mkG l k a)).foldl (pstep (k == 4)) (zeroG,false)).1.value=m at hl
  obtain ⟨R,hR,cs',hc',rfl,hbR⟩:=hop v hv
  obtain ⟨⟨z,hz,hsz,rfl⟩,_⟩:=best_mem hl
  obtain ⟨c,hcm,hzc⟩:=List.mem_flatten.1 hz
  by_cases hm:∃ b∈bs,freeB l b=false
  ·obtain ⟨b,hbm,hfb,hbest⟩:=h4 hm c hcm z hzc hsz
   obtain ⟨c',hcm',hcb'⟩:=hc'.has hbm
   obtain ⟨f1,f2,f3,f4⟩:=cls_fact hcb'
   cases hcc:c' with
   | nil=>exact absurd hcc f1
   | cons y s=>
    have hy:y∈c':=by rw [hcc];simp
    have o1:=hbest y (f3 y hy)
    have o2:=(best_mem hbR).2 y (List.mem_flatten.2 ⟨c',hcm',hy⟩) (free_false hfb y (f3 y hy))
    have o3:betterB great v (atV y a)=false:=by
     rw [hg2,better_not];exact o2
    exact better_le o3 o1
  ·have hall:∀ b∈bs,freeB l b=true:=fun b hbm=>by
    cases h:freeB l b with
    | true=>rfl
    | false=>exact absurd ⟨b,hbm,h⟩ hm
   obtain ⟨⟨y',hy',hs',rfl⟩,_⟩:=best_mem hbR
   obtain ⟨c',hcm',hyc'⟩:=List.mem_flatten.1 hy'
   obtain ⟨b',hbm',hcb'⟩:=hc'.mem hcm'
   exact h5 hall c hcm z hzc hsz b' hbm' y' ((cls_fact hcb').2.2.1 y' hyc') hs'
end Go.Own
namespace Go.Own
theorem numA_of {t:api_Table} (hn:TNum t) {a:Int} {r:api_Row} (hr:r∈t.Rows):NumA a r:=by
 unfold NumA atV
 cases h:lget r.Values a with
 | none=>exact ⟨by decide,by decide⟩
 | some v=>exact hn r hr v (List.mem_of_getElem? (lget_some h).2)
theorem bsOK {t:api_Table} {key:Int} {l:List api_Condition} {a:Int} (hn:TNum t) (hr:t.Rows.length≤8):BsOK l a (blk (fK key) t.Rows):=
 ⟨by rw [blk_len];exact Nat.le_trans keysB_len hr,by rw [blk_sum_len];exact hr,fun b hb=>(mem_blk hb).1,fun b hb r hrb=>numA_of hn ((mem_blk hb).2 r hrb).1⟩
def zeroRg:api_Range:=⟨⟨0,0,⟨#[]⟩⟩,⟨0,0,⟨#[]⟩⟩,false,false⟩
theorem every_loop {l:List api_Condition} {k a:Int} {bs:List (List api_Row)} (hb:BsOK l a bs) {r5 r6:api_Value×Int} {φ:api_Range×Int→Prop} {y:Bool} (h:φ (⟨r5.1,r6.1,true,y || mustS l bs⟩,0)) :
  aggregate_Of.L1 (bs.map (grpsB l k a)) r5 r6 y 0 φ:=by
 have hlen:=hb.len
 have go:∀ (rest p:List (List api_Row)),p++rest=bs→aggregate_Of.L1 (bs.map (grpsB l k a)) r5 r6 (y || mustS l p) (p.length:Int) φ:=by
  intro rest
  induction rest with
  | nil=>
   intro p hp
   rw [List.append_nil] at hp
   subst hp
   apply aggregate_Of.L1_step
   rw [if_neg (by rw [List.length_map];omega)]
   exact h
  | cons b rest ih=>
   intro p hp
   have hpl:p.length+rest.length+1=bs.length:=by rw [← hp];simp;omega
   have hbl:=hb.each (b:=b) (by rw [← hp];simp)
   have hget:lget (bs.map (grpsB l k a)) (p.length:Int)=some (grpsB l k a b):=by
    rw [lget_nat,List.getElem?_map,← hp,List.getElem?_append_right (Nat.le_refl _),Nat.sub_self];rfl
   have hgl:=grps_len (l:=l) (k:=k) (a:=a) (b:=b)
   obtain ⟨r4,e1,e2,e3,e4⟩:=aggregate_empty.spec (gs:=grpsB l k a b) (by omega)
   rw [grps_any] at e2
   have emu:mustS l (p++[b])=(mustS l p || !r4.2):=by unfold mustS freeB;rw [e2,List.any_append];simp
   have h3:=ih (p++[b]) (by rw [List.append_assoc];exact hp)
   rw [List.length_append,List.length_singleton,emu,← Bool.or_assoc] at h3
   apply aggregate_Of.L1_step
   rw [if_pos (by rw [List.length_map];omega)]
   refine ⟨_,hget,r4,e1,?_⟩
   cases hq:(y || mustS l p) with
   | true=>
    rw [if_pos rfl]
    apply aggregate_Of.L3_step
    rw [wrap_succ (by omega)]
    rw [hq,Bool.true_or] at h3
    exact h3
   | false=>
    rw [if_neg Bool.false_ne_true]
    apply aggregate_Of.L3_step
    rw [wrap_succ (by omega)]
    rw [hq,Bool.false_or] at h3
    exact h3
 have:=go bs [] rfl
 have e:(y || mustS l [])=y:=by unfold mustS;simp
 rw [e] at this
 exact this
inductive OfP (t : api_Table) (key : Int) (l : List api_Condition) (k a : Int) : api_Range × Int → Prop
  | err (h : allE t key l k a ≠ 0) : OfP t key l k a (zeroRg, allE t key l k a)
  | sum (h : allE t key l k a = 0) (hk : k = 1 ∨ k = 2) (cl ch : List (List api_Row)) (h1 : IsCh (blk (fK key) t.Rows) cl) (h2 : IsCh (blk (fK key) t.Rows) ch)
      (h3 : ∀ cs, IsCh (blk (fK key) t.Rows) cs → zs l k a cl.flatten ≤ zs l k a cs.flatten ∧ zs l k a cs.flatten ≤ zs l k a ch.flatten) :
      OfP t key l k a (if fitT (nrm (zs l k a cl.flatten)).1 = true ∧ fitT (nrm (zs l k a ch.flatten)).1 = true then (⟨numR (nrm (zs l k a cl.flatten)), numR (nrm (zs l k a ch.flatten)), true, true⟩, 0) else (zeroRg, 7))
  | none (h : allE t key l k a = 0) (hk : k = 3 ∨ k = 4) (hs : anyS l (blk (fK key) t.Rows) = false) : OfP t key l k a (zeroRg, 0)
  | val (h : allE t key l k a = 0) (hk : k = 3 ∨ k = 4) (hs : anyS l (blk (fK key) t.Rows) = true) (cl ch : List (List api_Row)) (ml mh : api_Value) (h1 : IsCh (blk (fK key) t.Rows) cl) (h2 : IsCh (blk (fK key) t.Rows) ch)
      (e1 : bestF l (k == 4) a cl.flatten = some ml) (e2 : bestF l (k == 4) a ch.flatten = some mh)
      (o1 : ∀ v, OP l k a (blk (fK key) t.Rows) v → betterB false v ml = false) (o2 : ∀ v, OP l k a (blk (fK key) t.Rows) v → betterB true v mh = false) :
      OfP t key l k a (⟨ml, mh, true, mustS l (blk (fK key) t.Rows)⟩, 0)
theorem allE_zero {t:api_Table} {key:Int} {l:List api_Condition} {k a:Int} (h:allE t key l k a=0):TV t∧condE t.Attrs.length l=0∧kindE t.Attrs.length k a=0:=by
 unfold allE at h
 by_cases h0:keyE t key=0
 ·rw [if_pos h0] at h
  by_cases h1:condE t.Attrs.length l=0
  ·rw [if_pos h1] at h
   exact ⟨(keyE_zero h0).1,h1,h⟩
  ·rw [if_neg h1] at h;exact absurd h h1
 ·rw [if_neg h0] at h;exact absurd h h0
theorem aggregate_Of.spec {t:api_Table} {key:Int} {l:List api_Condition} {k a:Int} (hn:TNum t) (hk:U32 key) (hr:t.Rows.length≤8) (hl:l.length≤1000):∃ r,aggregate_Of.C t key l k a r∧OfP t key l k a r:=by
 obtain ⟨q,h1,h2⟩:=aggregate_Of.enter t key l k a (OfP t key l k a) (by
  refine ⟨_,aggregate_check.specK hk hl,?_⟩
  by_cases h0:allE t key l k a=0
  ·rw [if_pos h0]
   obtain ⟨ht,hc,hkd⟩:=allE_zero h0
   obtain ⟨k1,k2,k3⟩:=kind_ok hkd
   have hb:BsOK l a (blk (fK key) t.Rows):=bsOK hn hr
   refine ⟨_,aggregate_groups.specG ht hn hk hl hc hkd,?_⟩
   by_cases hk12:k=1∨k=2
   ·obtain ⟨cl,l1,l2,l3⟩:=extreme_sums (great:=false) hb hk12
    obtain ⟨ch,g1,g2,g3⟩:=extreme_sums (great:=true) hb hk12
    have fin_:=OfP.sum h0 hk12 cl ch l1 g1 (fun cs hcs=>⟨l3 cs hcs,g3 cs hcs⟩)
    refine ⟨_,l2,_,g2,?_⟩
    rw [if_pos rfl]
    refine ⟨_,result_sums hb hk12 l1,?_⟩
    by_cases hf1:fitT (nrm (zs l k a cl.flatten)).1=true
    ·rw [if_pos hf1,if_pos rfl]
     refine ⟨_,result_sums hb hk12 g1,?_⟩
     by_cases hf2:fitT (nrm (zs l k a ch.flatten)).1=true
     ·rw [if_pos hf2,if_pos rfl]
      rw [if_pos ⟨hf1,hf2⟩] at fin_
      have e2:aggregate_Of.L2 ((blk (fK key) t.Rows).map (grpsB l k a)) (numR (nrm (zs l k a cl.flatten)),0) (numR (nrm (zs l k a ch.flatten)),0) true (OfP t key l k a):=by
       apply aggregate_Of.L2_step
       exact every_loop hb (by rw [Bool.true_or];exact fin_)
      by_cases hk1:k=1
      ·rw [if_pos hk1];exact e2
      ·rw [if_neg hk1,show (k == 2)=true by rw [show k=2 by omega];rfl];exact e2
     ·rw [if_neg hf2]
      rw [if_neg (by decide)]
      rw [if_neg (fun h=>hf2 h.2)] at fin_
      exact fin_
    ·rw [if_neg hf1,if_neg (by decide)]
     rw [if_neg (fun h=>hf1 h.1)] at fin_
     exact fin_
   ·have hk34:k=3∨k=4:=by omega
    obtain ⟨cl,l1,l2,l3⟩:=extreme_val (great:=false) hb hk34
    obtain ⟨ch,g1,g2,g3⟩:=extreme_val (great:=true) hb hk34
    refine ⟨_,l2,_,g2,?_⟩
    by_cases hs:anyS l (blk (fK key) t.Rows)=true
    ·rw [if_pos hs]
     obtain ⟨ml,a1,a2,a3⟩:=l3 hs
     obtain ⟨mh,b1,b2,b3⟩:=g3 hs
     refine ⟨_,a1,?_⟩
     rw [if_pos rfl]
     refine ⟨_,b1,?_⟩
     rw [if_pos rfl,if_neg (by omega),show (k == 2)=false from beq_false_of_ne (by omega)]
     apply aggregate_Of.L2_step
     refine every_loop hb ?_
     rw [Bool.false_or]
     exact OfP.val h0 hk34 hs cl ch ml mh l1 g1 a2 b2 a3 b3
    ·rw [if_neg hs]
     exact OfP.none h0 hk34 (by simpa using hs)
  ·rw [if_neg h0]
   exact OfP.err h0)
 exact ⟨q,h2,h1⟩
theorem drossref51_Error.specK {t:api_Table} {key:Int} {l:List api_Condition} {k a:Int} (hk:U32 key) (hl:l.length≤1000):drossref51_Error.C t key l k a (allE t key l k a):=by
 have hkk:drossref51_Kind.C t k a (kindE t.Attrs.length k a):=by
  obtain ⟨r,h1,h2⟩:=drossref51_Kind.enter t k a (fun r=>r=kindE t.Attrs.length k a) (kind_step (φ:=fun r=>r=kindE t.Attrs.length k a) rfl)
  rw [← h1];exact h2
 obtain ⟨r,h1,h2⟩:=drossref51_Error.enter t key l k a (fun r=>r=allE t key l k a) (by
  refine ⟨_,drossref51_Key.spec hk,?_⟩
  unfold allE
  by_cases h0:keyE t key=0
  ·rw [if_pos h0,if_pos h0]
   refine ⟨_,drossref51_Conditions.spec hl,?_⟩
   by_cases h1:condE t.Attrs.length l=0
   ·rw [if_pos h1,if_pos h1]
    exact ⟨_,hkk,rfl⟩
   ·rw [if_neg h1,if_neg h1]
  ·rw [if_neg h0,if_neg h0])
 rw [← h1];exact h2
def lessF (k:Int) (x y:drossref51_Result):Bool:=if k=2 then (if x.Sum.High<y.Sum.High then true else if x.Sum.High=y.Sum.High then decide (x.Sum.Low<y.Sum.Low) else false) else decide (cmpV x.Value y.Value<0)
def StrR (x:drossref51_Result):Prop:=x.Value.Str.toList.length<Big
theorem drossref51_Less.spec {x y:drossref51_Result} {k:Int} (hx:StrR x):drossref51_Less.C x y k (lessF k x y):=by
 obtain ⟨r,h1,h2⟩:=drossref51_Less.enter x y k (fun r=>r=lessF k x y) (by
  unfold lessF
  by_cases hk:k=2
  ·rw [if_pos hk,if_pos hk]
   split
   ·rfl
   ·split
    ·rfl
    ·rfl
  ·rw [if_neg hk,if_neg hk]
   exact ⟨_,drossref01_Compare.spec hx,rfl⟩)
 rw [← h1];exact h2
theorem lessF_irrefl {k:Int} {x:drossref51_Result}:lessF k x x=false:=by
 unfold lessF
 split
 ·rw [if_neg (by omega),if_pos rfl,decide_eq_false (by omega)]
 ·have:=(cmpV_zero (v:=x.Value) (w:=x.Value)).2 rfl
  rw [decide_eq_false (by omega)]
theorem lessF_two {x y:drossref51_Result}:lessF 2 x y=true↔(x.Sum.High<y.Sum.High∨(x.Sum.High=y.Sum.High∧x.Sum.Low<y.Sum.Low)):=by
 unfold lessF
 rw [if_pos rfl]
 by_cases h1:x.Sum.High<y.Sum.High
 ·rw [if_pos h1];exact ⟨fun _=>.inl h1,fun _=>rfl⟩
 ·rw [if_neg h1]
  by_cases h2:x.Sum.High=y.Sum.High
  ·rw [if_pos h2,decide_eq_true_iff]
   exact ⟨fun h=>.inr ⟨h2,h⟩,fun h=>by rcases h with h | h<;>omega⟩
  ·rw [if_neg h2]
   exact ⟨fun h=>by simp at h,fun h=>by rcases h with h | h<;>omega⟩
theorem lessF_trans {k:Int} {x y z:drossref51_Result} (h:lessF k x y=true) (h2:lessF k y z=true):lessF k x z=true:=by
 by_cases hk:k=2
 ·subst hk
  rw [lessF_two] at h h2 ⊢
  rcases h with h | h<;>rcases h2 with h2 | h2<;>omega
 ·unfold lessF at h h2 ⊢
  rw [if_neg hk] at h h2 ⊢
  exact decide_eq_true (cmpV_trans (of_decide_eq_true h) (of_decide_eq_true h2))
def bstep (k:Int) (b:drossref51_Bounds) (r:drossref51_Result):drossref51_Bounds:=
 if r.OK=true then ⟨if b.Some=true then (if lessF k r b.Least=true then r else b.Least) else r,if b.Some=true then (if lessF k b.Greatest r=true then r else b.Greatest) else r,true,b.Every⟩ else ⟨b.Least,b.Greatest,b.Some,false⟩
def zeroRs:drossref51_Result:=⟨⟨0,0,⟨#[]⟩⟩,⟨0,0⟩,false⟩
def zeroBd:drossref51_Bounds:=⟨zeroRs,zeroRs,false,true⟩
structure BdI (k:Int) (P:List drossref51_Result) (b:drossref51_Bounds):Prop where
 some:b.Some=P.any fun r=>r.OK
 every:b.Every=P.all fun r=>r.OK
 least:b.Some=true→b.Least∈P∧b.Least.OK=true∧∀ r∈P,r.OK=true→lessF k r b.Least=false
 greatest:b.Some=true→b.Greatest∈P∧b.Greatest.OK=true∧∀ r∈P,r.OK=true→lessF k b.Greatest r=false
 none:b.Some=false→b.Least=zeroRs∧b.Greatest=zeroRs
theorem bd_step {k:Int} {P:List drossref51_Result} {b:drossref51_Bounds} (h:BdI k P b) (r:drossref51_Result):BdI k (P++[r]) (bstep k b r):=by
 unfold bstep
 by_cases ho:r.OK=true
 ·rw [if_pos ho]
  refine ⟨by simp [List.any_append,ho],by simp [List.all_append,ho,h.every],fun _=>?_,fun _=>?_,fun h=>by cases h⟩
  ·by_cases hs:b.Some=true
   ·obtain ⟨h1,h2,h3⟩:=h.least hs
    simp only [if_pos hs]
    by_cases hl:lessF k r b.Least=true
    ·rw [if_pos hl]
     refine ⟨by simp,ho,fun x hx hxo=>?_⟩
     rcases List.mem_append.1 hx with hx | hx
     ·have h5:=h3 x hx hxo
      cases hc:lessF k x r with
      | false=>rfl
      | true=>rw [lessF_trans hc hl] at h5;cases h5
     ·rw [List.mem_singleton.1 hx];exact lessF_irrefl
    ·rw [if_neg hl]
     refine ⟨List.mem_append_left _ h1,h2,fun x hx hxo=>?_⟩
     rcases List.mem_append.1 hx with hx | hx
     ·exact h3 x hx hxo
     ·rw [List.mem_singleton.1 hx];simpa using hl
   ·simp only [if_neg hs]
    have hn:P.any (fun r=>r.OK)=false:=by rw [← h.some];simpa using hs
    refine ⟨by simp,ho,fun x hx hxo=>?_⟩
    rcases List.mem_append.1 hx with hx | hx
    ·rw [List.any_eq_false] at hn;exact absurd hxo (hn x hx)
    ·rw [List.mem_singleton.1 hx];exact lessF_irrefl
  ·by_cases hs:b.Some=true
   ·obtain ⟨h1,h2,h3⟩:=h.greatest hs
    simp only [if_pos hs]
    by_cases hl:lessF k b.Greatest r=true
    ·rw [if_pos hl]
     refine ⟨by simp,ho,fun x hx hxo=>?_⟩
     rcases List.mem_append.1 hx with hx | hx
     ·have h5:=h3 x hx hxo
      cases hc:lessF k r x with
      | false=>rfl
      | true=>rw [lessF_trans hl hc] at h5;cases h5
     ·rw [List.mem_singleton.1 hx];exact lessF_irrefl
    ·rw [if_neg hl]
     refine ⟨List.mem_append_left _ h1,h2,fun x hx hxo=>?_⟩
     rcases List.mem_append.1 hx with hx | hx
     ·exact h3 x hx hxo
     ·rw [List.mem_singleton.1 hx];simpa using hl
   ·simp only [if_neg hs]
    have hn:P.any (fun r=>r.OK)=false:=by rw [← h.some];simpa using hs
    refine ⟨by simp,ho,fun x hx hxo=>?_⟩
    rcases List.mem_append.1 hx with hx | hx
    ·rw [List.any_eq_false] at hn;exact absurd hxo (hn x hx)
    ·rw [List.mem_singleton.1 hx];exact lessF_irrefl
 ·rw [if_neg ho]
  have ho':r.OK=false:=by simpa using ho
  refine ⟨by simp [List.any_append,ho',h.some],by simp [List.all_append,ho'],fun hs=>?_,fun hs=>?_,fun hs=>h.none hs⟩
  ·obtain ⟨h1,h2,h3⟩:=h.least hs
   refine ⟨List.mem_append_left _ h1,h2,fun x hx hxo=>?_⟩
   rcases List.mem_append.1 hx with hx | hx
   ·exact h3 x hx hxo
   ·rw [List.mem_singleton.1 hx,ho'] at hxo;cases hxo
  ·obtain ⟨h1,h2,h3⟩:=h.greatest hs
   refine ⟨List.mem_append_left _ h1,h2,fun x hx hxo=>?_⟩
   rcases List.mem_append.1 hx with hx | hx
   ·exact h3 x hx hxo
   ·rw [List.mem_singleton.1 hx,ho'] at hxo;cases hxo
def zeroBo:drossref51_Bounds:=⟨zeroRs,zeroRs,false,false⟩
inductive RgP (t:api_Table) (key:Int) (l:List api_Condition) (k a:Int):drossref51_Bounds×Int→Prop
 | err (h:allE t key l k a≠0):RgP t key l k a (zeroBo,allE t key l k a)
 | ok (h:allE t key l k a=0) (b:drossref51_Bounds) (hb:BdI k ((allB (blk (fK key) t.Rows)).map fun R=>refR k a (R.filter fun r=>satF r l)) b) :
   RgP t key l k a (if fitT b.Least.Sum.High=true∧fitT b.Greatest.Sum.High=true then (b,0) else (zeroBo,7))
theorem refR_str {l:List api_Condition} {k a:Int} {R:List api_Row} (hv:∀ r∈R,∀ v∈r.Values,validV v=true):StrR (refR k a (R.filter fun r=>satF r l)):=by
 have hz:∀ q:ByteArray,q.toList=[]→q.toList.length<Big:=fun q h=>by rw [h];show 0<Big;unfold Big;omega
 unfold StrR refR
 split
 ·exact hz _ nil_toList
 ·split
  ·show (if _ then _ else _:api_Value).Str.toList.length<Big
   split
   ·exact hz _ nil_toList
   ·exact hz _ nil_toList
  ·show (Option.getD _ zeroV:api_Value).Str.toList.length<Big
   cases h:((R.filter fun r=>satF r l).map fun r=>atV r a).foldl (vstep (k == 4)) none with
   | none=>exact hz _ nil_toList
   | some m=>
    obtain ⟨y,hy,e⟩:=List.mem_map.1 (best_get h).1
    have hy:=(List.mem_filter.1 hy).1
    show m.Str.toList.length<Big
    rw [← e]
    unfold atV
    cases hg:lget y.Values a with
    | none=>exact hz _ nil_toList
    | some v=>
     have:=valid_str (hv y hy v (List.mem_of_getElem? (lget_some hg).2))
     show v.Str.toList.length<Big
     unfold Big;omega
theorem drossref51_Range.spec {t:api_Table} {key:Int} {l:List api_Condition} {k a:Int} (hk:U32 key) (hr:t.Rows.length≤8) (hl:l.length≤1000):∃ r,drossref51_Range.C t key l k a r∧RgP t key l k a r:=by
 obtain ⟨q,h1,h2⟩:=drossref51_Range.enter t key l k a (RgP t key l k a) (by
  refine ⟨_,drossref51_Error.specK hk hl,?_⟩
  by_cases h0:allE t key l k a=0
  ·rw [if_pos h0]
   obtain ⟨ht,hc,hkd⟩:=allE_zero h0
   obtain ⟨k1,k2,k3⟩:=kind_ok hkd
   refine ⟨_,drossref51_All.spec hr ht.strV hk,?_⟩
   have hch:∀ R∈allB (blk (fK key) t.Rows),R.length≤8∧∀ r∈R,r∈t.Rows:=fun R hR=>by
    obtain ⟨cs,hcs,rfl⟩:=mem_allB.1 hR
    have hsub:∀ r∈cs.flatten,r∈t.Rows:=fun r hr=>by
     obtain ⟨c,hcm,hrc⟩:=List.mem_flatten.1 hr
     obtain ⟨b,hbm,hcb⟩:=hcs.mem hcm
     exact ((mem_blk hbm).2 r ((cls_fact hcb).2.2.1 r hrc)).1
    have hlen:∀ {p cs:List (List api_Row)},IsCh p cs→cs.flatten.length≤(p.map List.length).sum:=by
     intro p
     induction p with
     | nil=>
      intro cs h
      cases cs with
      | nil=>simp
      | cons c cs=>exact h.elim
     | cons b p ih=>
      intro cs h
      cases cs with
      | nil=>exact h.elim
      | cons c cs=>
       have:=ih h.2
       have:=(cls_fact h.1).2.1
       rw [List.flatten_cons,List.length_append,List.map_cons,List.sum_cons];omega
    have:=hlen hcs
    rw [blk_sum_len] at this
    exact ⟨by omega,hsub⟩
   have hcount:(allB (blk (fK key) t.Rows)).length≤256:=by
    have hgen:∀ (bs acc:List (List api_Row)) (m:Nat),acc.length≤2^m→(bs.foldl withB acc).length≤2^(m+(bs.map List.length).sum):=by
     intro bs
     induction bs with
     | nil=>intro acc m h;simpa using h
     | cons b bs ih=>
      intro acc m h
      rw [List.foldl_cons,List.map_cons,List.sum_cons,← Nat.add_assoc]
      refine ih _ _ ?_
      rw [withB_len,Nat.pow_add]
      have hb1:(blk fV b).length≤b.length:=by rw [blk_len];exact keysB_len
      exact Nat.mul_le_mul h (Nat.le_trans hb1 (Nat.le_of_lt Nat.lt_two_pow_self))
    have:=hgen (blk (fK key) t.Rows) [[]] 0 (by simp)
    rw [blk_sum_len,Nat.zero_add] at this
    exact Nat.le_trans this (Nat.le_trans (Nat.pow_le_pow_right (by decide) hr) (by decide))
   generalize hall:allB (blk (fK key) t.Rows)=all at hch hcount
   have fin_:∀ b,BdI k (all.map fun R=>refR k a (R.filter fun r=>satF r l)) b→RgP t key l k a (if fitT b.Least.Sum.High=true∧fitT b.Greatest.Sum.High=true then (b,0) else (zeroBo,7)):=fun b hb=>by
    rw [← hall] at hb
    exact RgP.ok h0 b hb
   have go:∀ (rest p:List (List api_Row)) (b:drossref51_Bounds),p++rest=all→BdI k (p.map fun R=>refR k a (R.filter fun r=>satF r l)) b →
     drossref51_Range.L1 l k a b.Least.Value.Kind b.Least.Value.Num b.Least.Value.Str b.Least.Sum.High b.Least.Sum.Low b.Least.OK b.Greatest.Value.Kind b.Greatest.Value.Num b.Greatest.Value.Str b.Greatest.Sum.High b.Greatest.Sum.Low b.Greatest.OK b.Some b.Every all (p.length:Int) (RgP t key l k a):=by
    intro rest
    induction rest with
    | nil=>
     intro p b hp hb
     rw [List.append_nil] at hp
     subst hp
     have f:=fin_ b hb
     apply drossref51_Range.L1_step
     rw [if_neg (by omega)]
     refine ⟨_,fits_spec,?_⟩
     by_cases hf1:fitT b.Least.Sum.High=true
     ·rw [if_pos (by exact hf1)]
      refine ⟨_,fits_spec,?_⟩
      by_cases hf2:fitT b.Greatest.Sum.High=true
      ·rw [if_pos (by exact hf2)];rw [if_pos ⟨hf1,hf2⟩] at f;exact f
      ·rw [if_neg (by exact hf2)];rw [if_neg (fun h=>hf2 h.2)] at f;exact f
     ·rw [if_neg (by exact hf1)];rw [if_neg (fun h=>hf1 h.1)] at f;exact f
    | cons R rest ih=>
     intro p b hp hb
     have hpl:p.length+rest.length+1=all.length:=by rw [← hp];simp;omega
     have hRm:R∈all:=by rw [← hp];simp
     obtain ⟨hRl,hRs⟩:=hch R hRm
     have hget:lget all (p.length:Int)=some R:=by
      rw [lget_nat,← hp,List.getElem?_append_right (Nat.le_refl _),Nat.sub_self];rfl
     have hval:∀ r∈R,(∀ v∈r.Values,validV v=true)∧r.Values.length=t.Attrs.length:=fun r hr=>⟨(ht.strV r (hRs r hr)).1.1,(ht.strV r (hRs r hr)).2⟩
     have hfl:=List.length_filter_le (fun r=>satF r l) R
     have hst:=bd_step hb (refR k a (R.filter fun r=>satF r l))
     have hstr:StrR (refR k a (R.filter fun r=>satF r l)):=refR_str (fun r hr=>(hval r hr).1)
     have hgs:b.Some=true→StrR b.Greatest:=fun h=>by
      obtain ⟨R2,hR2,e⟩:=List.mem_map.1 (hb.greatest h).1
      rw [← e]
      refine refR_str (fun r hr=>?_)
      have:=hch R2 (by rw [← hp];exact List.mem_append_left _ hR2)
      exact (ht.strV r (this.2 r hr)).1.1
     apply drossref51_Range.L1_step
     rw [if_pos (by omega)]
     refine ⟨R,hget,_,drossref51_chosen.spec hl (by omega) (fun r hr=>⟨(hval r hr).1,fun c hcc=>by rw [(hval r hr).2];exact condE_ok hc c hcc⟩),_,drossref51_Of.spec (by omega) ⟨k1,k2⟩ (fun hk1 r hr=>?_),?_⟩
     ·have hr:=(List.mem_filter.1 hr).1
      obtain ⟨a0,a1⟩:=k3 hk1
      exact ⟨(hval r hr).1,a0,by rw [(hval r hr).2];exact a1⟩
     ·have hih:=fun b' (e:b'=bstep k b (refR k a (R.filter fun r=>satF r l)))=>ih (p++[R]) b' (by rw [List.append_assoc];exact hp) (by rw [List.map_append];rw [e];exact hst)
      generalize refR k a (R.filter fun r=>satF r l)=s at hih hstr
      have next:∀ b',b'=bstep k b s→drossref51_Range.L6 l k a b'.Least.Value.Kind b'.Least.Value.Num b'.Least.Value.Str b'.Least.Sum.High b'.Least.Sum.Low b'.Least.OK b'.Greatest.Value.Kind b'.Greatest.Value.Num b'.Greatest.Value.Str b'.Greatest.Sum.High b'.Greatest.Sum.Low b'.Greatest.OK b'.Some b'.Every all (p.length:Int) (RgP t key l k a):=fun b' hb'=>by
       apply drossref51_Range.L6_step
       rw [wrap_succ (by omega)]
       have:=hih b' hb'
       rw [List.length_append,List.length_singleton] at this
       exact this
      by_cases ho:s.OK=true
      ·rw [if_pos ho]
       have four:∀ L:drossref51_Result,L=(if b.Some=true then (if lessF k s b.Least=true then s else b.Least) else s)→drossref51_Range.L4 l k a L.Value.Kind L.Value.Num L.Value.Str L.Sum.High L.Sum.Low L.OK b.Greatest.Value.Kind b.Greatest.Value.Num b.Greatest.Value.Str b.Greatest.Sum.High b.Greatest.Sum.Low b.Greatest.OK b.Some b.Every all (p.length:Int) s (RgP t key l k a):=fun L hL=>by
        have two:∀ G:drossref51_Result,G=(if b.Some=true then (if lessF k b.Greatest s=true then s else b.Greatest) else s)→drossref51_Range.L2 l k a L.Value.Kind L.Value.Num L.Value.Str L.Sum.High L.Sum.Low L.OK G.Value.Kind G.Value.Num G.Value.Str G.Sum.High G.Sum.Low G.OK b.Some b.Every all (p.length:Int) (RgP t key l k a):=fun G hG=>by
         apply drossref51_Range.L2_step
         exact next ⟨L,G,true,b.Every⟩ (by unfold bstep;rw [if_pos ho,← hL,← hG])
        apply drossref51_Range.L4_step
        by_cases hs:b.Some=true
        ·rw [if_pos hs]
         refine ⟨_,drossref51_Less.spec (x:=b.Greatest) (hgs hs),?_⟩
         by_cases hg:lessF k b.Greatest s=true
         ·rw [if_pos hg]
          apply drossref51_Range.L3_step
          exact two s (by rw [if_pos hs,if_pos hg])
         ·rw [if_neg hg]
          exact two b.Greatest (by rw [if_pos hs,if_neg hg])
        ·rw [if_neg hs]
         apply drossref51_Range.L3_step
         exact two s (by rw [if_neg hs])
       by_cases hs:b.Some=true
       ·rw [if_pos hs]
        refine ⟨_,drossref51_Less.spec (x:=s) (y:=b.Least) hstr,?_⟩
        by_cases hg:lessF k s b.Least=true
        ·rw [if_pos hg]
         apply drossref51_Range.L5_step
         exact four s (by rw [if_pos hs,if_pos hg])
        ·rw [if_neg hg]
         exact four b.Least (by rw [if_pos hs,if_neg hg])
       ·rw [if_neg hs]
        apply drossref51_Range.L5_step
        exact four s (by rw [if_neg hs])
      ·rw [if_neg ho]
       exact next ⟨b.Least,b.Greatest,b.Some,false⟩ (by unfold bstep;rw [if_neg ho])
   exact go all [] zeroBd rfl ⟨rfl,rfl,fun h=>(by cases h),fun h=>(by cases h),fun _=>⟨rfl,rfl⟩⟩
  ·rw [if_neg h0]
   exact RgP.err h0)
 exact ⟨q,h2,h1⟩
end Go.Own
namespace Go.Own
theorem perm_upd {α κ:Type} [DecidableEq κ] {x:α} {kx:κ} {g:κ→List α}:∀ {ks:List κ},ks.Nodup→kx∈ks→((ks.map fun k=>if kx=k then g k++[x] else g k).flatten).Perm ((ks.map g).flatten++[x])
 | [],_,hm=>by cases hm
 | k::r,hn,hm=>by
  obtain ⟨h1,h2⟩:=List.nodup_cons.1 hn
  rw [List.map_cons,List.map_cons,List.flatten_cons,List.flatten_cons]
  by_cases h:kx=k
  ·rw [if_pos h]
   have e:(r.map fun k=>if kx=k then g k++[x] else g k)=r.map g:=List.map_congr_left fun k2 hk2=>if_neg (fun e=>h1 (by rw [← h,e];exact hk2))
   rw [e,List.append_assoc,List.append_assoc]
   exact List.Perm.append_left _ List.perm_append_comm
  ·rw [if_neg h,List.append_assoc]
   have:kx∈r:=by
    rcases List.mem_cons.1 hm with e | e
    ·exact absurd e h
    ·exact e
   exact List.Perm.append_left _ (perm_upd h2 this)
theorem blk_perm {α κ:Type} [DecidableEq κ] {f:α→κ} {l:List α}:((blk f l).flatten).Perm l:=by
 refine snocB_ind (p:=fun l=>((blk f l).flatten).Perm l) (List.Perm.refl _) (fun l x ih=>?_) l
 rw [blk_snoc]
 split
 ·rename_i h
  exact (perm_upd keysB_nodup h).trans (ih.append_right [x])
 ·rw [List.flatten_append]
  simp only [List.flatten_cons,List.flatten_nil,List.append_nil]
  exact ih.append_right [x]
theorem zs_perm {l:List api_Condition} {k a:Int} {p q:List api_Row} (h:p.Perm q):zs l k a p=zs l k a q:=by
 induction h with
 | nil=>rfl
 | cons x _ ih=>rw [zs_cons,zs_cons,ih]
 | swap x y l=>rw [zs_cons,zs_cons,zs_cons,zs_cons];omega
 | trans _ _ h1 h2=>rw [h1,h2]
theorem best_perm {vs ws:List api_Value} {g:Bool} (h:vs.Perm ws):vs.foldl (vstep g) none=ws.foldl (vstep g) none:=by
 cases hf:vs.foldl (vstep g) none with
 | none=>
  have:=best_nil hf
  subst this
  rw [← h.nil_eq];rfl
 | some m=>
  have hb:=best_get hf
  exact (best_of ⟨h.mem_iff.1 hb.1,fun v hv=>hb.2 v (h.mem_iff.2 hv)⟩).symm
theorem bestF_perm {l:List api_Condition} {g:Bool} {a:Int} {p q:List api_Row} (h:p.Perm q):bestF l g a p=bestF l g a q:=best_perm ((h.filter _).map _)
theorem fitT_iff {h:Int}:fitT h=true↔-2147483648≤h∧h≤2147483647:=by
 unfold fitT
 split
 ·rename_i h1;rw [decide_eq_true_iff];exact ⟨fun h=>⟨h1,h⟩,fun h=>h.2⟩
 ·rename_i h1;exact ⟨fun h=>absurd h Bool.false_ne_true,fun h=>absurd h.1 h1⟩
theorem valR_sum {l:List api_Condition} {k a:Int} {rows:List api_Row} (hk:k=1∨k=2) (hl:rows.length≤100) (hn:∀ r∈rows,NumA a r) :
  valR l k a rows=if fitT (nrm (zs l k a rows)).1=true then (numR (nrm (zs l k a rows)),true,0) else (zeroV,false,7):=by
 have hle:=List.length_filter_le (fun r=>satF r l) rows
 unfold valR
 by_cases h1:k=1
 ·rw [if_pos h1]
  subst h1
  rw [zs_one]
  have e1:nrm (((rows.filter fun r=>satF r l).length:Nat):Int)=(0,(((rows.filter fun r=>satF r l).length:Nat):Int)):=by
   unfold nrm;congr 1<;>omega
  rw [e1,if_pos (by exact fitT_iff.2 ⟨by omega,by omega⟩),numR_count (by omega)]
 ·have h2:k=2:=by omega
  rw [if_neg h1,if_pos h2]
  have:=sum_nrm (l:=l) (k:=k) (a:=a) hk (rs:=rows.filter fun r=>satF r l) (z:=0) (m:=0) (by omega) (by simp) (fun r hr=>⟨hn r (List.mem_filter.1 hr).1,(List.mem_filter.1 hr).2⟩)
  rw [Int.zero_add,zs_filter] at this
  have e:sumF l k a rows=nrm (zs l k a rows):=this
  rw [e]
theorem valR_perm {l:List api_Condition} {k a:Int} {p q:List api_Row} (h:p.Perm q) (hl:p.length≤100) (hn:∀ r∈p,NumA a r):valR l k a p=valR l k a q:=by
 by_cases hk:k=1∨k=2
 ·rw [valR_sum hk hl hn,valR_sum hk (by rw [← h.length_eq];exact hl) (fun r hr=>hn r (h.mem_iff.2 hr)),zs_perm h]
 ·unfold valR
  rw [if_neg (fun e=>hk (.inl e)),if_neg (fun e=>hk (.inl e)),if_neg (fun e=>hk (.inr e)),if_neg (fun e=>hk (.inr e)),bestF_perm h]
end Go.Own
namespace Go.Own
theorem index_int {l:List Int} {x:Int} (hl:l.length≤1000000):slices_Index_sint64_int64.C l x (ixI (fun a=>decide (x=a)) l):=by
 obtain ⟨q,h1,h2⟩:=slices_Index_sint64_int64.enter l x (fun q=>q=ixI (fun a=>decide (x=a)) l) (by
  refine index_loop (l:=l) (p:=fun a=>decide (x=a)) (L:=fun i=>slices_Index_sint64_int64.L1 l x i _) (φ:=fun q=>q=ixI (fun a=>decide (x=a)) l) ?_ ?_ rfl
  ·intro h;apply slices_Index_sint64_int64.L1_step;rw [if_neg (by omega)];exact h
  ·intro k a hk hlt h
   apply slices_Index_sint64_int64.L1_step
   rw [if_pos (by omega)]
   refine ⟨a,lget_of hk,?_⟩
   rw [wrap_succ (by omega)]
   by_cases hx:x=a
   ·rw [if_pos hx];rw [if_pos (decide_eq_true hx)] at h;exact h
   ·rw [if_neg hx];rw [if_neg (by rw [decide_eq_true_iff];exact hx)] at h;exact h)
 rw [← h1];exact h2
theorem contains_int {l:List Int} {x:Int} (hl:l.length≤1000000):slices_Contains_sint64_int64.C l x (decide (x∈l)):=by
 obtain ⟨q,h1,h2⟩:=slices_Contains_sint64_int64.enter l x (fun q=>q=decide (x∈l)) ⟨_,index_int hl,by
  rw [ixI_any,Bool.eq_iff_iff,List.any_eq_true,decide_eq_true_iff]
  constructor
  ·rintro ⟨y,hy,he⟩
   rw [of_decide_eq_true he];exact hy
  ·exact fun hy=>⟨x,hy,decide_eq_true rfl⟩⟩
 rw [← h1];exact h2
theorem ids_sorted {n:Nat}:∀ {l:List api_Row} {last:Int},rowsF n last l=0→l.Pairwise (fun a b=>a.ID<b.ID)
 | [],_,_=>.nil
 | r::l,last,h=>by
  have h':rowsF n r.ID l=0:=by
   simp only [rowsF] at h
   split at h
   ·cases h
   ·split at h
    ·split at h
     ·exact h
     ·cases h
    ·cases h
  exact .cons (fun x hx=>(rowsF_row h' x hx).2.2) (ids_sorted h')
theorem TV.id_inj {t:api_Table} (h:TV t) {p q:api_Row} (hp:p∈t.Rows) (hq:q∈t.Rows) (he:p.ID=q.ID):p=q:=by
 have hs:=ids_sorted h.rows
 obtain ⟨i,hi,rfl⟩:=List.getElem_of_mem hp
 obtain ⟨j,hj,rfl⟩:=List.getElem_of_mem hq
 rw [List.pairwise_iff_getElem] at hs
 rcases Nat.lt_trichotomy i j with hij | hij | hij
 ·have:=hs i j hi hj hij;omega
 ·subst hij;rfl
 ·have:=hs j i hj hi hij;omega
theorem table_copied.spec {r:api_Row} (h:r.Values.length≤1000):table_copied.C r r:=by
 obtain ⟨q,h1,h2⟩:=table_copied.enter r (fun q=>q=r) ⟨by omega,rfl⟩
 subst h1;exact h2
theorem drossref03_cp.spec {r:api_Row} (h:r.Values.length≤1000):drossref03_cp.C r r:=by
 obtain ⟨q,h1,h2⟩:=drossref03_cp.enter r (fun q=>q=r) ⟨by omega,rfl⟩
 subst h1;exact h2
theorem table_with.spec {t:api_Table} {l:List api_Row} (ha:t.Attrs.length≤1000) (hl:l.length≤1000000) (hr:∀ r∈l,r.Values.length≤1000):table_with.C t l ⟨t.Name,t.Attrs,l⟩:=by
 obtain ⟨q,h1,h2⟩:=table_with.enter t l (fun q=>q=⟨t.Name,t.Attrs,l⟩) ⟨by omega,by
  have go:∀ (r:List api_Row) (i:Nat) (acc:List api_Row),l.drop i=r→acc.length≤i→acc++r=l→table_with.L1 l t acc (i:Int) (fun q=>q=⟨t.Name,t.Attrs,l⟩):=by
   intro r
   induction r with
   | nil=>
    intro i acc hd hi h
    have:=drop_ge hd
    apply table_with.L1_step
    rw [if_neg (by omega)]
    rw [List.append_nil] at h
    rw [h]
   | cons x r ih=>
    intro i acc hd hi h
    have hlt:=drop_lt hd
    apply table_with.L1_step
    rw [if_pos (by omega)]
    refine ⟨x,lget_drop hd,_,table_copied.spec (hr x (List.mem_of_getElem? (drop_get hd))),by omega,?_⟩
    rw [wrap_succ (by omega)]
    exact ih (i+1) _ (drop_next hd) (by rw [List.length_append];simp;omega) (by rw [List.append_assoc];exact h)
  exact go l 0 [] rfl (by simp) rfl⟩
 subst h1;exact h2
theorem drossref03_With.spec {t:api_Table} {l:List api_Row} (ha:t.Attrs.length≤1000) (hl:l.length≤1000000) (hr:∀ r∈l,r.Values.length≤1000):drossref03_With.C t l ⟨t.Name,t.Attrs,l⟩:=by
 obtain ⟨q,h1,h2⟩:=drossref03_With.enter t l (fun q=>q=⟨t.Name,t.Attrs,l⟩) ⟨by omega,by
  have go:∀ (r:List api_Row) (i:Nat) (acc:List api_Row),l.drop i=r→acc.length≤i→acc++r=l→drossref03_With.L1 l t acc (i:Int) (fun q=>q=⟨t.Name,t.Attrs,l⟩):=by
   intro r
   induction r with
   | nil=>
    intro i acc hd hi h
    have:=drop_ge hd
    apply drossref03_With.L1_step
    rw [if_neg (by omega)]
    rw [List.append_nil] at h
    rw [h]
   | cons x r ih=>
    intro i acc hd hi h
    have hlt:=drop_lt hd
    apply drossref03_With.L1_step
    rw [if_pos (by omega)]
    refine ⟨x,lget_drop hd,_,drossref03_cp.spec (hr x (List.mem_of_getElem? (drop_get hd))),by omega,?_⟩
    rw [wrap_succ (by omega)]
    exact ih (i+1) _ (drop_next hd) (by rw [List.length_append];simp;omega) (by rw [List.append_assoc];exact h)
  exact go l 0 [] rfl (by simp) rfl⟩
 subst h1;exact h2
theorem table_Keep.spec {t:api_Table} {ids:List Int} (ht:TV t) (hi:ids.length≤1000000):table_Keep.C t ids ⟨t.Name,t.Attrs,t.Rows.filter fun r=>decide (r.ID∈ids)⟩:=by
 have hR:=ht.rowsOK
 have hR1:=hR.1
 have hle:=List.length_filter_le (fun r:api_Row=>decide (r.ID∈ids)) t.Rows
 have hA:=ht.na
 obtain ⟨q,h1,h2⟩:=table_Keep.enter t ids (fun q=>q=⟨t.Name,t.Attrs,t.Rows.filter fun r=>decide (r.ID∈ids)⟩) (by
  have go:∀ (r:List api_Row) (i:Nat) (acc:List api_Row),t.Rows.drop i=r→acc.length≤i→(acc++r.filter fun r=>decide (r.ID∈ids))=(t.Rows.filter fun r=>decide (r.ID∈ids))→table_Keep.L1 t ids acc (i:Int) (fun q=>q=⟨t.Name,t.Attrs,t.Rows.filter fun r=>decide (r.ID∈ids)⟩):=by
   intro r
   induction r with
   | nil=>
    intro i acc hd hi h
    have:=drop_ge hd
    rw [List.filter_nil,List.append_nil] at h
    apply table_Keep.L1_step
    rw [if_neg (by omega),h]
    exact ⟨_,table_with.spec (by omega) (by omega) (fun r hr=>by have:=(hR.2 r (List.mem_filter.1 hr).1).1.2;omega),rfl⟩
   | cons x r ih=>
    intro i acc hd hi2 h
    have hlt:=drop_lt hd
    apply table_Keep.L1_step
    rw [if_pos (by omega)]
    refine ⟨x,lget_drop hd,_,contains_int hi,?_⟩
    rw [List.filter_cons] at h
    by_cases hs:x.ID∈ids
    ·rw [if_pos (decide_eq_true hs)] at h ⊢
     refine ⟨by omega,?_⟩
     apply table_Keep.L2_step
     rw [wrap_succ (by omega)]
     exact ih (i+1) _ (drop_next hd) (by rw [List.length_append];simp;omega) (by rw [List.append_assoc];exact h)
    ·rw [if_neg (by rw [decide_eq_true_iff];exact hs)] at h ⊢
     apply table_Keep.L2_step
     rw [wrap_succ (by omega)]
     exact ih (i+1) _ (drop_next hd) (by omega) h
  exact go t.Rows 0 [] rfl (by simp) rfl)
 subst h1;exact h2
def restT (t:api_Table) (ids:List Int):api_Table:=⟨t.Name,t.Attrs,t.Rows.filter fun r=>decide (r.ID∈ids)⟩
theorem rowsF_mono {n:Nat}:∀ {l:List api_Row} {a b:Int},rowsF n b l=0→a≤b→rowsF n a l=0
 | [],_,_,_,_=>rfl
 | r::l,a,b,h,hab=>by
  simp only [rowsF] at h ⊢
  by_cases h1:r.ID≤b
  ·rw [if_pos h1] at h;exact absurd h (by decide)
  ·rw [if_neg h1] at h
   rw [if_neg (by omega)];exact h
theorem rowsF_sub {n:Nat} {l m:List api_Row} (h:m.Sublist l):∀ {last:Int},rowsF n last l=0→rowsF n last m=0:=by
 induction h with
 | slnil=>exact fun h=>h
 | cons r _ ih=>
  intro last h
  simp only [rowsF] at h
  split at h
  ·exact absurd h (by decide)
  ·rename_i h1
   split at h
   ·split at h
    ·exact rowsF_mono (ih h) (by omega)
    ·exact absurd h (by decide)
   ·exact absurd h (by decide)
 | cons_cons r _ ih=>
  intro last h
  simp only [rowsF] at h ⊢
  split at h
  ·exact absurd h (by decide)
  ·rename_i h1
   rw [if_neg h1]
   split at h
   ·rename_i h2
    rw [if_pos h2]
    split at h
    ·rename_i h3
     rw [if_pos h3];exact ih h
    ·exact absurd h (by decide)
   ·exact absurd h (by decide)
theorem restT_TV {t:api_Table} (h:TV t) {ids:List Int}:TV (restT t ids) where
 name:=h.name
 na:=h.na
 nr:=Nat.le_trans (List.length_filter_le _ _) h.nr
 names:=h.names
 rows:=rowsF_sub List.filter_sublist h.rows
theorem restT_sub {t:api_Table} {ids:List Int}:∀ r∈(restT t ids).Rows,r∈t.Rows:=fun _ hr=>(List.mem_filter.1 hr).1
theorem rows_nodup {t:api_Table} (h:TV t):t.Rows.Nodup:=by
 refine (ids_sorted h.rows).imp ?_
 intro a b hab e
 rw [e] at hab
 omega
theorem restT_perm {t:api_Table} (h:TV t) {R:List api_Row} (hn:R.Nodup) (hs:∀ r∈R,r∈t.Rows):((restT t (R.map api_Row.ID)).Rows).Perm R:=by
 refine (List.perm_ext_iff_of_nodup ((rows_nodup h).sublist List.filter_sublist) hn).2 fun x=>?_
 show x∈t.Rows.filter _↔_
 rw [List.mem_filter,decide_eq_true_iff,List.mem_map]
 constructor
 ·rintro ⟨hx,y,hy,e⟩
  rw [← h.id_inj (hs y hy) hx e];exact hy
 ·exact fun hx=>⟨hs x hx,x,hx,rfl⟩
end Go.Own
namespace Go.Own
theorem ch_sub:∀ {bs cs:List (List api_Row)},IsCh bs cs→cs.flatten.Sublist bs.flatten
 | [],[],_=>List.Sublist.refl _
 | [],_::_,h=>h.elim
 | _::_,[],h=>h.elim
 | b::bs,c::cs,h=>by
  rw [List.flatten_cons,List.flatten_cons]
  refine List.Sublist.append ?_ (ch_sub h.2)
  have h1:=h.1
  unfold blk at h1
  obtain ⟨k,_,rfl⟩:=List.mem_map.1 h1
  exact List.filter_sublist
theorem ch_part {t:api_Table} (ht:TV t) {key:Int} {cs:List (List api_Row)} (h:IsCh (blk (fK key) t.Rows) cs):cs.flatten.Nodup∧∀ r∈cs.flatten,r∈t.Rows:=by
 have hp:((blk (fK key) t.Rows).flatten).Perm t.Rows:=blk_perm
 exact ⟨(hp.nodup_iff.2 (rows_nodup ht)).sublist (ch_sub h),fun r hr=>hp.mem_iff.1 ((ch_sub h).subset hr)⟩
theorem part_val {t:api_Table} (ht:TV t) (hn:TNum t) (h8:t.Rows.length≤8) {key:Int} {l:List api_Condition} {k a:Int} (hc:condE t.Attrs.length l=0) (hk:kindE t.Attrs.length k a=0) {cs:List (List api_Row)} (h:IsCh (blk (fK key) t.Rows) cs) :
  valT (restT t (cs.flatten.map api_Row.ID)) l k a=valR l k a cs.flatten:=by
 obtain ⟨h1,h2⟩:=ch_part ht h
 have hp:=restT_perm ht h1 h2
 have hT:=restT_TV ht (ids:=cs.flatten.map api_Row.ID)
 have hle:(restT t (cs.flatten.map api_Row.ID)).Rows.length≤t.Rows.length:=List.length_filter_le _ _
 unfold valT valE
 rw [if_pos (tableF_iff.2 hT)]
 have ec:condE (restT t (cs.flatten.map api_Row.ID)).Attrs.length l=0:=hc
 have ek:kindE (restT t (cs.flatten.map api_Row.ID)).Attrs.length k a=0:=hk
 rw [if_pos ec,ek,if_pos rfl]
 exact valR_perm hp (by omega) fun r hr=>numA_of hn (restT_sub r hr)
theorem fold_len:∀ {bs acc:List (List api_Row)} {m:Nat},acc.length≤2^m→(bs.foldl withB acc).length≤2^(m+(bs.map List.length).sum)
 | [],acc,m,h=>by simpa using h
 | b::bs,acc,m,h=>by
  rw [List.foldl_cons,List.map_cons,List.sum_cons,← Nat.add_assoc]
  refine fold_len ?_
  rw [withB_len,Nat.pow_add]
  have hb1:(blk fV b).length≤b.length:=by rw [blk_len];exact keysB_len
  exact Nat.mul_le_mul h (Nat.le_trans hb1 (Nat.le_of_lt Nat.lt_two_pow_self))
theorem allB_len {t:api_Table} {key:Int} (h8:t.Rows.length≤8):(allB (blk (fK key) t.Rows)).length≤256:=by
 have h:=fold_len (bs:=blk (fK key) t.Rows) (acc:=[[]]) (m:=0) (by simp)
 rw [blk_sum_len,Nat.zero_add] at h
 exact Nat.le_trans h (Nat.pow_le_pow_right (n:=2) (by decide) h8)
end Go.Own
namespace Go.Own
theorem drossref03_Has.spec {l:List Int} {x:Int} (hl:l.length≤1000000):drossref03_Has.C l x (decide (x∈l)):=by
 obtain ⟨q,h1,h2⟩:=drossref03_Has.enter l x (fun q=>q=decide (x∈l)) (by
  have go:∀ (r:List Int) (i:Nat),l.drop i=r→(∀ y∈l.take i,y≠x)→drossref03_Has.L1 l x (i:Int) (fun q=>q=decide (x∈l)):=by
   intro r
   induction r with
   | nil=>
    intro i hd hn
    have:=drop_ge hd
    apply drossref03_Has.L1_step
    rw [if_neg (by omega)]
    rw [List.take_of_length_le this] at hn
    exact (decide_eq_false fun hx=>hn x hx rfl).symm
   | cons y r ih=>
    intro i hd hn
    have hlt:=drop_lt hd
    apply drossref03_Has.L1_step
    rw [if_pos (by omega)]
    refine ⟨y,lget_drop hd,?_⟩
    by_cases hy:y=x
    ·rw [if_pos hy]
     subst hy
     exact (decide_eq_true (List.mem_of_getElem? (drop_get hd))).symm
    ·rw [if_neg hy,wrap_succ (by omega)]
     refine ih (i+1) (drop_next hd) fun z hz=>?_
     rw [List.take_add_one,drop_get hd] at hz
     rcases List.mem_append.1 hz with hz | hz
     ·exact hn z hz
     ·simp at hz;rw [hz];exact hy
  exact go l 0 rfl (fun y hy=>by simp at hy))
 subst h1;exact h2
theorem drossref03_Keep.spec {t:api_Table} {ids:List Int} (ht:TV t) (hi:ids.length≤1000000):drossref03_Keep.C t ids (restT t ids):=by
 have hR:=ht.rowsOK
 have hR1:=hR.1
 have hle:=List.length_filter_le (fun r:api_Row=>decide (r.ID∈ids)) t.Rows
 have hA:=ht.na
 obtain ⟨q,h1,h2⟩:=drossref03_Keep.enter t ids (fun q=>q=restT t ids) (by
  have go:∀ (r:List api_Row) (i:Nat) (acc:List api_Row),t.Rows.drop i=r→acc.length≤i→(acc++r.filter fun r=>decide (r.ID∈ids))=(t.Rows.filter fun r=>decide (r.ID∈ids))→drossref03_Keep.L1 t ids acc (i:Int) (fun q=>q=restT t ids):=by
   intro r
   induction r with
   | nil=>
    intro i acc hd hi h
    have:=drop_ge hd
    rw [List.filter_nil,List.append_nil] at h
    apply drossref03_Keep.L1_step
    rw [if_neg (by omega),h]
    exact ⟨_,drossref03_With.spec (by omega) (by omega) (fun r hr=>by have:=(hR.2 r (List.mem_filter.1 hr).1).1.2;omega),rfl⟩
   | cons x r ih=>
    intro i acc hd hi2 h
    have hlt:=drop_lt hd
    apply drossref03_Keep.L1_step
    rw [if_pos (by omega)]
    refine ⟨x,lget_drop hd,_,drossref03_Has.spec hi,?_⟩
    rw [List.filter_cons] at h
    by_cases hs:x.ID∈ids
    ·rw [if_pos (decide_eq_true hs)] at h ⊢
     refine ⟨by omega,?_⟩
     apply drossref03_Keep.L2_step
     rw [wrap_succ (by omega)]
     exact ih (i+1) _ (drop_next hd) (by rw [List.length_append];simp;omega) (by rw [List.append_assoc];exact h)
    ·rw [if_neg (by rw [decide_eq_true_iff];exact hs)] at h ⊢
     apply drossref03_Keep.L2_step
     rw [wrap_succ (by omega)]
     exact ih (i+1) _ (drop_next hd) (by omega) h
  exact go t.Rows 0 [] rfl (by simp) rfl)
 subst h1;exact h2
theorem drossref51_Sorted.spec {t:api_Table} {R:List api_Row} (ht:TV t) (hi:R.length≤100000):drossref51_Sorted.C t R (restT t (R.map api_Row.ID)):=by
 obtain ⟨q,h1,h2⟩:=drossref51_Sorted.enter t R (fun q=>q=restT t (R.map api_Row.ID)) (by
  have go:∀ (r:List api_Row) (i:Nat) (acc:List Int),R.drop i=r→acc.length=i→acc++r.map api_Row.ID=R.map api_Row.ID→drossref51_Sorted.L1 t R acc (i:Int) (fun q=>q=restT t (R.map api_Row.ID)):=by
   intro r
   induction r with
   | nil=>
    intro i acc hd hl h
    have:=drop_ge hd
    rw [List.map_nil,List.append_nil] at h
    apply drossref51_Sorted.L1_step
    rw [if_neg (by omega),h]
    exact ⟨_,drossref03_Keep.spec ht (by rw [List.length_map];omega),rfl⟩
   | cons x r ih=>
    intro i acc hd hl h
    have hlt:=drop_lt hd
    apply drossref51_Sorted.L1_step
    rw [if_pos (by omega)]
    refine ⟨x,lget_drop hd,by omega,?_⟩
    rw [wrap_succ (by omega)]
    exact ih (i+1) _ (drop_next hd) (by rw [List.length_append];simp;omega) (by rw [List.append_assoc];exact h)
  exact go R 0 [] rfl rfl rfl)
 subst h1;exact h2
end Go.Own
namespace Go.Own
theorem drossref03_Strings.self {l:List ByteArray} (hn:l.length<Big):drossref03_Strings.C l l true:=by
 obtain ⟨r,h1,h2⟩:=drossref03_Strings.enter l l (fun r=>r=true) (by
  rw [if_pos rfl]
  have:∀ (r:List ByteArray) (k:Nat),l.drop k=r→drossref03_Strings.L1 l l k (fun r=>r=true):=by
   intro r
   induction r with
   | nil=>
    intro k hd
    have:=drop_ge hd
    apply drossref03_Strings.L1_step
    rw [if_neg (by omega)]
   | cons s r ih=>
    intro k hd
    have hlt:=drop_lt hd
    apply drossref03_Strings.L1_step
    rw [if_pos (by omega)]
    refine ⟨s,lget_drop hd,s,lget_drop hd,?_⟩
    rw [if_pos rfl,wrap_succ (by unfold Big at hn;omega)]
    exact ih (k+1) (drop_next hd)
  exact this l 0 rfl)
 subst h1;exact h2
theorem drossref03_EqualRows.self {a:api_Row} (h:StrOK a.Values):drossref03_EqualRows.C a a true:=by
 obtain ⟨r,h1,h2⟩:=drossref03_EqualRows.enter a a (fun r=>r=true) (by
  rw [if_pos rfl]
  exact ⟨_,drossref01_Same.spec h,decide_eq_true rfl⟩)
 subst h1;exact h2
end Go.Own
namespace Go.Own
theorem drossref03_EqualRows.any {a b:api_Row} (h:StrOK a.Values):∃ r,drossref03_EqualRows.C a b r∧(a=b→r=true):=by
 by_cases e:a=b
 ·subst e;exact ⟨true,drossref03_EqualRows.self h,fun _=>rfl⟩
 ·obtain ⟨r,_,h2⟩:=drossref03_EqualRows.enter a b (fun _=>True) (by
   by_cases h0:a.ID=b.ID
   ·rw [if_pos h0];exact ⟨_,drossref01_Same.spec h,trivial⟩
   ·rw [if_neg h0];trivial)
  exact ⟨r,h2,fun h=>absurd h e⟩
theorem drossref03_Equal.any {x y:api_Table} (hn:x.Name=y.Name) (ha:x.Attrs=y.Attrs) (hl:x.Attrs.length<Big) (hr:x.Rows.length<Big) (h:∀ r∈x.Rows,StrOK r.Values):∃ r,drossref03_Equal.C x y r∧(x=y→r=true):=by
 obtain ⟨r,h1,h2⟩:=drossref03_Equal.enter x y (fun r=>x=y→r=true) (by
  rw [if_pos (by rw [hn])]
  refine ⟨true,by rw [← ha];exact drossref03_Strings.self hl,?_⟩
  rw [if_pos rfl]
  by_cases hlen:(x.Rows.length:Int)=(y.Rows.length:Int)
  ·rw [if_pos hlen]
   have:∀ (q:List api_Row) (k:Nat),x.Rows.drop k=q→drossref03_Equal.L1 x y k (fun r=>x=y→r=true):=by
    intro q
    induction q with
    | nil=>
     intro k hd
     have:=drop_ge hd
     apply drossref03_Equal.L1_step
     rw [if_neg (by omega)]
     exact fun _=>rfl
    | cons s q ih=>
     intro k hd
     have hlt:=drop_lt hd
     have hg:=List.getElem?_eq_getElem (l:=y.Rows) (i:=k) (by omega)
     obtain ⟨r,r1,r2⟩:=drossref03_EqualRows.any (a:=s) (b:=y.Rows[k]'(by omega)) (h s (List.mem_of_getElem? (drop_get hd)))
     apply drossref03_Equal.L1_step
     rw [if_pos (by omega)]
     refine ⟨s,lget_drop hd,_,lget_of hg,r,r1,?_⟩
     by_cases hrt:r=true
     ·rw [if_pos hrt,wrap_succ (by unfold Big at hr;omega)]
      exact ih (k+1) (drop_next hd)
     ·rw [if_neg hrt]
      intro e
      subst e
      have hs:=drop_get hd
      rw [hg] at hs
      exact absurd (r2 (Option.some.inj hs).symm) hrt
   exact this x.Rows 0 rfl
  ·rw [if_neg hlen]
   intro e
   subst e
   exact absurd rfl hlen)
 exact ⟨r,h2,h1⟩
end Go.Own
namespace Go.Own
def ExtP (t:api_Table) (key:Int) (l:List api_Condition) (k a:Int) (great:Bool) (cs:List (List api_Row)):Prop:=
 ((k=1∨k=2)∧∀ cs',IsCh (blk (fK key) t.Rows) cs'→leZ great (zs l k a cs.flatten) (zs l k a cs'.flatten)) ∨
 ((k=3∨k=4)∧∃ m,bestF l (k == 4) a cs.flatten=some m∧∀ v,OP l k a (blk (fK key) t.Rows) v→betterB great v m=false)
def noTab:api_Table:=⟨⟨#[]⟩,[],[]⟩
structure RepP (t:api_Table) (key:Int) (l:List api_Condition) (k a:Int) (great:Bool) (w:api_Range×Int) (r:api_Table×Int):Prop where
 err:w.2≠0→r=(noTab,w.2)
 none:w.2=0→w.1.Some=false→r=(noTab,4)
 some:w.2=0→w.1.Some=true→∃ cs,IsCh (blk (fK key) t.Rows) cs∧r=(restT t (cs.flatten.map api_Row.ID),0)∧ExtP t key l k a great cs
theorem aggregate_repair.spec {t:api_Table} {key:Int} {l:List api_Condition} {k a:Int} {great:Bool} (hn:TNum t) (hk:U32 key) (hr:t.Rows.length≤8) (hl:l.length≤1000) :
  ∃ w,OfP t key l k a w∧∃ r,aggregate_repair.C t key l k a great r∧RepP t key l k a great w r:=by
 obtain ⟨w,w1,w2⟩:=aggregate_Of.spec (t:=t) (key:=key) (l:=l) (k:=k) (a:=a) hn hk hr hl
 refine ⟨w,w2,?_⟩
 obtain ⟨q,h1,h2⟩:=aggregate_repair.enter t key l k a great (RepP t key l k a great w) (by
  refine ⟨w,w1,?_⟩
  by_cases h0:w.2=0
  ·rw [if_pos h0]
   by_cases hs:w.1.Some=true
   ·rw [if_pos hs]
    have hE:allE t key l k a=0:=by
     cases w2 with
     | err h=>exact absurd h0 h
     | sum h=>exact h
     | none h=>exact h
     | val h=>exact h
    obtain ⟨ht,hc,hkd⟩:=allE_zero hE
    obtain ⟨k1,k2,k3⟩:=kind_ok hkd
    have hb:BsOK l a (blk (fK key) t.Rows):=bsOK hn hr
    obtain ⟨cs,b,c1,c2,c3⟩:∃ cs b,IsCh (blk (fK key) t.Rows) cs∧aggregate_extreme.C ((blk (fK key) t.Rows).map (grpsB l k a)) k great (cs.map (mkG l k a),b)∧ExtP t key l k a great cs:=by
     by_cases hk12:k=1∨k=2
     ·obtain ⟨cs,l1,l2,l3⟩:=extreme_sums (great:=great) hb hk12
      exact ⟨cs,_,l1,l2,.inl ⟨hk12,l3⟩⟩
     ·have hk34:k=3∨k=4:=by omega
      obtain ⟨cs,l1,l2,l3⟩:=extreme_val (great:=great) hb hk34
      have hany:anyS l (blk (fK key) t.Rows)=true:=by
       cases w2 with
       | err h=>exact absurd h0 h
       | sum _ h=>exact absurd h hk12
       | none _ _ h=>cases hs
       | val _ _ h=>exact h
      obtain ⟨m,_,m2,m3⟩:=l3 hany
      exact ⟨cs,_,l1,l2,.inr ⟨hk34,m,m2,m3⟩⟩
    refine ⟨_,aggregate_groups.specG ht hn hk hl hc hkd,_,c2,?_⟩
    obtain ⟨f1,f2⟩:=ch_big (k:=k) hb c1
    have hfin:RepP t key l k a great w (restT t (cs.flatten.map api_Row.ID),0):=⟨fun h=>absurd h0 h,fun _ h=>(by rw [hs] at h;cases h),fun _ _=>⟨cs,c1,rfl,c3⟩⟩
    have hcl:=c1.len
    have hbl:=hb.len
    have go:∀ (rest p:List (List api_Row)),p++rest=cs→aggregate_repair.L1 t (cs.map (mkG l k a),b) (p.flatten.map api_Row.ID) (p.length:Int) (RepP t key l k a great w):=by
     intro rest
     induction rest with
     | nil=>
      intro p hp
      rw [List.append_nil] at hp
      subst hp
      apply aggregate_repair.L1_step
      rw [if_neg (by show ¬ (p.length:Int)<((p.map (mkG l k a)).length:Int);rw [List.length_map];omega)]
      exact ⟨_,table_Keep.spec ht (by rw [List.length_map];omega),hfin⟩
     | cons c rest ih=>
      intro p hp
      have hpl:p.length+rest.length+1=cs.length:=by rw [← hp];simp;omega
      have hget:lget (cs.map (mkG l k a)) (p.length:Int)=some (mkG l k a c):=by
       rw [lget_nat,List.getElem?_map,← hp,List.getElem?_append_right (Nat.le_refl _),Nat.sub_self];rfl
      have hfl:p.flatten.length+c.length≤8:=by
       have e:cs.flatten=p.flatten++(c++rest.flatten):=by rw [← hp];simp
       rw [e,List.length_append,List.length_append] at f1
       omega
      apply aggregate_repair.L1_step
      rw [if_pos (by show (p.length:Int)<((cs.map (mkG l k a)).length:Int);rw [List.length_map];omega)]
      refine ⟨_,hget,?_,?_⟩
      ·rw [mkG_ids,List.length_map,List.length_map];omega
      ·rw [wrap_succ (by omega),mkG_ids]
       have:=ih (p++[c]) (by rw [List.append_assoc];exact hp)
       rw [List.length_append,List.length_singleton,List.flatten_append,List.map_append] at this
       simp only [List.flatten_cons,List.flatten_nil,List.append_nil] at this
       exact this
    exact go cs [] rfl
   ·rw [if_neg hs]
    exact ⟨fun h=>absurd h0 h,fun _ _=>rfl,fun _ h=>absurd h hs⟩
  ·rw [if_neg h0]
   exact ⟨fun _=>rfl,fun h=>absurd h h0,fun h=>absurd h h0⟩)
 exact ⟨q,h2,h1⟩
theorem aggregate_Least.spec {t:api_Table} {key:Int} {l:List api_Condition} {k a:Int} (hn:TNum t) (hk:U32 key) (hr:t.Rows.length≤8) (hl:l.length≤1000) :
  ∃ w,OfP t key l k a w∧∃ r,aggregate_Least.C t key l k a r∧RepP t key l k a false w r:=by
 obtain ⟨w,w1,r,r1,r2⟩:=aggregate_repair.spec (t:=t) (key:=key) (l:=l) (k:=k) (a:=a) (great:=false) hn hk hr hl
 obtain ⟨q,h1,h2⟩:=aggregate_Least.enter t key l k a (fun q=>q=r) ⟨r,r1,rfl⟩
 subst h1
 exact ⟨w,w1,q,h2,r2⟩
theorem aggregate_Greatest.spec {t:api_Table} {key:Int} {l:List api_Condition} {k a:Int} (hn:TNum t) (hk:U32 key) (hr:t.Rows.length≤8) (hl:l.length≤1000) :
  ∃ w,OfP t key l k a w∧∃ r,aggregate_Greatest.C t key l k a r∧RepP t key l k a true w r:=by
 obtain ⟨w,w1,r,r1,r2⟩:=aggregate_repair.spec (t:=t) (key:=key) (l:=l) (k:=k) (a:=a) (great:=true) hn hk hr hl
 obtain ⟨q,h1,h2⟩:=aggregate_Greatest.enter t key l k a (fun q=>q=r) ⟨r,r1,rfl⟩
 subst h1
 exact ⟨w,w1,q,h2,r2⟩
theorem ext_value {t:api_Table} {key:Int} {l:List api_Condition} {k a:Int} {great:Bool} (hn:TNum t) (hr:t.Rows.length≤8) {w:api_Range×Int} (hw:OfP t key l k a w) (h0:w.2=0) (hs:w.1.Some=true)
  {cs:List (List api_Row)} (hc:IsCh (blk (fK key) t.Rows) cs) (he:ExtP t key l k a great cs):valR l k a cs.flatten=(if great=true then w.1.Greatest else w.1.Least,true,0):=by
 have hb:BsOK l a (blk (fK key) t.Rows):=bsOK hn hr
 cases hw with
 | err h=>exact absurd h0 h
 | none _ _ h=>cases hs
 | sum _ hk cl ch c1 c2 c3=>
  obtain ⟨f1,f2⟩:=ch_big (k:=k) hb hc
  rcases he with ⟨_,he⟩ | ⟨h,_⟩
  ·by_cases hf:fitT (nrm (zs l k a cl.flatten)).1=true∧fitT (nrm (zs l k a ch.flatten)).1=true
   ·rw [if_pos hf,valR_sum hk (by omega) f2]
    obtain ⟨o1,o2⟩:=c3 cs hc
    have h1:=he cl c1
    have h2:=he ch c2
    cases great with
    | false=>
     unfold leZ at h1
     rw [if_neg Bool.false_ne_true] at h1
     rw [show zs l k a cs.flatten=zs l k a cl.flatten by omega,if_pos hf.1]
     rfl
    | true=>
     unfold leZ at h2
     rw [if_pos rfl] at h2
     rw [show zs l k a cs.flatten=zs l k a ch.flatten by omega,if_pos hf.2]
     rfl
   ·rw [if_neg hf] at h0;exact absurd h0 (by decide)
  ·omega
 | val _ hk hyes cl ch ml mh c1 c2 e1 e2 o1 o2=>
  rcases he with ⟨h,_⟩ | ⟨_,m,m1,m2⟩
  ·omega
  ·have hop:OP l k a (blk (fK key) t.Rows) m:=⟨cs.flatten,mem_allB.2 ⟨cs,hc,rfl⟩,m1⟩
   have hopl:OP l k a (blk (fK key) t.Rows) ml:=⟨cl.flatten,mem_allB.2 ⟨cl,c1,rfl⟩,e1⟩
   have hoph:OP l k a (blk (fK key) t.Rows) mh:=⟨ch.flatten,mem_allB.2 ⟨ch,c2,rfl⟩,e2⟩
   unfold valR
   rw [if_neg (by omega),if_neg (by omega),m1]
   cases great with
   | false=>rw [better_total (m2 ml hopl) (o1 m hop)];rfl
   | true=>rw [better_total (m2 mh hoph) (o2 m hop)];rfl
theorem drossref51_Is.yes {t:api_Table} {key:Int} {cs:List (List api_Row)} (ht:TV t) (hk:U32 key) (h8:t.Rows.length≤8) (hc:IsCh (blk (fK key) t.Rows) cs):drossref51_Is.C t key (restT t (cs.flatten.map api_Row.ID)) true:=by
 obtain ⟨q,h1,h2⟩:=drossref51_Is.enter t key (restT t (cs.flatten.map api_Row.ID)) (fun q=>q=true) (by
  refine ⟨_,drossref51_All.spec h8 ht.strV hk,?_⟩
  have hlen:=allB_len (key:=key) h8
  have hna:=ht.na
  have hin:cs.flatten∈allB (blk (fK key) t.Rows):=mem_allB.2 ⟨cs,hc,rfl⟩
  have go:∀ (r:List (List api_Row)) (i:Nat),(allB (blk (fK key) t.Rows)).drop i=r→cs.flatten∈r→drossref51_Is.L1 t (restT t (cs.flatten.map api_Row.ID)) (allB (blk (fK key) t.Rows)) (i:Int) (fun q=>q=true):=by
   intro r
   induction r with
   | nil=>intro i hd hm;cases hm
   | cons R r ih=>
    intro i hd hm
    have hlt:=drop_lt hd
    have hR:R.length≤8:=by
     obtain ⟨cs',hc',rfl⟩:=mem_allB.1 (List.mem_of_getElem? (drop_get hd))
     have h1:=(ch_sub hc').length_le
     rw [(blk_perm (f:=fK key) (l:=t.Rows)).length_eq] at h1
     omega
    have hle:(restT t (R.map api_Row.ID)).Rows.length≤t.Rows.length:=List.length_filter_le _ _
    obtain ⟨b,b1,b2⟩:=drossref03_Equal.any (x:=restT t (R.map api_Row.ID)) (y:=restT t (cs.flatten.map api_Row.ID)) rfl rfl (by show t.Attrs.length<Big;unfold Big;omega) (by unfold Big;omega) (fun r hr=>(ht.strV r (restT_sub r hr)).1.ok)
    apply drossref51_Is.L1_step
    rw [if_pos (by omega)]
    refine ⟨R,lget_drop hd,_,drossref51_Sorted.spec ht (by omega),b,b1,?_⟩
    by_cases hb:b=true
    ·rw [if_pos hb]
    ·rw [if_neg hb,wrap_succ (by omega)]
     refine ih (i+1) (drop_next hd) ?_
     rcases List.mem_cons.1 hm with e | e
     ·exact absurd (b2 (by rw [e])) hb
     ·exact e
  exact go _ 0 rfl hin)
 subst h1;exact h2
end Go.Own
namespace Go.Own
theorem ch_some:∀ {bs:List (List api_Row)},(∀ b∈bs,b≠[])→∃ cs,IsCh bs cs
 | [],_=>⟨[],trivial⟩
 | b::bs,h=>by
  obtain ⟨cs,hc⟩:=ch_some (bs:=bs) (fun b hb=>h b (by simp [hb]))
  obtain ⟨c0,cr,e⟩:=blk_cons (h b (by simp))
  exact ⟨c0::cs,by rw [e];simp,hc⟩
theorem ch_free {l:List api_Condition}:∀ {bs:List (List api_Row)},(∀ b∈bs,freeB l b=true)→∃ cs,IsCh bs cs∧∀ c∈cs,∀ z∈c,satF z l=false
 | [],_=>⟨[],trivial,fun c h=>by cases h⟩
 | b::bs,h=>by
  obtain ⟨cs,hc,hn⟩:=ch_free (l:=l) (bs:=bs) (fun b hb=>h b (by simp [hb]))
  have hf:=h b (by simp)
  unfold freeB at hf
  obtain ⟨y,hy,hs⟩:=List.any_eq_true.1 hf
  obtain ⟨c,hcm,hyc⟩:=cls_of hy
  refine ⟨c::cs,⟨hcm,hc⟩,fun d hd z hz=>?_⟩
  rcases List.mem_cons.1 hd with rfl | hd
  ·rw [sat_same ((cls_fact hcm).2.2.2 z hz y hyc)]
   simpa using hs
  ·exact hn d hd z hz
theorem best_isSome {l:List api_Condition} {g:Bool} {a:Int} {R:List api_Row}:(bestF l g a R).isSome=true↔∃ y∈R,satF y l=true:=by
 constructor
 ·intro h
  obtain ⟨v,hv⟩:=Option.isSome_iff_exists.1 h
  obtain ⟨⟨y,hy,hs,_⟩,_⟩:=best_mem hv
  exact ⟨y,hy,hs⟩
 ·rintro ⟨y,hy,hs⟩
  obtain ⟨v,hv⟩:=best_is (l:=l) (g:=g) (a:=a) (rows:=R) (List.any_eq_true.2 ⟨y,hy,hs⟩)
  rw [hv];rfl
theorem refR_val {l:List api_Condition} {k a:Int} {R:List api_Row} (hk:k=3∨k=4):refR k a (R.filter fun r=>satF r l)=⟨(bestF l (k == 4) a R).getD zeroV,⟨0,0⟩,(bestF l (k == 4) a R).isSome⟩:=by
 unfold refR
 rw [if_neg (by omega),if_neg (by omega)];rfl
theorem resZ_one {z:Int}:resZ 1 z=⟨⟨1,z,⟨#[]⟩⟩,⟨0,0⟩,true⟩:=if_pos rfl
theorem resZ_two {z:Int}:resZ 2 z=⟨if fitT (nrm z).1=true then numR (nrm z) else ⟨1,0,⟨#[]⟩⟩,⟨(nrm z).1,(nrm z).2⟩,true⟩:=if_neg (by omega)
theorem resZ_lt {k x y:Int} (hk:k=1∨k=2):lessF k (resZ k x) (resZ k y)=true↔x<y:=by
 by_cases h1:k=1
 ·subst h1
  rw [resZ_one,resZ_one]
  unfold lessF
  rw [if_neg (by omega),decide_eq_true_iff,cmpV_lt]
  show ((1:Int)<1∨((1:Int)=1∧(x<y∨(x=y∧cmpL _ _<0))))↔x<y
  rw [cmpL_refl]
  constructor
  ·rintro (h | ⟨_,h | ⟨_,h⟩⟩)<;>omega
  ·intro h;exact .inr ⟨rfl,.inl h⟩
 ·have h2:k=2:=by omega
  subst h2
  rw [lessF_two,resZ_two,resZ_two]
  exact (nrm_lt (a:=x) (b:=y)).symm
theorem resZ_ok {k z:Int}:(resZ k z).OK=true:=by unfold resZ;split<;>rfl
theorem zs_small {l:List api_Condition} {a:Int} {R:List api_Row} (h:R.length≤8):0≤zs l 1 a R∧zs l 1 a R≤8:=by
 rw [zs_one]
 have:=List.length_filter_le (fun r=>satF r l) R
 omega
theorem resZ_value {k z:Int} (hk:k=1∨k=2) (hz:k=1→0≤z∧z≤8):(fitT (resZ k z).Sum.High=true↔fitT (nrm z).1=true)∧(fitT (nrm z).1=true→(resZ k z).Value=numR (nrm z)):=by
 unfold resZ
 by_cases h1:k=1
 ·rw [if_pos h1]
  have hz:=hz h1
  have e1:nrm z=(0,z):=by unfold nrm;congr 1<;>omega
  refine ⟨?_,fun _=>?_⟩
  ·rw [e1]
  ·rw [e1]
   have:=numR_count (c:=z.toNat) (by omega)
   rw [show ((z.toNat:Nat):Int)=z by omega] at this
   rw [this]
 ·rw [if_neg h1]
  exact ⟨Iff.rfl,fun h=>if_pos h⟩
theorem of_range {t:api_Table} {key:Int} {l:List api_Condition} {k a:Int} (hn:TNum t) (hr:t.Rows.length≤8) {r:api_Range×Int} {s:drossref51_Bounds×Int} (h1:OfP t key l k a r) (h2:RgP t key l k a s) :
  r.2=s.2∧(s.2=0→r.1=⟨s.1.Least.Value,s.1.Greatest.Value,s.1.Some,s.1.Every⟩)∧(s.2≠0→r.1=zeroRg):=by
 cases h2 with
 | err h=>
  cases h1 with
  | err _=>exact ⟨rfl,fun h3=>absurd h3 h,fun _=>rfl⟩
  | sum h0=>exact absurd h0 h
  | none h0=>exact absurd h0 h
  | val h0=>exact absurd h0 h
 | ok h b hb=>
  have hbs:BsOK l a (blk (fK key) t.Rows):=bsOK hn hr
  obtain ⟨cs0,hcs0⟩:=ch_some hbs.ne
  have hmem:∀ cs,IsCh (blk (fK key) t.Rows) cs→refR k a (cs.flatten.filter fun r=>satF r l)∈(allB (blk (fK key) t.Rows)).map fun R=>refR k a (R.filter fun r=>satF r l):=fun cs hcs=>List.mem_map.2 ⟨cs.flatten,mem_allB.2 ⟨cs,hcs,rfl⟩,rfl⟩
  have hback:∀ x∈(allB (blk (fK key) t.Rows)).map (fun R=>refR k a (R.filter fun r=>satF r l)),∃ cs,IsCh (blk (fK key) t.Rows) cs∧x=refR k a (cs.flatten.filter fun r=>satF r l):=fun x hx=>by
   obtain ⟨R,hR,rfl⟩:=List.mem_map.1 hx
   obtain ⟨cs,hcs,rfl⟩:=mem_allB.1 hR
   exact ⟨cs,hcs,rfl⟩
  cases h1 with
  | err h0=>exact absurd h h0
  | sum h0 hk cl ch c1 c2 c3=>
   have hres:∀ cs,IsCh (blk (fK key) t.Rows) cs→refR k a (cs.flatten.filter fun r=>satF r l)=resZ k (zs l k a cs.flatten):=fun cs hcs=>by
    obtain ⟨g1,g2⟩:=ch_big (k:=k) hbs hcs
    exact refR_sum hk (by omega) g2
   have hsome:b.Some=true:=by
    rw [hb.some,List.any_eq_true]
    exact ⟨_,hmem cs0 hcs0,by rw [hres cs0 hcs0];exact resZ_ok⟩
   have hev:b.Every=true:=by
    rw [hb.every,List.all_eq_true]
    intro x hx
    obtain ⟨cs,hcs,rfl⟩:=hback x hx
    rw [hres cs hcs];exact resZ_ok
   have hsm:∀ cs,IsCh (blk (fK key) t.Rows) cs→k=1→0≤zs l k a cs.flatten∧zs l k a cs.flatten≤8:=fun cs hcs hk1=>by
    subst hk1
    exact zs_small (ch_big (k:=1) hbs hcs).1
   have hl:b.Least=resZ k (zs l k a cl.flatten):=by
    obtain ⟨m1,m2,m3⟩:=hb.least hsome
    obtain ⟨cs,hcs,e⟩:=hback _ m1
    rw [hres cs hcs] at e
    have h5:=m3 _ (hmem cl c1) (by rw [hres cl c1];exact resZ_ok)
    rw [hres cl c1,e] at h5
    have h6:=(c3 cs hcs).1
    have h7:¬ zs l k a cl.flatten<zs l k a cs.flatten:=fun h=>by rw [(resZ_lt hk).2 h] at h5;cases h5
    rw [e]
    congr 1
    omega
   have hg:b.Greatest=resZ k (zs l k a ch.flatten):=by
    obtain ⟨m1,m2,m3⟩:=hb.greatest hsome
    obtain ⟨cs,hcs,e⟩:=hback _ m1
    rw [hres cs hcs] at e
    have h5:=m3 _ (hmem ch c2) (by rw [hres ch c2];exact resZ_ok)
    rw [hres ch c2,e] at h5
    have h6:=(c3 cs hcs).2
    have h7:¬ zs l k a cs.flatten<zs l k a ch.flatten:=fun h=>by rw [(resZ_lt hk).2 h] at h5;cases h5
    rw [e]
    congr 1
    omega
   have f1:=resZ_value (z:=zs l k a cl.flatten) hk (hsm cl c1)
   have f2:=resZ_value (z:=zs l k a ch.flatten) hk (hsm ch c2)
   rw [hl,hg]
   by_cases hf:fitT (nrm (zs l k a cl.flatten)).1=true∧fitT (nrm (zs l k a ch.flatten)).1=true
   ·rw [if_pos hf,if_pos ⟨f1.1.2 hf.1,f2.1.2 hf.2⟩]
    refine ⟨rfl,fun _=>?_,fun h=>absurd rfl h⟩
    show (⟨_,_,true,true⟩:api_Range)=⟨b.Least.Value,b.Greatest.Value,b.Some,b.Every⟩
    rw [hsome,hev,hl,hg,f1.2 hf.1,f2.2 hf.2]
   ·rw [if_neg hf,if_neg (fun h=>hf ⟨f1.1.1 h.1,f2.1.1 h.2⟩)]
    exact ⟨rfl,fun h=>absurd h (by decide),fun _=>rfl⟩
  | none h0 hk hs=>
   have hno:∀ x∈(allB (blk (fK key) t.Rows)).map (fun R=>refR k a (R.filter fun r=>satF r l)),x.OK=false:=fun x hx=>by
    obtain ⟨cs,hcs,rfl⟩:=hback x hx
    rw [refR_val hk]
    show (bestF l (k == 4) a cs.flatten).isSome=false
    cases hq:(bestF l (k == 4) a cs.flatten).isSome with
    | false=>rfl
    | true=>
     obtain ⟨y,hy,hsy⟩:=best_isSome.1 hq
     obtain ⟨c,hcm,hyc⟩:=List.mem_flatten.1 hy
     obtain ⟨b',hbm,hcb⟩:=hcs.mem hcm
     have:anyS l (blk (fK key) t.Rows)=true:=anyS_iff.2 ⟨b',hbm,y,(cls_fact hcb).2.2.1 y hyc,hsy⟩
     rw [hs] at this;cases this
   have hsome:b.Some=false:=by
    rw [hb.some,List.any_eq_false]
    intro x hx;rw [hno x hx];simp
   have hev:b.Every=false:=by
    rw [hb.every,List.all_eq_false]
    exact ⟨_,hmem cs0 hcs0,by rw [hno _ (hmem cs0 hcs0)];simp⟩
   obtain ⟨z1,z2⟩:=hb.none hsome
   have hz:fitT 0=true:=by decide
   rw [if_pos ⟨by rw [z1];exact hz,by rw [z2];exact hz⟩]
   refine ⟨rfl,fun _=>?_,fun h=>absurd rfl h⟩
   show zeroRg=⟨b.Least.Value,b.Greatest.Value,b.Some,b.Every⟩
   rw [z1,z2,hsome,hev];rfl
  | val h0 hk hs cl ch ml mh c1 c2 e1 e2 o1 o2=>
   have hsome:b.Some=true:=by
    rw [hb.some,List.any_eq_true]
    refine ⟨_,hmem cl c1,?_⟩
    rw [refR_val hk]
    show (bestF l (k == 4) a cl.flatten).isSome=true
    rw [e1];rfl
   have hev:b.Every=mustS l (blk (fK key) t.Rows):=by
    rw [hb.every,Bool.eq_iff_iff,List.all_eq_true]
    constructor
    ·intro h
     cases hm:mustS l (blk (fK key) t.Rows) with
     | true=>rfl
     | false=>
      have hall:∀ b∈blk (fK key) t.Rows,freeB l b=true:=fun b hbm=>by
       unfold mustS at hm
       rw [List.any_eq_false] at hm
       simpa using hm b hbm
      obtain ⟨cs,hcs,hns⟩:=ch_free hall
      have:=h _ (hmem cs hcs)
      rw [refR_val hk] at this
      obtain ⟨y,hy,hsy⟩:=best_isSome.1 this
      obtain ⟨c,hcm,hyc⟩:=List.mem_flatten.1 hy
      rw [hns c hcm y hyc] at hsy;cases hsy
    ·intro hm x hx
     obtain ⟨b0,hb0,hf0⟩:=List.any_eq_true.1 hm
     have hf0:freeB l b0=false:=by simpa using hf0
     obtain ⟨cs,hcs,rfl⟩:=hback x hx
     rw [refR_val hk]
     obtain ⟨c,hcm,hcb⟩:=hcs.has hb0
     refine best_isSome.2 ?_
     obtain ⟨g1,g2,g3,g4⟩:=cls_fact hcb
     cases hcc:c with
     | nil=>exact absurd hcc g1
     | cons z q=>exact ⟨z,List.mem_flatten.2 ⟨c,hcm,by rw [hcc];simp⟩,free_false hf0 z (g3 z (by rw [hcc];simp))⟩
   have hOP:∀ x∈(allB (blk (fK key) t.Rows)).map (fun R=>refR k a (R.filter fun r=>satF r l)),x.OK=true→∃ v,OP l k a (blk (fK key) t.Rows) v∧x=⟨v,⟨0,0⟩,true⟩:=fun x hx ho=>by
    obtain ⟨cs,hcs,rfl⟩:=hback x hx
    rw [refR_val hk] at ho ⊢
    obtain ⟨v,hv⟩:=Option.isSome_iff_exists.1 ho
    exact ⟨v,⟨cs.flatten,mem_allB.2 ⟨cs,hcs,rfl⟩,hv⟩,by rw [hv];rfl⟩
   have hin:∀ cs v,IsCh (blk (fK key) t.Rows) cs→bestF l (k == 4) a cs.flatten=some v→(⟨v,⟨0,0⟩,true⟩:drossref51_Result)∈(allB (blk (fK key) t.Rows)).map fun R=>refR k a (R.filter fun r=>satF r l):=fun cs v hcs hv=>by
    have:=hmem cs hcs
    rw [refR_val hk,hv] at this
    exact this
   have hk2:k≠2:=by omega
   have hl:b.Least=⟨ml,⟨0,0⟩,true⟩:=by
    obtain ⟨m1,m2,m3⟩:=hb.least hsome
    obtain ⟨v,hv,e⟩:=hOP _ m1 m2
    have h5:=m3 _ (hin cl ml c1 e1) rfl
    rw [e] at h5
    unfold lessF at h5
    rw [if_neg hk2] at h5
    have h6:=o1 v hv
    have:v=ml:=better_total (g:=false) h6 h5
    rw [e,this]
   have hg:b.Greatest=⟨mh,⟨0,0⟩,true⟩:=by
    obtain ⟨m1,m2,m3⟩:=hb.greatest hsome
    obtain ⟨v,hv,e⟩:=hOP _ m1 m2
    have h5:=m3 _ (hin ch mh c2 e2) rfl
    rw [e] at h5
    unfold lessF at h5
    rw [if_neg hk2] at h5
    have h6:=o2 v hv
    have h7:betterB true mh v=false:=by
     have:betterB (!false) mh v=betterB false v mh:=better_not
     rw [show (!false)=true from rfl] at this
     rw [this];exact h5
    have:v=mh:=better_total (g:=true) h6 h7
    rw [e,this]
   have hz:fitT 0=true:=by decide
   rw [if_pos ⟨by rw [hl];exact hz,by rw [hg];exact hz⟩]
   refine ⟨rfl,fun _=>?_,fun h=>absurd rfl h⟩
   show (⟨ml,mh,true,_⟩:api_Range)=⟨b.Least.Value,b.Greatest.Value,b.Some,b.Every⟩
   rw [hl,hg,hsome,hev]
end Go.Own
namespace Go.Own
namespace drosslaw51_AggregateExtremes
theorem spec (x:drosslaw51_Job) (hn:TNum x.T) (hk:U32 x.Key):C x true:=by
 obtain ⟨r,h1,h2⟩:=enter x (fun r=>r=true) (by
  refine ⟨true,drosslaw51_awake.spec,?_⟩
  rw [if_pos rfl]
  have again:L3 (fun r=>r=true):=by
   apply L3_step
   exact ⟨true,drosslaw51_awake.spec,rfl⟩
  refine ⟨_,few51 rfl,?_⟩
  by_cases a:(x.T.Rows.length:Int)≤8
  ·rw [if_pos a]
   by_cases b:(x.T.Attrs.length:Int)≤20
   ·rw [if_pos b]
    by_cases c:(x.L.length:Int)≤4
    ·rw [if_pos (decide_eq_true c)]
     obtain ⟨v,v1,p,p1,p2⟩:=aggregate_Least.spec (t:=x.T) (key:=x.Key) (l:=x.L) (k:=x.Kind) (a:=x.Attr) hn hk (by omega) (by omega)
     obtain ⟨w,w1,q,q1,q2⟩:=aggregate_Greatest.spec (t:=x.T) (key:=x.Key) (l:=x.L) (k:=x.Kind) (a:=x.Attr) hn hk (by omega) (by omega)
     obtain ⟨s,s1,s2⟩:=drossref51_Range.spec (t:=x.T) (key:=x.Key) (l:=x.L) (k:=x.Kind) (a:=x.Attr) hk (by omega) (by omega)
     obtain ⟨d1,d2,d3⟩:=of_range hn (by omega) v1 s2
     obtain ⟨e1,e2,e3⟩:=of_range hn (by omega) w1 s2
     refine ⟨by omega,p,p1,by omega,q,q1,s,s1,?_⟩
     by_cases h0:s.2=0
     ·rw [if_pos h0]
      have f1:=d2 h0
      have f2:=e2 h0
      by_cases hs:s.1.Some=true
      ·rw [if_pos hs]
       obtain ⟨cs,c1,c2,c3⟩:=p2.some (by rw [d1];exact h0) (by rw [f1];exact hs)
       obtain ⟨ds,g1,g2,g3⟩:=q2.some (by rw [e1];exact h0) (by rw [f2];exact hs)
       have u1:=ext_value hn (by omega) v1 (by rw [d1];exact h0) (by rw [f1];exact hs) c1 c3
       have u2:=ext_value hn (by omega) w1 (by rw [e1];exact h0) (by rw [f2];exact hs) g1 g3
       have hE:allE x.T x.Key x.L x.Kind x.Attr=0:=by
        cases v1 with
        | err h=>exact absurd (by rw [← d1] at h0;exact h0) h
        | sum h=>exact h
        | none h=>exact h
        | val h=>exact h
       obtain ⟨ht,hc,hkd⟩:=allE_zero hE
       have x1:=part_val ht hn (by omega) (key:=x.Key) hc hkd c1
       have x2:=part_val ht hn (by omega) (key:=x.Key) hc hkd g1
       rw [u1] at x1
       rw [u2] at x2
       obtain ⟨y,y1,y2,y3,y4⟩:=drossref51_Value.spec (t:=p.1) (l:=x.L) (k:=x.Kind) (a:=x.Attr) (by omega)
       obtain ⟨z,z1,z2,z3,z4⟩:=drossref51_Value.spec (t:=q.1) (l:=x.L) (k:=x.Kind) (a:=x.Attr) (by omega)
       apply L2_step
       rw [if_pos h0]
       refine ⟨y,y1,z,z1,?_⟩
       rw [c2] at y2 y3 y4 ⊢
       rw [g2] at z2 z3 z4 ⊢
       rw [x1] at y2 y3 y4
       rw [x2] at z2 z3 z4
       rw [if_pos rfl,if_pos rfl,if_pos y4,z4]
       apply L1_step
       rw [if_pos rfl]
       refine ⟨true,drossref51_Is.yes ht hk (by omega) c1,?_⟩
       rw [if_pos rfl]
       refine ⟨true,drossref51_Is.yes ht hk (by omega) g1,?_⟩
       rw [if_pos rfl,if_pos y3,if_pos z3,y2,z2,f1,f2]
       simp
      ·rw [if_neg hs]
       have hs:s.1.Some=false:=by simpa using hs
       have c1:=p2.none (by rw [d1];exact h0) (by rw [f1];exact hs)
       have c2:=q2.none (by rw [e1];exact h0) (by rw [f2];exact hs)
       apply L2_step
       rw [if_neg (by decide),c1,c2,if_pos rfl,if_pos rfl]
       rfl
     ·rw [if_neg h0]
      have c1:=p2.err (by rw [d1];exact h0)
      have c2:=q2.err (by rw [e1];exact h0)
      apply L2_step
      rw [if_neg h0,c1,c2,if_pos d1,if_pos e1]
      rfl
    ·rw [if_neg (by rw [decide_eq_true_iff];exact c)];exact again
   ·rw [if_neg b,if_neg Bool.false_ne_true];exact again
  ·rw [if_neg a,if_neg Bool.false_ne_true];exact again)
 subst h1;exact h2
theorem law {xs:List D} (hx:TyAll env.P drosslaw51_AggregateExtremes_K drosslaw51_AggregateExtremes_T xs):Ret env drosslaw51_AggregateExtremes_F xs (.lit (.bool true)) []:=
 drosslaw51_AggregateExtremes_of (fun x h=>spec x (fun r hr v hv=>i64_of ((h.1.2.2.2 r hr).2.2 v hv).2.1) (u32_of h.2.1)) hx
end drosslaw51_AggregateExtremes
end Go.Own
