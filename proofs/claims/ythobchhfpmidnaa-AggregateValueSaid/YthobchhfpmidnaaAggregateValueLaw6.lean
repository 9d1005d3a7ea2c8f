/- What the functions that the law reaches answer. No conditions. -/
import Derived.Test.YthobchhfpmidnaaAggregateValueLaw3
import Derived.Test.YthobchhfpmidnaaAggregateValueLaw5
import Derived.Test.YthobchhfpmidnaaAggregateValueLaw1
import Derived.Test.YthobchhfpmidnaaAggregateValueLaw2
set_option linter.all false
namespace Go.Own
def letB (x:Int):Bool:=decide (97≤x∧x≤122∨65≤x∧x≤90∨x=95)
def alnB (x:Int):Bool:=letB x || decide (48≤x∧x≤57)
def nullB:List UInt8:=[110,117,108,108]
theorem bl_null:((⟨#[110,117,108,108]⟩:ByteArray)).toList=nullB:=bl_mk (l:=nullB)
theorem bl_nil:((⟨#[]⟩:ByteArray)).toList=[]:=bl_mk (l:=[])
def nameL:List UInt8→Bool
 | []=>false
 | b::r=>decide (r.length<24)&&letB (u8i b)&&!decide (b::r=nullB)&&r.all fun b=>alnB (u8i b)
def nameF (s:ByteArray):Bool:=nameL s.toList
namespace drossref03_letter
theorem spec {x : Int} : C x (letB x) := by
  obtain ⟨r, h1, h2⟩ := enter x (fun r => r = letB x) (by
    unfold letB
    repeat' split
    all_goals first
      | (symm; rw [decide_eq_true_iff]; omega)
      | (by_cases h : x = 95
         · simp [h]
         · have : (x == 95) = false := by simpa using h
           rw [this]; symm; rw [decide_eq_false_iff_not]; omega))
  rw [← h1]; exact h2
end drossref03_letter
theorem aln_step {φ:Bool→Prop} {P:Prop} {x:Int} (h:if alnB x=true then P else φ false) (hl:¬ letB x=true):if x<48 then φ false else if 57<x then φ false else P:=by
 have e:alnB x=decide (48≤x∧x≤57):=by unfold alnB;rw [Bool.eq_false_iff.2 hl,Bool.false_or]
 rw [e] at h
 repeat' split
 ·rw [if_neg (by rw [decide_eq_true_iff];omega)] at h;exact h
 ·rw [if_neg (by rw [decide_eq_true_iff];omega)] at h;exact h
 ·rw [if_pos (by rw [decide_eq_true_iff];omega)] at h;exact h
namespace drossref03_Name
theorem spec {s : ByteArray} : C s (nameF s) := by
  obtain ⟨r, h1, h2⟩ := enter s (fun r => r = nameF s) (by
    unfold nameF
    rw [bsize_eq, bl_null]
    cases hs : s.toList with
    | nil => simp [nameL]
    | cons b t =>
      rw [if_neg (by simp; omega)]
      split
      · rename_i hn
        have hn : 24 ≤ t.length := by simp at hn; omega
        simp [nameL]; omega
      · rename_i hn
        have hn : t.length < 24 := by simp at hn; omega
        refine ⟨b, bget_of (by rw [hs]; rfl), letB (u8i b), drossref03_letter.spec, ?_⟩
        split
        · rename_i hb
          split
          · rename_i h0
            simp [nameL, nullB, h0]
          · rename_i h0
            refine all_loop (l := s.toList) (p := fun b => alnB (u8i b)) (L := fun i => L1 s i fun r => r = nameL (b :: t)) (φ := fun r => r = nameL (b :: t)) ?_ ?_ ?_
            · intro h
              apply L1_step
              rw [bsize_eq, if_neg (by omega)]; exact h
            · intro k c hc hk h
              apply L1_step
              rw [bsize_eq, if_pos (by omega)]
              have next : L1 s ((k + 1 : Nat) : Int) (fun r => r = nameL (b :: t)) → L2 s k fun r => r = nameL (b :: t) := fun h => by
                apply L2_step
                rw [wrap_succ (by have : s.toList.length = (b :: t).length := by rw [hs]
                                  simp at this; omega)]
                exact h
              refine ⟨c, bget_of hc, _, drossref03_letter.spec, ?_⟩
              split
              · rename_i hl
                rw [if_pos (by unfold alnB; rw [hl]; rfl)] at h
                exact next h
              · rename_i hl
                have h3 := aln_step (φ := fun r => r = nameL (b :: t)) (P := L2 s k fun r => r = nameL (b :: t)) (by
                  split
                  · rename_i hh; rw [if_pos hh] at h; exact next h
                  · rename_i hh; rw [if_neg hh] at h; exact h) hl
                refine ⟨c, bget_of hc, ?_⟩
                split
                · rename_i h4; rw [if_pos h4] at h3; exact h3
                · rename_i h4; rw [if_neg h4] at h3; exact ⟨c, bget_of hc, h3⟩
            · rw [hs]
              have e : alnB (u8i b) = true := by unfold alnB; rw [hb]; rfl
              simp only [List.all_cons, e, Bool.true_and, nameL, hb, h0, decide_false, Bool.not_false, Bool.and_true]
              simp [hn]
        · rename_i hb
          simp [nameL, hb])
  rw [← h1]; exact h2
end drossref03_Name
namespace table_isName
theorem two {s:ByteArray} {i:Int} {φ:Bool→Prop} {x:Int} (h:if letB x=true then L3 s i φ else if i=0 then φ false else if x<48 then φ false else if 57<x then φ false else L3 s i φ):L2 s i x (letB x) φ:=by
 apply L2_step;exact h
theorem spec {s : ByteArray} : C s (nameF s) := by
  obtain ⟨r, h1, h2⟩ := enter s (fun r => r = nameF s) (by
    unfold nameF
    rw [bsize_eq, bl_null, bl_nil]
    cases hs : s.toList with
    | nil => simp [nameL]
    | cons b t =>
      rw [if_neg (by simp)]
      split
      · rename_i hn
        have hn : 24 ≤ t.length := by simp at hn; omega
        simp [nameL]; omega
      · rename_i hn
        have hn : t.length < 24 := by simp at hn; omega
        have hlen : s.toList.length = t.length + 1 := by rw [hs]; rfl
        split
        · rename_i h0
          simp [nameL, nullB, h0]
        · rename_i h0
          have body : ∀ (k : Nat) c, s.toList[k]? = some c → (if letB (u8i c) = true then L1 s ((k + 1 : Nat) : Int) (fun r => r = nameL (b :: t)) else if (k : Int) = 0 then false = nameL (b :: t) else if (u8i c) < 48 then false = nameL (b :: t) else if 57 < (u8i c) then false = nameL (b :: t) else L1 s ((k + 1 : Nat) : Int) (fun r => r = nameL (b :: t))) → L1 s k (fun r => r = nameL (b :: t)) := by
            intro k c hc h
            have hk := (List.getElem?_eq_some_iff.1 hc).1
            apply L1_step
            rw [bsize_eq, if_pos (by omega)]
            refine ⟨c, bget_of hc, ?_⟩
            have next : L1 s ((k + 1 : Nat) : Int) (fun r => r = nameL (b :: t)) → L3 s k fun r => r = nameL (b :: t) := fun h => by
              apply L3_step
              rw [wrap_succ (by omega)]
              exact h
            have key : L2 s k (u8i c) (letB (u8i c)) fun r => r = nameL (b :: t) := by
              apply two
              split
              · rename_i hh; rw [if_pos hh] at h; exact next h
              · rename_i hh; rw [if_neg hh] at h
                split
                · rename_i h2; rw [if_pos h2] at h; exact h
                · rename_i h2; rw [if_neg h2] at h
                  split
                  · rename_i h3; rw [if_pos h3] at h; exact h
                  · rename_i h3; rw [if_neg h3] at h
                    split
                    · rename_i h4; rw [if_pos h4] at h; exact h
                    · rename_i h4; rw [if_neg h4] at h; exact next h
            have e : ∀ v, v = letB (u8i c) → L2 s k (u8i c) v fun r => r = nameL (b :: t) := by rintro _ rfl; exact key
            repeat' split
            all_goals apply e
            all_goals unfold letB
            all_goals first
              | (symm; rw [decide_eq_true_iff]; omega)
              | (by_cases h : u8i c = 95
                 · simp [h]
                 · have : (u8i c == 95) = false := by simpa using h
                   rw [this]; symm; rw [decide_eq_false_iff_not]; omega)
          have h0s : s.toList[0]? = some b := by rw [hs]; rfl
          refine body 0 b h0s ?_
          split
          · rename_i hb
            have rest := all_loop (l := t) (p := fun b => alnB (u8i b)) (L := fun i => L1 s (i + 1) fun r => r = nameL (b :: t)) (φ := fun r => r = nameL (b :: t)) ?_ ?_ ?_
            · simpa using rest
            · intro h
              apply L1_step
              rw [bsize_eq, if_neg (by omega)]; exact h
            · intro k c hc hk h
              have e1 : ((k : Nat) : Int) + 1 = ((k + 1 : Nat) : Int) := by omega
              rw [e1]
              refine body (k + 1) c (by rw [hs]; simpa using hc) ?_
              split
              · rename_i hl
                rw [if_pos (by unfold alnB; rw [hl]; rfl)] at h
                exact h
              · rename_i hl
                rw [if_neg (by omega)]
                exact aln_step (φ := fun r => r = nameL (b :: t)) h hl
            · simp [nameL, hb, h0, hn]
          · rename_i hb
            simp [nameL, hb])
  rw [← h1]; exact h2
end table_isName
def eqS (x a:ByteArray):Bool:=decide (a=x)
def namesGo:List ByteArray→List ByteArray→Bool
 | _,[]=>true
 | pre,a::r=>nameF a&&!pre.any (eqS a)&&namesGo (pre++[a]) r
def namesF (l:List ByteArray):Bool:=namesGo [] l
namespace slices_Index_sstring_string
theorem spec {l:List ByteArray} {x:ByteArray} (hn:l.length<Big):C l x (ixI (eqS x) l):=by
 obtain ⟨r,h1,h2⟩:=enter l x (fun r=>r=ixI (eqS x) l) (by
  refine index_loop (l:=l) (p:=eqS x) (L:=fun i=>L1 l x i _) (φ:=fun r=>r=ixI (eqS x) l) ?_ ?_ rfl
  ·intro h;apply L1_step;rw [if_neg (by omega)];exact h
  ·intro k a ha hk h
   apply L1_step
   rw [if_pos (by omega)]
   refine ⟨a,lget_of ha,?_⟩
   rw [wrap_succ (by unfold Big at hn;omega)]
   split
   ·rename_i hh;rw [if_pos (by simp [eqS,bl_inj.1 hh])] at h;exact h
   ·rename_i hh;rw [if_neg (by simp only [eqS,decide_eq_true_eq];rintro rfl;exact hh rfl)] at h;exact h)
 rw [← h1];exact h2
end slices_Index_sstring_string
theorem slices_Contains_sstring_string.spec {l:List ByteArray} {x:ByteArray} (hn:l.length<Big):slices_Contains_sstring_string.C l x (l.any (eqS x)):=by
 obtain ⟨r,h1,h2⟩:=slices_Contains_sstring_string.enter l x (fun r=>r=l.any (eqS x)) ⟨_,slices_Index_sstring_string.spec hn,by rw [ixI_any]⟩
 rw [← h1];exact h2
namespace drossref03_Attr
theorem spec {l:List ByteArray} {x:ByteArray} (hn:l.length<Big):C l x (ixI (eqS x) l):=by
 obtain ⟨r,h1,h2⟩:=enter l x (fun r=>r=ixI (eqS x) l) (by
  refine index_loop (l:=l) (p:=eqS x) (L:=fun i=>L1 l x i _) (φ:=fun r=>r=ixI (eqS x) l) ?_ ?_ rfl
  ·intro h;apply L1_step;rw [if_neg (by omega)];exact h
  ·intro k a ha hk h
   apply L1_step
   rw [if_pos (by omega)]
   refine ⟨a,lget_of ha,?_⟩
   rw [wrap_succ (by unfold Big at hn;omega)]
   split
   ·rename_i hh;rw [if_pos (by simp [eqS,bl_inj.1 hh])] at h;exact h
   ·rename_i hh;rw [if_neg (by simp only [eqS,decide_eq_true_eq];rintro rfl;exact hh rfl)] at h;exact h)
 rw [← h1];exact h2
end drossref03_Attr
theorem names_loop {l : List ByteArray} {L : Int → Prop} {P Q : Prop} (stop : P → L (l.length : Int))
    (step : ∀ (k : Nat) a, l[k]? = some a → k < l.length → (if nameF a = true then (if (l.take k).any (eqS a) = true then Q else L ((k + 1 : Nat) : Int)) else Q) → L k) (h : namesF l = true → P) (h' : namesF l = false → Q) : L 0 := by
  have : ∀ (r : List ByteArray) (k : Nat), l.drop k = r → k ≤ l.length → (namesGo (l.take k) r = true → P) → (namesGo (l.take k) r = false → Q) → L k := by
    intro r
    induction r with
    | nil => intro k hd hk h h'; have : k = l.length := by have := drop_ge hd; omega
             subst this; exact stop (h rfl)
    | cons a r ih =>
      intro k hd hk h h'
      have hlt := drop_lt hd
      refine step k a (drop_get hd) hlt ?_
      have hn := ih (k + 1) (drop_next hd) hlt
      have e : l.take (k + 1) = l.take k ++ [a] := by rw [List.take_add_one, drop_get hd]; rfl
      rw [e] at hn
      simp only [namesGo] at h h'
      split
      · rename_i h1
        split
        · rename_i h2
          exact h' (by simp [h1, h2])
        · rename_i h2
          have h2 := Bool.eq_false_iff.2 h2
          exact hn (fun hh => h (by simp [h1, h2, hh])) (fun hh => h' (by simp [h1, h2, hh]))
      · rename_i h1
        have h1 := Bool.eq_false_iff.2 h1
        exact h' (by simp [h1])
  exact this l 0 rfl (Nat.zero_le _) h h'
theorem drossref03_Names.spec {l:List ByteArray} (hn:l.length<Big):drossref03_Names.C l (namesF l):=by
 obtain ⟨r,h1,h2⟩:=drossref03_Names.enter l (fun r=>r=namesF l) (by
  refine names_loop (l:=l) (L:=fun i=>drossref03_Names.L1 l i _) (P:=true=namesF l) (Q:=false=namesF l) ?_ ?_ Eq.symm Eq.symm
  ·intro h;apply drossref03_Names.L1_step;rw [if_neg (by omega)];exact h
  ·intro k a ha hk h
   apply drossref03_Names.L1_step
   rw [if_pos (by omega)]
   refine ⟨a,lget_of ha,_,drossref03_Name.spec,?_⟩
   split
   ·rename_i h1;rw [if_pos h1] at h
    refine ⟨by omega,by omega,_,drossref03_Attr.spec (by rw [List.length_take];omega),?_⟩
    rw [Int.toNat_natCast,Nat.sub_zero,wrap_succ (by unfold Big at hn;omega)]
    have e:(0≤ixI (eqS a) (l.take k))↔(l.take k).any (eqS a)=true:=by rw [← ixI_any,decide_eq_true_iff]
    split
    ·rename_i h2;rw [if_pos (e.1 h2)] at h;exact h
    ·rename_i h2;rw [if_neg (fun hh=>h2 (e.2 hh))] at h;exact h
   ·rename_i h1;rw [if_neg h1] at h;exact h)
 rw [← h1];exact h2
def validV (v:api_Value):Bool:=decide (v.Kind=0∧v.Num=0∧v.Str.toList=[]∨v.Kind=1∧v.Str.toList=[]∨v.Kind=2∧v.Num=0∧v.Str.toList.length≤200∨v.Kind=3∧1≤v.Num∧v.Str.toList=[])
theorem valid_goal {v : api_Value} {φ : Bool → Prop} (h : φ (validV v)) : (if v.Kind = 0 then (if v.Num = 0 then φ ((v.Str.toList == ((⟨#[]⟩ : ByteArray)).toList)) else φ false) else (if v.Kind = 1 then φ ((v.Str.toList == ((⟨#[]⟩ : ByteArray)).toList)) else (if v.Kind = 2 then (if v.Num = 0 then φ ((decide ((bsize v.Str) ≤ 200))) else φ false) else (if v.Kind = 3 then (if 1 ≤ v.Num then φ ((v.Str.toList == ((⟨#[]⟩ : ByteArray)).toList)) else φ false) else φ false)))) := by
  have e : ∀ b, b = validV v → φ b := by rintro _ rfl; exact h
  have e0 : (v.Str.toList == ((⟨#[]⟩ : ByteArray)).toList) = decide (v.Str.toList = []) := by
    rw [bl_nil]
    by_cases h : v.Str.toList = []
    · simp [h]
    · simp [h]
  rw [e0, bsize_eq]
  repeat' split
  all_goals apply e
  all_goals unfold validV
  all_goals first
    | (rw [decide_eq_decide]; omega)
    | (symm; rw [decide_eq_false_iff_not]; omega)
    | (rw [decide_eq_decide]; constructor
       · intro h; simp_all
       · intro h; simp_all)
theorem value_Valid.spec {v:api_Value}:value_Valid.C v (validV v):=by
 obtain ⟨r,h1,h2⟩:=value_Valid.enter v (fun r=>r=validV v) (valid_goal (φ:=fun r=>r=validV v) rfl)
 rw [← h1];exact h2
theorem drossref01_Valid.spec {v:api_Value}:drossref01_Valid.C v (validV v):=by
 obtain ⟨r,h1,h2⟩:=drossref01_Valid.enter v (fun r=>r=validV v) (valid_goal (φ:=fun r=>r=validV v) rfl)
 rw [← h1];exact h2
def validsF (l:List api_Value):Bool:=l.all validV
theorem table_validValues_1.spec {v:api_Value}:table_validValues_1.C v (!validV v):=by
 obtain ⟨r,h1,h2⟩:=table_validValues_1.enter v (fun r=>r=!validV v) ⟨_,value_Valid.spec,rfl⟩
 rw [← h1];exact h2
namespace slices_IndexFunc_sapi_Value_api_Value_table_validValues_1
theorem spec {l:List api_Value} (hn:l.length<Big):C l (ixI (fun v=>!validV v) l):=by
 obtain ⟨r,h1,h2⟩:=enter l (fun r=>r=ixI (fun v=>!validV v) l) (by
  refine index_loop (l:=l) (p:=fun v=>!validV v) (L:=fun i=>L1 l i _) (φ:=fun r=>r=ixI (fun v=>!validV v) l) ?_ ?_ rfl
  ·intro h;apply L1_step;rw [if_neg (by omega)];exact h
  ·intro k a ha hk h
   apply L1_step
   rw [if_pos (by omega)]
   refine ⟨a,lget_of ha,_,table_validValues_1.spec,?_⟩
   rw [wrap_succ (by unfold Big at hn;omega)]
   exact h)
 rw [← h1];exact h2
end slices_IndexFunc_sapi_Value_api_Value_table_validValues_1
theorem slices_ContainsFunc_sapi_Value_api_Value_table_validValues_1.spec {l:List api_Value} (hn:l.length<Big):slices_ContainsFunc_sapi_Value_api_Value_table_validValues_1.C l (!validsF l):=by
 obtain ⟨r,h1,h2⟩:=slices_ContainsFunc_sapi_Value_api_Value_table_validValues_1.enter l (fun r=>r=!validsF l) ⟨_,slices_IndexFunc_sapi_Value_api_Value_table_validValues_1.spec hn,by
  rw [ixI_any];unfold validsF;rw [List.any_eq_not_all_not];simp⟩
 rw [← h1];exact h2
theorem table_validValues.spec {l:List api_Value} (hn:l.length<Big):table_validValues.C l (validsF l):=by
 obtain ⟨r,h1,h2⟩:=table_validValues.enter l (fun r=>r=validsF l) ⟨_,slices_ContainsFunc_sapi_Value_api_Value_table_validValues_1.spec hn,by
  show (!(!validsF l))=_
  rw [Bool.not_not]⟩
 rw [← h1];exact h2
theorem drossref01_Valids.spec {l:List api_Value} (hn:l.length<Big):drossref01_Valids.C l (validsF l):=by
 obtain ⟨r,h1,h2⟩:=drossref01_Valids.enter l (fun r=>r=validsF l) (by
  refine all_loop (l:=l) (p:=validV) (L:=fun i=>drossref01_Valids.L1 l i _) (φ:=fun r=>r=validsF l) ?_ ?_ rfl
  ·intro h;apply drossref01_Valids.L1_step;rw [if_neg (by omega)];exact h
  ·intro k a ha hk h
   apply drossref01_Valids.L1_step
   rw [if_pos (by omega)]
   refine ⟨a,lget_of ha,_,drossref01_Valid.spec,?_⟩
   rw [wrap_succ (by unfold Big at hn;omega)]
   exact h)
 rw [← h1];exact h2
def rowsF (n:Nat):Int→List api_Row→Int
 | _,[]=>0
 | last,r::rs=>if r.ID≤last then 1 else if r.Values.length=n then (if validsF r.Values=true then rowsF n r.ID rs else 1) else 6
def tableF (t:api_Table):Int:=if nameF t.Name=true then (if 16<t.Attrs.length then 3 else if 1000<t.Rows.length then 3 else if namesF t.Attrs=true then rowsF t.Attrs.length 0 t.Rows else 1) else 1
theorem rows_loop {n : Nat} {l : List api_Row} {L : Int → Int → Prop} {φ : Int → Prop} (stop : ∀ last, φ 0 → L last (l.length : Int))
    (step : ∀ (k : Nat) r last, l[k]? = some r → k < l.length → (if r.ID ≤ last then φ 1 else if r.Values.length = n then (if validsF r.Values = true then L r.ID ((k + 1 : Nat) : Int) else φ 1) else φ 6) → L last k) (h : φ (rowsF n 0 l)) : L 0 0 := by
  have : ∀ (r : List api_Row) (k : Nat) (last : Int), l.drop k = r → k ≤ l.length → φ (rowsF n last r) → L last k := by
    intro r
    induction r with
    | nil => intro k last hd hk h; have : k = l.length := by have := drop_ge hd; omega
             subst this; exact stop _ h
    | cons a r ih =>
      intro k last hd hk h
      have hlt := drop_lt hd
      refine step k a last (drop_get hd) hlt ?_
      simp only [rowsF] at h
      split
      · rename_i h1; rw [if_pos h1] at h; exact h
      · rename_i h1; rw [if_neg h1] at h
        split
        · rename_i h2; rw [if_pos h2] at h
          split
          · rename_i h3; rw [if_pos h3] at h; exact ih (k + 1) _ (drop_next hd) hlt h
          · rename_i h3; rw [if_neg h3] at h; exact h
        · rename_i h2; rw [if_neg h2] at h; exact h
  exact this l 0 0 rfl (Nat.zero_le _) h
namespace table_Valid
theorem rows {t:api_Table} {φ:Int→Prop} (hr:t.Rows.length≤1000) (ha:t.Attrs.length≤16) (h:φ (rowsF t.Attrs.length 0 t.Rows)):L2 t 0 0 φ:=by
 refine rows_loop (n:=t.Attrs.length) (l:=t.Rows) (L:=fun last i=>L2 t last i φ) (φ:=φ) ?_ ?_ h
 ·intro last h;apply L2_step;rw [if_neg (by omega)];exact h
 ·intro k r last hr hk h
  apply L2_step
  rw [if_pos (by omega)]
  refine ⟨r,lget_of hr,?_⟩
  split
  ·rename_i h1;rw [if_pos h1] at h;exact h
  ·rename_i h1;rw [if_neg h1] at h
   split
   ·rename_i h2
    have h2:r.Values.length=t.Attrs.length:=by omega
    rw [if_pos h2] at h
    refine ⟨_,table_validValues.spec (by unfold Big;omega),?_⟩
    rw [wrap_succ (by omega)]
    exact h
   ·rename_i h2;rw [if_neg (by omega)] at h;exact h
theorem spec {t:api_Table}:C t (tableF t):=by
 obtain ⟨r,h1,h2⟩:=enter t (fun r=>r=tableF t) (by
  refine ⟨_,table_isName.spec,?_⟩
  unfold tableF
  split
  ·by_cases h1:16<t.Attrs.length
   ·rw [if_pos (by omega),if_pos h1]
   ·rw [if_neg (by omega),if_neg h1]
    by_cases h2:1000<t.Rows.length
    ·rw [if_pos (by omega),if_pos h2]
    ·rw [if_neg (by omega),if_neg h2]
     refine names_loop (l:=t.Attrs) (L:=fun i=>L1 t i _) (P:=rowsF t.Attrs.length 0 t.Rows=if namesF t.Attrs=true then rowsF t.Attrs.length 0 t.Rows else 1) (Q:=(1:Int)=if namesF t.Attrs=true then rowsF t.Attrs.length 0 t.Rows else 1) ?_ ?_ ?_ ?_
     ·intro h;apply L1_step;rw [if_neg (by omega)]
      exact rows (φ:=fun r=>r=if namesF t.Attrs=true then rowsF t.Attrs.length 0 t.Rows else 1) (by omega) (by omega) h
     ·intro k a ha hk h
      apply L1_step
      rw [if_pos (by omega)]
      refine ⟨a,lget_of ha,_,table_isName.spec,?_⟩
      split
      ·rename_i h1;rw [if_pos h1] at h
       refine ⟨by omega,by omega,_,slices_Contains_sstring_string.spec (by rw [List.length_take];unfold Big;omega),?_⟩
       rw [Int.toNat_natCast,Nat.sub_zero,wrap_succ (by omega)]
       exact h
      ·rename_i h1;rw [if_neg h1] at h;exact h
     ·intro h;rw [if_pos h]
     ·intro h;rw [if_neg (by rw [h];decide)]
  ·rfl)
 rw [← h1];exact h2
end table_Valid
namespace drossref03_Valid
theorem rows {t:api_Table} {φ:Int→Prop} (hr:t.Rows.length≤1000) (ha:t.Attrs.length≤16) (h:φ (rowsF t.Attrs.length 0 t.Rows)):L1 t 0 0 φ:=by
 refine rows_loop (n:=t.Attrs.length) (l:=t.Rows) (L:=fun last i=>L1 t last i φ) (φ:=φ) ?_ ?_ h
 ·intro last h;apply L1_step;rw [if_neg (by omega)];exact h
 ·intro k r last hr hk h
  apply L1_step
  rw [if_pos (by omega)]
  refine ⟨r,lget_of hr,?_⟩
  split
  ·rename_i h1;rw [if_pos h1] at h;exact h
  ·rename_i h1;rw [if_neg h1] at h
   split
   ·rename_i h2
    have h2:r.Values.length=t.Attrs.length:=by omega
    rw [if_pos h2] at h
    refine ⟨_,drossref01_Valids.spec (by unfold Big;omega),?_⟩
    rw [wrap_succ (by omega)]
    exact h
   ·rename_i h2;rw [if_neg (by omega)] at h;exact h
theorem spec {t:api_Table}:C t (tableF t):=by
 obtain ⟨r,h1,h2⟩:=enter t (fun r=>r=tableF t) (by
  refine ⟨_,drossref03_Name.spec,?_⟩
  unfold tableF
  split
  ·by_cases h1:16<t.Attrs.length
   ·rw [if_pos (by omega),if_pos h1]
   ·rw [if_neg (by omega),if_neg h1]
    by_cases h2:1000<t.Rows.length
    ·rw [if_pos (by omega),if_pos h2]
    ·rw [if_neg (by omega),if_neg h2]
     refine ⟨_,drossref03_Names.spec (by unfold Big;omega),?_⟩
     split
     ·exact rows (φ:=fun r=>r=rowsF t.Attrs.length 0 t.Rows) (by omega) (by omega) rfl
     ·rfl
  ·rfl)
 rw [← h1];exact h2
end drossref03_Valid
end Go.Own
namespace Go.Own
namespace drossref02_Full
theorem loop {k:Nat} {φ:Int→Prop} (h:φ (fullN k)):∀ (m i:Nat),i+m=min k 32→L1 k ((2^i-1:Nat):Int) i φ
 | 0,i,hi=>by
  apply L1_step
  have e:((2^i-1:Nat):Int)=(fullN k:Int):=by unfold fullN;rw [← hi,Nat.add_zero]
  rw [e]
  split
  ·rw [if_neg (by omega)];exact h
  ·exact h
 | m+1,i,hi=>by
  apply L1_step
  rw [if_pos (by omega),if_pos (by omega)]
  refine ⟨by omega,?_⟩
  have hp:2^(i+1)≤2^32:=Nat.pow_le_pow_right (by decide) (by omega)
  have h2:0<2^i:=Nat.pos_of_ne_zero (by simp)
  rw [Nat.pow_succ] at hp
  rw [shl1_nat (k:=.u32) (by simp only [top];omega),bOr_nat (k:=.u32) (by simp only [top];omega) (by simp only [top];omega),wrap_succ (by omega)]
  have e:(2^i-1) ||| 2^i=2^(i+1)-1:=by
   apply Nat.eq_of_testBit_eq
   intro j
   rw [Nat.testBit_or,Nat.testBit_two_pow_sub_one,Nat.testBit_two_pow,Nat.testBit_two_pow_sub_one]
   by_cases h1:j<i
   ·have:j<i+1:=by omega
    simp [h1,this]
   ·by_cases h3:i=j
    ·subst h3;simp
    ·have:¬ j<i+1:=by omega
     simp [h1,h3,this]
  rw [e]
  exact loop h m (i+1) (by omega)
theorem spec {k:Nat}:C k (fullN k):=by
 obtain ⟨r,h1,h2⟩:=enter k (fun r=>r=(fullN k:Int)) (loop (φ:=fun r=>r=(fullN k:Int)) rfl (min k 32) 0 (by omega))
 rw [← h1];exact h2
end drossref02_Full
end Go.Own
namespace Go.Own
namespace drossref02_Has
end drossref02_Has
end Go.Own

namespace Go.Own
theorem cmpI_zero {a b:Int}:cmpI a b=0↔a=b:=by
 unfold cmpI;repeat' split
 all_goals omega
theorem drossref01_sign.spec {a b:Int}:drossref01_sign.C a b (cmpI a b):=by
 obtain ⟨r,h1,h2⟩:=drossref01_sign.enter a b (fun r=>r=cmpI a b) (by
  unfold cmpI;repeat' split
  all_goals first | rfl | omega)
 rw [← h1];exact h2
def cmpL:List UInt8→List UInt8→Int
 | [],[]=>0
 | [],_::_=>-1
 | _::_,[]=>1
 | a::r,b::s=>if a=b then cmpL r s else cmpI (u8i a) (u8i b)
theorem cmpL_zero:∀ {a b:List UInt8},cmpL a b=0↔a=b
 | [],[]=>by simp [cmpL]
 | [],_::_=>by simp [cmpL]
 | _::_,[]=>by simp [cmpL]
 | a::r,b::s=>by
  simp only [cmpL]
  split
  ·rename_i h;subst h;rw [cmpL_zero];simp
  ·rename_i h
   rw [cmpI_zero,u8i_inj];simp [h]
def cmpS (a b:ByteArray):Int:=cmpL a.toList b.toList
theorem cmpL_len:∀ {a b:List UInt8},(a=[]∨b=[])→cmpI a.length b.length=cmpL a b
 | [],[],_=>rfl
 | [],_::r,_=>by
  simp only [cmpL,cmpI,List.length_cons,List.length_nil]
  rw [if_pos (by omega)]
 | _::r,[],_=>by
  simp only [cmpL,cmpI,List.length_cons,List.length_nil]
  rw [if_neg (by omega),if_pos (by omega)]
 | _::_,_::_,h=>by simp at h
namespace drossref01_strings
theorem loop {a b:ByteArray} {φ:Int→Prop} (hn:a.toList.length<Big):∀ (r s:List UInt8) (k:Nat),a.toList.drop k=r→b.toList.drop k=s→k≤a.toList.length→k≤b.toList.length→φ (cmpL r s)→L1 a b k φ:=by
 have fin:∀ (r s:List UInt8) (k:Nat),a.toList.drop k=r→b.toList.drop k=s→k≤a.toList.length→k≤b.toList.length→(r=[]∨s=[])→φ (cmpL r s)→L2 a b φ:=by
  intro r s k hr hs hk hk2 h0 h
  apply L2_step
  refine ⟨_,drossref01_sign.spec,?_⟩
  rw [bsize_eq,bsize_eq]
  have e:cmpI a.toList.length b.toList.length=cmpI r.length s.length:=by
   rw [← hr,← hs,List.length_drop,List.length_drop]
   unfold cmpI
   repeat' split
   all_goals omega
  rw [e,cmpL_len h0];exact h
 intro r
 induction r with
 | nil=>
  intro s k hr hs hk hk2 h
  apply L1_step
  have:=drop_ge hr
  rw [bsize_eq,if_neg (by omega)]
  exact fin _ _ k hr hs hk hk2 (.inl rfl) h
 | cons x r ih=>
  intro s k hr hs hk hk2 h
  apply L1_step
  have hlt:=drop_lt hr
  rw [bsize_eq,if_pos (by omega),bsize_eq]
  match s,hs,h with
  | [],hs,h=>
   have:=drop_ge hs
   rw [if_neg (by omega)]
   exact fin _ _ k hr hs hk hk2 (.inr rfl) h
  | y::s,hs,h=>
   have hlt2:=drop_lt hs
   rw [if_pos (by omega)]
   refine ⟨x,bget_of (drop_get hr),y,bget_of (drop_get hs),?_⟩
   simp only [cmpL] at h
   split
   ·rename_i he
    rw [if_pos (u8i_inj.1 he)] at h
    rw [wrap_succ (by unfold Big at hn;omega)]
    exact ih s (k+1) (drop_next hr) (drop_next hs) hlt hlt2 h
   ·rename_i he
    rw [if_neg (fun hh=>he (u8i_inj.2 hh))] at h
    refine ⟨x,bget_of (drop_get hr),y,bget_of (drop_get hs),_,drossref01_sign.spec,?_⟩
    have b1:=u8i_lt (b:=x);have b2:=u8i_lt (b:=y)
    rw [wrap_id (by omega) (by omega),wrap_id (by omega) (by omega)]
    exact h
theorem spec {a b:ByteArray} (hn:a.toList.length<Big):C a b (cmpS a b):=by
 obtain ⟨r,h1,h2⟩:=enter a b (fun r=>r=cmpS a b) (loop hn a.toList b.toList 0 rfl rfl (by omega) (by omega) rfl)
 rw [← h1];exact h2
end drossref01_strings
def cmpV (v w:api_Value):Int:=if cmpI v.Kind w.Kind=0 then (if cmpI v.Num w.Num=0 then cmpS v.Str w.Str else cmpI v.Num w.Num) else cmpI v.Kind w.Kind
theorem cmpV_zero {v w:api_Value}:cmpV v w=0↔v=w:=by
 obtain ⟨k,n,s⟩:=v
 obtain ⟨k',n',s'⟩:=w
 unfold cmpV cmpS
 simp only [api_Value.mk.injEq]
 split
 ·rename_i h1;rw [cmpI_zero] at h1
  split
  ·rename_i h2;rw [cmpI_zero] at h2
   rw [cmpL_zero,bl_inj];simp [h1,h2]
  ·rename_i h2
   have h3:=h2
   rw [cmpI_zero] at h3
   simp [h2,h3]
 ·rename_i h1
  have h3:=h1
  rw [cmpI_zero] at h3
  simp [h1,h3]
theorem drossref01_Compare.spec {v w:api_Value} (hn:v.Str.toList.length<Big):drossref01_Compare.C v w (cmpV v w):=by
 obtain ⟨r,h1,h2⟩:=drossref01_Compare.enter v w (fun r=>r=cmpV v w) (by
  refine ⟨_,drossref01_sign.spec,?_⟩
  unfold cmpV
  split
  ·refine ⟨_,drossref01_sign.spec,?_⟩
   split
   ·exact ⟨_,drossref01_strings.spec hn,rfl⟩
   ·rfl
  ·rfl)
 rw [← h1];exact h2
def StrOK (l:List api_Value):Prop:=l.length<Big∧∀ v∈l,v.Str.toList.length<Big
def cmpVs:List api_Value→List api_Value→Int
 | [],[]=>0
 | [],_::_=>-1
 | _::_,[]=>1
 | a::r,b::s=>if cmpV a b=0 then cmpVs r s else cmpV a b
theorem cmpVs_zero:∀ {a b:List api_Value},cmpVs a b=0↔a=b
 | [],[]=>by simp [cmpVs]
 | [],_::_=>by simp [cmpVs]
 | _::_,[]=>by simp [cmpVs]
 | a::r,b::s=>by
  simp only [cmpVs]
  split
  ·rename_i h;rw [cmpVs_zero];rw [cmpV_zero] at h;simp [h]
  ·rename_i h
   have h2:=h
   rw [cmpV_zero] at h2
   simp [h,h2]
theorem cmpVs_len:∀ {a b:List api_Value},(a=[]∨b=[])→cmpI a.length b.length=cmpVs a b
 | [],[],_=>rfl
 | [],_::r,_=>by
  simp only [cmpVs,cmpI,List.length_cons,List.length_nil]
  rw [if_pos (by omega)]
 | _::r,[],_=>by
  simp only [cmpVs,cmpI,List.length_cons,List.length_nil]
  rw [if_neg (by omega),if_pos (by omega)]
 | _::_,_::_,h=>by simp at h
namespace drossref01_Lists
theorem loop {a b:List api_Value} {φ:Int→Prop} (hn:StrOK a):∀ (r s:List api_Value) (k:Nat),a.drop k=r→b.drop k=s→k≤a.length→k≤b.length→φ (cmpVs r s)→L1 a b k φ:=by
 have fin:∀ (r s:List api_Value) (k:Nat),a.drop k=r→b.drop k=s→k≤a.length→k≤b.length→(r=[]∨s=[])→φ (cmpVs r s)→L2 a b φ:=by
  intro r s k hr hs hk hk2 h0 h
  apply L2_step
  refine ⟨_,drossref01_sign.spec,?_⟩
  have e:cmpI a.length b.length=cmpI r.length s.length:=by
   rw [← hr,← hs,List.length_drop,List.length_drop]
   unfold cmpI
   repeat' split
   all_goals omega
  rw [e,cmpVs_len h0];exact h
 intro r
 induction r with
 | nil=>
  intro s k hr hs hk hk2 h
  apply L1_step
  have:=drop_ge hr
  rw [if_neg (by omega)]
  exact fin _ _ k hr hs hk hk2 (.inl rfl) h
 | cons x r ih=>
  intro s k hr hs hk hk2 h
  apply L1_step
  have hlt:=drop_lt hr
  rw [if_pos (by omega)]
  match s,hs,h with
  | [],hs,h=>
   have:=drop_ge hs
   rw [if_neg (by omega)]
   exact fin _ _ k hr hs hk hk2 (.inr rfl) h
  | y::s,hs,h=>
   have hlt2:=drop_lt hs
   rw [if_pos (by omega)]
   refine ⟨x,lget_drop hr,y,lget_drop hs,_,drossref01_Compare.spec (hn.2 x (List.mem_of_getElem? (drop_get hr))),?_⟩
   simp only [cmpVs] at h
   split
   ·rename_i he
    rw [if_pos he] at h
    rw [wrap_succ (by have:=hn.1;unfold Big at this;omega)]
    exact ih s (k+1) (drop_next hr) (drop_next hs) hlt hlt2 h
   ·rename_i he
    rw [if_neg he] at h
    exact h
theorem spec {a b:List api_Value} (hn:StrOK a):C a b (cmpVs a b):=by
 obtain ⟨r,h1,h2⟩:=enter a b (fun r=>r=cmpVs a b) (loop hn a b 0 rfl rfl (by omega) (by omega) rfl)
 rw [← h1];exact h2
end drossref01_Lists
theorem drossref01_Same.spec {a b:List api_Value} (hn:StrOK a):drossref01_Same.C a b (decide (a=b)):=by
 obtain ⟨r,h1,h2⟩:=drossref01_Same.enter a b (fun r=>r=decide (a=b)) ⟨_,drossref01_Lists.spec hn,by
  by_cases h:a=b
  ·simp [h,cmpVs_zero.2 rfl]
  ·have:cmpVs a b≠0:=fun hh=>h (cmpVs_zero.1 hh)
   simp [h,this]⟩
 rw [← h1];exact h2
def be:Nat→Nat→List Int
 | 0,_=>[]
 | j+1,u=>((u / 2^(8*j) % 256:Nat):Int)::be j u
theorem be_len:∀ {j u},(be j u).length=j
 | 0,_=>rfl
 | j+1,u=>by simp [be,be_len]
theorem be_range:∀ {j u},∀ x∈be j u,0≤x∧x<256
 | 0,_,_,h=>by simp [be] at h
 | j+1,u,x,h=>by
  simp only [be,List.mem_cons] at h
  rcases h with rfl | h
  ·omega
  ·exact be_range x h
def flip63 (n:Int):Nat:=(n % 18446744073709551616).toNat ^^^ 9223372036854775808
theorem flip63_lt {n:Int}:flip63 n<2^64:=Nat.xor_lt_two_pow (by omega) (by decide)
namespace value_number
theorem loop {φ:List Int→Prop} {u:Nat} (hu:u<2^64):∀ (j:Nat) (acc:List Int),j≤8→acc.length+j≤1000→φ (acc++be j u)→L1 acc u (8*(j:Int)-8) φ
 | 0,acc,hj,hl,h=>by
  apply L1_step
  rw [if_neg (by omega)]
  simpa [be] using h
 | j+1,acc,hj,hl,h=>by
  apply L1_step
  rw [if_pos (by omega)]
  refine ⟨by omega,by omega,?_⟩
  have e1:8*((j+1:Nat):Int)-8=((8*j:Nat):Int):=by omega
  rw [e1,shrw_nat (k:=.u64) (by simpa [top] using hu),IntKind.wrap_u8,wrap_id (by omega) (by omega)]
  have e2:((8*j:Nat):Int)-8=8*(j:Int)-8:=by omega
  rw [e2]
  refine loop hu j _ (by omega) (by simp;omega) ?_
  have e3:((u / 2^(8*j):Nat):Int) % 256=((u / 2^(8*j) % 256:Nat):Int):=by omega
  rw [e3]
  simpa [be] using h
theorem spec {n:Int} {acc:List Int} (hl:acc.length≤900):C n acc (acc++be 8 (flip63 n)):=by
 obtain ⟨r,h1,h2⟩:=enter n acc (fun r=>r=acc++be 8 (flip63 n)) (by
  have e:bXor .u64 (IntKind.wrap .u64 n) 9223372036854775808=(flip63 n:Int):=by
   have e1:IntKind.wrap .u64 n=(((n % 18446744073709551616).toNat:Nat):Int):=by
    simp only [IntKind.wrap,IntKind.bits,IntKind.signed];simp;omega
   rw [e1]
   exact bXor_nat (k:=.u64) (b:=9223372036854775808) (by simp only [top];omega) (by simp only [top];omega)
  rw [e]
  exact loop flip63_lt 8 acc (by omega) (by omega) rfl)
 rw [← h1];exact h2
end value_number
def esc:List UInt8→List Int
 | []=>[]
 | b::r=>if u8i b=0 then 0::255::esc r else u8i b::esc r
theorem esc_snoc {l:List UInt8} {b:UInt8}:esc (l++[b])=esc l++esc [b]:=by
 induction l with
 | nil=>rfl
 | cons a l ih=>simp only [List.cons_append,esc,ih];split<;>rfl
theorem esc_range:∀ {l:List UInt8},∀ x∈esc l,0≤x∧x<256
 | [],x,h=>by simp [esc] at h
 | b::r,x,h=>by
  simp only [esc] at h
  split at h
  ·simp only [List.mem_cons] at h
   rcases h with rfl | rfl | h
   ·omega
   ·omega
   ·exact esc_range x h
  ·simp only [List.mem_cons] at h
   rcases h with rfl | h
   ·exact u8i_lt
   ·exact esc_range x h
theorem esc_len:∀ {l:List UInt8},(esc l).length≤2*l.length
 | []=>by simp [esc]
 | b::r=>by
  have:=esc_len (l:=r)
  simp only [esc]
  split<;>simp only [List.length_cons]<;>omega
def keyJ (v:api_Value):List Int:=v.Kind::(if v.Kind=1∨v.Kind=3 then be 8 (flip63 v.Num) else if v.Kind=2 then esc v.Str.toList++[0,1] else [])
theorem validV_cases {v:api_Value} (h:validV v=true):v.Kind=0∧v.Num=0∧v.Str.toList=[]∨v.Kind=1∧v.Str.toList=[]∨v.Kind=2∧v.Num=0∧v.Str.toList.length≤200∨v.Kind=3∧1≤v.Num∧v.Str.toList=[]:=by
 simpa [validV] using h
theorem keyI_range {v:api_Value} (h:validV v=true):∀ x∈keyJ v,0≤x∧x<256:=by
 intro x hx
 have hk:0≤v.Kind∧v.Kind≤3:=by rcases validV_cases h with h | h | h | h<;>omega
 simp only [keyJ,List.mem_cons] at hx
 rcases hx with rfl | hx
 ·omega
 ·split at hx
  ·exact be_range x hx
  ·split at hx
   ·rcases List.mem_append.1 hx with hx | hx
    ·exact esc_range x hx
    ·simp at hx;rcases hx with rfl | rfl<;>omega
   ·simp at hx
theorem keyI_len {v:api_Value} (h:validV v=true):(keyJ v).length≤403:=by
 simp only [keyJ,List.length_cons]
 split
 ·rw [be_len];omega
 ·split
  ·have:=esc_len (l:=v.Str.toList)
   have:v.Str.toList.length≤200:=by
    rcases validV_cases h with h | h | h | h
    ·rw [h.2.2];simp
    ·rw [h.2];simp
    ·exact h.2.2
    ·rw [h.2.2];simp
   simp;omega
  ·simp
def keyW (v:api_Value):ByteArray:=bstrI (keyJ v)
namespace value_Key
theorem loop {v:api_Value} {φ:ByteArray×Int→Prop} (hk:v.Kind=2) (hs:v.Str.toList.length≤200) (h:φ (keyW v,0)):∀ (r:List UInt8) (k:Nat),v.Str.toList.drop k=r→k≤v.Str.toList.length→L1 v (2::esc (v.Str.toList.take k)) k φ:=by
 intro r
 induction r with
 | nil=>
  intro k hd hk2
  apply L1_step
  have:=drop_ge hd
  rw [bsize_eq,if_neg (by omega),List.take_of_length_le this]
  have hl:=esc_len (l:=v.Str.toList)
  have e:keyJ v=(2::esc v.Str.toList)++[0,1]:=by simp [keyJ,hk]
  refine ⟨by simp only [List.length_cons];omega,fun x hx=>?_,?_⟩
  ·rcases List.mem_append.1 hx with hx | hx
   ·rcases List.mem_cons.1 hx with rfl | hx
    ·omega
    ·exact esc_range x hx
   ·simp at hx;rcases hx with rfl | rfl<;>omega
  ·rw [← e];exact h
 | cons b r ih=>
  intro k hd hk2
  have hlt:=drop_lt hd
  apply L1_step
  rw [bsize_eq,if_pos (by omega)]
  have hl:=esc_len (l:=v.Str.toList.take k)
  rw [List.length_take] at hl
  refine ⟨b,bget_of (drop_get hd),by simp only [List.length_cons];omega,b,bget_of (drop_get hd),?_⟩
  have ih:=ih (k+1) (drop_next hd) hlt
  have e:v.Str.toList.take (k+1)=v.Str.toList.take k++[b]:=by rw [List.take_add_one,drop_get hd];rfl
  rw [e,esc_snoc] at ih
  have next:∀ l,l=2::(esc (v.Str.toList.take k)++esc [b])→L4 v l k φ:=by
   rintro _ rfl
   apply L4_step
   rw [wrap_succ (by omega)]
   exact ih
  split
  ·rename_i h0
   refine ⟨by simp only [List.length_append,List.length_cons,List.length_nil];omega,next _ ?_⟩
   simp [esc,h0]
  ·rename_i h0
   exact next _ (by simp [esc,h0])
theorem spec {v:api_Value} (hv:validV v=true):C v (keyW v,0):=by
 obtain ⟨r,h1,h2⟩:=enter v (fun r=>r=(keyW v,0)) (by
  refine ⟨_,value_Valid.spec,?_⟩
  rw [if_pos hv]
  have hc:=validV_cases hv
  have hk:0≤v.Kind∧v.Kind≤3:=by rcases hc with h | h | h | h<;>omega
  have ek:IntKind.wrap .u8 v.Kind=v.Kind:=by rw [IntKind.wrap_u8];omega
  have two:∀ b,(v.Kind=1∨v.Kind=3)→L2 v b fun r=>r=(keyW v,0):=by
   intro b hb
   apply L2_step
   rw [ek]
   have e:keyJ v=[v.Kind]++be 8 (flip63 v.Num):=by simp [keyJ,hb]
   refine ⟨_,value_number.spec (by simp),?_,?_⟩
   ·rw [← e];exact keyI_range hv
   ·rw [← e];rfl
  have three:¬ (v.Kind=1∨v.Kind=3)→L3 v fun r=>r=(keyW v,0):=by
   intro hb
   apply L3_step
   rw [ek]
   split
   ·rename_i h2
    have hs:v.Str.toList.length≤200:=by
     rcases hc with h | h | h | h
     ·omega
     ·omega
     ·exact h.2.2
     ·omega
    have:=loop (φ:=fun r=>r=(keyW v,0)) h2 hs rfl v.Str.toList 0 rfl (by omega)
    rw [h2]
    simpa [esc] using this
   ·rename_i h2
    refine ⟨fun x hx=>by simp at hx;omega,?_⟩
    simp [keyW,keyJ,hb,h2]
  split
  ·rename_i h1;exact two _ (.inl h1)
  ·rename_i h1
   split
   ·rename_i h3;exact two _ (.inr h3)
   ·rename_i h3;exact three (by omega))
 rw [← h1];exact h2
end value_Key
def b8 (x:Int):UInt8:=UInt8.ofNat x.toNat
theorem keyS_list {v:api_Value}:(keyW v).data.toList=(keyJ v).map b8:=by
 unfold keyW bstrI b8;simp
theorem keyS_size {v:api_Value}:(keyW v).size=(keyJ v).length:=by
 have:(keyW v).size=(keyW v).data.toList.length:=rfl
 rw [this,keyS_list,List.length_map]
def keysI (l:List api_Value):List Int:=l.flatMap keyJ
def keysW (l:List api_Value):ByteArray:=bstr ((keysI l).map b8)
end Go.Own
namespace Go.Own
def pick (l:List api_Value) (n:Nat):List api_Value:=(bitsOf n).filterMap fun i=>l[i]?
namespace drossref03_Values
end drossref03_Values
structure TV (t:api_Table):Prop where
 name:nameF t.Name=true
 na:t.Attrs.length≤16
 nr:t.Rows.length≤1000
 names:namesF t.Attrs=true
 rows:rowsF t.Attrs.length 0 t.Rows=0
theorem tableF_iff {t:api_Table}:tableF t=0↔TV t:=by
 unfold tableF
 constructor
 ·intro h
  split at h
  ·split at h
   ·cases h
   ·split at h
    ·cases h
    ·split at h
     ·rename_i h1 h2 h3 h4
      exact ⟨h1,by omega,by omega,h4,h⟩
     ·cases h
  ·cases h
 ·intro h
  rw [if_pos h.name,if_neg (by have:=h.na;omega),if_neg (by have:=h.nr;omega),if_pos h.names]
  exact h.rows
theorem rowsF_row {n:Nat}:∀ {l:List api_Row} {last:Int},rowsF n last l=0→∀ r∈l,r.Values.length=n∧(∀ v∈r.Values,validV v=true)∧last<r.ID
 | [],_,_,r,hr=>by cases hr
 | a::l,last,h,r,hr=>by
  simp only [rowsF] at h
  split at h
  ·cases h
  ·split at h
   ·split at h
    ·rename_i h1 h2 h3
     unfold validsF at h3
     rw [List.all_eq_true] at h3
     rcases List.mem_cons.1 hr with rfl | hr
     ·exact ⟨h2,h3,by omega⟩
     ·obtain ⟨e1,e2,e3⟩:=rowsF_row h r hr
      exact ⟨e1,e2,by omega⟩
    ·cases h
   ·cases h
theorem TV.len {t:api_Table} (h:TV t) {r:api_Row} (hr:r∈t.Rows):r.Values.length=t.Attrs.length:=(rowsF_row h.rows r hr).1
theorem TV.val {t:api_Table} (h:TV t) {r:api_Row} (hr:r∈t.Rows):∀ v∈r.Values,validV v=true:=(rowsF_row h.rows r hr).2.1
theorem valid_str {v:api_Value} (h:validV v=true):v.Str.toList.length≤200:=by
 rcases validV_cases h with h | h | h | h
 ·rw [h.2.2];simp
 ·rw [h.2];simp
 ·exact h.2.2
 ·rw [h.2.2];simp
end Go.Own
namespace Go.Own
theorem cmpB_eq:∀ {a b:List UInt8},Lib.compareBytes a b=cmpL a b
 | [],[]=>rfl
 | [],_::_=>rfl
 | _::_,[]=>rfl
 | a::r,b::s=>by
  rw [Lib.compareBytes,cmpL,cmpB_eq (a:=r) (b:=s)]
  have lt:∀ {x y:UInt8},x<y↔u8i x<u8i y:=fun {x y}=>by
   unfold u8i
   rw [UInt8.lt_iff_toNat_lt];omega
  by_cases h:a=b
  ·subst h
   rw [if_neg (by rw [lt];omega),if_neg (by rw [lt];omega),if_pos rfl]
  ·rw [if_neg h]
   unfold cmpI
   by_cases h1:a<b
   ·rw [if_pos h1,if_pos (lt.1 h1)]
   ·rw [if_neg h1,if_neg (fun hh=>h1 (lt.2 hh))]
    have h2:b<a:=by
     rw [lt] at h1 ⊢
     have:u8i a≠u8i b:=fun hh=>h (u8i_inj.1 hh)
     omega
    rw [if_pos h2,if_pos (lt.1 h2)]
theorem bcmp_eq {a b:ByteArray}:bcmp a b=cmpS a b:=by
 unfold bcmp cmpS
 rw [cmpB_eq,bl_eq,bl_eq]
theorem nan_int {x:Int}:cmp_isNaN_int.C x false:=by
 obtain ⟨r,h1,h2⟩:=cmp_isNaN_int.enter x (fun r=>r=false) (by simp)
 rw [← h1];exact h2
theorem nan_int64 {x:Int}:cmp_isNaN_int64.C x false:=by
 obtain ⟨r,h1,h2⟩:=cmp_isNaN_int64.enter x (fun r=>r=false) (by simp)
 rw [← h1];exact h2
theorem cmpInt_spec {x y:Int}:cmp_Compare_int.C x y (cmpI x y):=by
 obtain ⟨r,h1,h2⟩:=cmp_Compare_int.enter x y (fun r=>r=cmpI x y) ⟨_,nan_int,_,nan_int,by
  rw [if_neg Bool.false_ne_true,if_neg Bool.false_ne_true]
  unfold cmpI
  split
  ·rfl
  ·split<;>rfl⟩
 rw [← h1];exact h2
theorem cmpInt64_spec {x y:Int}:cmp_Compare_int64.C x y (cmpI x y):=by
 obtain ⟨r,h1,h2⟩:=cmp_Compare_int64.enter x y (fun r=>r=cmpI x y) ⟨_,nan_int64,_,nan_int64,by
  rw [if_neg Bool.false_ne_true,if_neg Bool.false_ne_true]
  unfold cmpI
  split
  ·rfl
  ·split<;>rfl⟩
 rw [← h1];exact h2
theorem strings_Compare.spec {a b:ByteArray}:strings_Compare.C a b (cmpS a b):=by
 obtain ⟨q,g1,g2⟩:=internal_bytealg_CompareString.enter a b (fun r=>r=cmpS a b) bcmp_eq
 obtain ⟨r,h1,h2⟩:=strings_Compare.enter a b (fun r=>r=cmpS a b) ⟨_,g2,g1⟩
 rw [← h1];exact h2
theorem cmpOr_three {a b c:Int}:cmp_Or_int.C [a,b,c] (if a=0 then (if b=0 then c else b) else a):=by
 obtain ⟨r,h1,h2⟩:=cmp_Or_int.enter [a,b,c] (fun r=>r=if a=0 then (if b=0 then c else b) else a) (by
  have e0:IntKind.wrap .i64 ((0:Int)+1)=1:=by decide
  have e1:IntKind.wrap .i64 ((1:Int)+1)=2:=by decide
  have e2:IntKind.wrap .i64 ((2:Int)+1)=3:=by decide
  apply cmp_Or_int.L1_step
  rw [if_pos (by simp)]
  refine ⟨a,rfl,?_⟩
  by_cases ha:a=0
  ·rw [if_pos ha,if_pos ha,e0]
   apply cmp_Or_int.L1_step
   rw [if_pos (by simp)]
   refine ⟨b,rfl,?_⟩
   by_cases hb:b=0
   ·rw [if_pos hb,if_pos hb,e1]
    apply cmp_Or_int.L1_step
    rw [if_pos (by simp)]
    refine ⟨c,rfl,?_⟩
    by_cases hc:c=0
    ·rw [if_pos hc,e2]
     apply cmp_Or_int.L1_step
     rw [if_neg (by simp)]
     exact hc.symm
    ·rw [if_neg hc]
   ·rw [if_neg hb,if_neg hb]
  ·rw [if_neg ha,if_neg ha])
 rw [← h1];exact h2
theorem value_Compare.spec {a b:api_Value}:value_Compare.C a b (cmpV a b):=by
 obtain ⟨r,h1,h2⟩:=value_Compare.enter a b (fun r=>r=cmpV a b) ⟨_,cmpInt_spec,_,cmpInt64_spec,_,strings_Compare.spec,_,cmpOr_three,by
  unfold cmpV;rfl⟩
 rw [← h1];exact h2
def cond1 (n:Nat) (c:api_Condition):Int:=if c.Attr<0 then 6 else if (n:Int)≤c.Attr then 6 else if c.Op<1 then 1 else if 4<c.Op then 1 else if validV c.Value=true then 0 else 1
def condE (n:Nat):List api_Condition→Int
 | []=>0
 | c::l=>if cond1 n c=0 then condE n l else cond1 n c
def kindE (n:Nat) (k a:Int):Int:=if k<1 then 1 else if 4<k then 1 else if k=1 then 0 else if a<0 then 6 else if (n:Int)≤a then 6 else 0
def valE (t:api_Table) (l:List api_Condition) (k a:Int):Int:=if tableF t=0 then (if condE t.Attrs.length l=0 then kindE t.Attrs.length k a else condE t.Attrs.length l) else tableF t
theorem cond_step {n:Nat} {c:api_Condition} {φ:Int→Prop} {L:Prop} {V:Bool→Prop} (hV:V (validV c.Value)) (h0:cond1 n c=0→L) (h1:cond1 n c≠0→φ (cond1 n c)) :
  if c.Attr<0 then φ 6 else if (n:Int)≤c.Attr then φ 6 else if c.Op<1 then φ 1 else if 4<c.Op then φ 1 else ∃ r:Bool,V r∧(if r=true then L else φ 1):=by
 unfold cond1 at h0 h1
 split
 ·rename_i h;rw [if_pos h] at h1;exact h1 (by decide)
 ·rename_i a1;rw [if_neg a1] at h0 h1
  split
  ·rename_i h;rw [if_pos h] at h1;exact h1 (by decide)
  ·rename_i a2;rw [if_neg a2] at h0 h1
   split
   ·rename_i h;rw [if_pos h] at h1;exact h1 (by decide)
   ·rename_i a3;rw [if_neg a3] at h0 h1
    split
    ·rename_i h;rw [if_pos h] at h1;exact h1 (by decide)
    ·rename_i a4;rw [if_neg a4] at h0 h1
     refine ⟨_,hV,?_⟩
     split
     ·rename_i h;rw [if_pos h] at h0;exact h0 rfl
     ·rename_i h;rw [if_neg h] at h1;exact h1 (by decide)
theorem aggregate_conditions.spec {t:api_Table} {l:List api_Condition} (hl:l.length≤1000):aggregate_conditions.C t l (condE t.Attrs.length l):=by
 obtain ⟨r,h1,h2⟩:=aggregate_conditions.enter t l (fun r=>r=condE t.Attrs.length l) (by
  have go:∀ (r:List api_Condition) (k:Nat),l.drop k=r→condE t.Attrs.length r=condE t.Attrs.length l→aggregate_conditions.L1 t l (k:Int) (fun r=>r=condE t.Attrs.length l):=by
   intro r
   induction r with
   | nil=>intro k hd h;have:=drop_ge hd;apply aggregate_conditions.L1_step;rw [if_neg (by omega)];exact h
   | cons c r ih=>
    intro k hd h
    have hlt:=drop_lt hd
    apply aggregate_conditions.L1_step
    rw [if_pos (by omega)]
    refine ⟨c,lget_drop hd,cond_step (n:=t.Attrs.length) (c:=c) (φ:=fun r=>r=condE t.Attrs.length l) (L:=aggregate_conditions.L1 t l (IntKind.wrap .i64 ((k:Int)+1)) (fun r=>r=condE t.Attrs.length l)) (V:=fun b=>value_Valid.C c.Value b) value_Valid.spec (fun h0=>?_) fun h0=>?_⟩
    ·rw [wrap_succ (by omega)]
     rw [condE,if_pos h0] at h
     exact ih (k+1) (drop_next hd) h
    ·rw [condE,if_neg h0] at h
     exact h
  exact go l 0 rfl rfl)
 rw [← h1];exact h2
theorem drossref51_Conditions.spec {t:api_Table} {l:List api_Condition} (hl:l.length≤1000):drossref51_Conditions.C t l (condE t.Attrs.length l):=by
 obtain ⟨r,h1,h2⟩:=drossref51_Conditions.enter t l (fun r=>r=condE t.Attrs.length l) (by
  have go:∀ (r:List api_Condition) (k:Nat),l.drop k=r→condE t.Attrs.length r=condE t.Attrs.length l→drossref51_Conditions.L1 t l (k:Int) (fun r=>r=condE t.Attrs.length l):=by
   intro r
   induction r with
   | nil=>intro k hd h;have:=drop_ge hd;apply drossref51_Conditions.L1_step;rw [if_neg (by omega)];exact h
   | cons c r ih=>
    intro k hd h
    have hlt:=drop_lt hd
    apply drossref51_Conditions.L1_step
    rw [if_pos (by omega)]
    refine ⟨c,lget_drop hd,cond_step (n:=t.Attrs.length) (c:=c) (φ:=fun r=>r=condE t.Attrs.length l) (L:=drossref51_Conditions.L1 t l (IntKind.wrap .i64 ((k:Int)+1)) (fun r=>r=condE t.Attrs.length l)) (V:=fun b=>drossref01_Valid.C c.Value b) drossref01_Valid.spec (fun h0=>?_) fun h0=>?_⟩
    ·rw [wrap_succ (by omega)]
     rw [condE,if_pos h0] at h
     exact ih (k+1) (drop_next hd) h
    ·rw [condE,if_neg h0] at h
     exact h
  exact go l 0 rfl rfl)
 rw [← h1];exact h2
theorem kind_step {n:Nat} {k a:Int} {φ:Int→Prop} (h:φ (kindE n k a)):if k<1 then φ 1 else if 4<k then φ 1 else if k=1 then φ 0 else if a<0 then φ 6 else if (n:Int)≤a then φ 6 else φ 0:=by
 unfold kindE at h
 split
 ·rename_i a1;rw [if_pos a1] at h;exact h
 ·rename_i a1;rw [if_neg a1] at h
  split
  ·rename_i a2;rw [if_pos a2] at h;exact h
  ·rename_i a2;rw [if_neg a2] at h
   split
   ·rename_i a3;rw [if_pos a3] at h;exact h
   ·rename_i a3;rw [if_neg a3] at h
    split
    ·rename_i a4;rw [if_pos a4] at h;exact h
    ·rename_i a4;rw [if_neg a4] at h
     split
     ·rename_i a5;rw [if_pos a5] at h;exact h
     ·rename_i a5;rw [if_neg a5] at h;exact h
theorem aggregate_keyed.zero {t:api_Table}:aggregate_keyed.C t 0 (tableF t):=by
 obtain ⟨r,h1,h2⟩:=aggregate_keyed.enter t 0 (fun r=>r=tableF t) (by
  refine ⟨_,table_Valid.spec,?_⟩
  by_cases h0:tableF t=0
  ·rw [if_pos h0]
   refine ⟨by omega,?_⟩
   have e:shrw .u32 0 (t.Attrs.length:Int)=0:=by unfold shrw;simp
   rw [if_pos e,h0]
  ·rw [if_neg h0])
 rw [← h1];exact h2
theorem aggregate_check.spec {t:api_Table} {l:List api_Condition} {k a:Int} (hl:l.length≤1000):aggregate_check.C t 0 l k a (valE t l k a):=by
 obtain ⟨r,h1,h2⟩:=aggregate_check.enter t 0 l k a (fun r=>r=valE t l k a) (by
  refine ⟨_,aggregate_keyed.zero,?_⟩
  unfold valE
  by_cases h0:tableF t=0
  ·rw [if_pos h0,if_pos h0]
   refine ⟨_,aggregate_conditions.spec hl,?_⟩
   by_cases h1:condE t.Attrs.length l=0
   ·rw [if_pos h1,if_pos h1]
    exact kind_step (φ:=fun r=>r=kindE t.Attrs.length k a) rfl
   ·rw [if_neg h1,if_neg h1]
  ·rw [if_neg h0,if_neg h0])
 rw [← h1];exact h2
theorem drossref51_Error.spec {t:api_Table} {l:List api_Condition} {k a:Int} (hl:l.length≤1000):drossref51_Error.C t 0 l k a (valE t l k a):=by
 have hk:drossref51_Kind.C t k a (kindE t.Attrs.length k a):=by
  obtain ⟨r,h1,h2⟩:=drossref51_Kind.enter t k a (fun r=>r=kindE t.Attrs.length k a) (kind_step (φ:=fun r=>r=kindE t.Attrs.length k a) rfl)
  rw [← h1];exact h2
 have hy:drossref51_Key.C t 0 (tableF t):=by
  obtain ⟨r,h1,h2⟩:=drossref51_Key.enter t 0 (fun r=>r=tableF t) (by
   refine ⟨_,drossref03_Valid.spec,?_⟩
   by_cases h0:tableF t=0
   ·rw [if_pos h0]
    refine ⟨_,drossref02_Full.spec,?_⟩
    have e:bAndNot .u32 0 ((fullN t.Attrs.length:Nat):Int)=0:=by
     have:=bAndNot_nat (k:=.u32) (a:=0) (b:=fullN t.Attrs.length) (by decide) (by simpa [top] using fullN_lt)
     rw [show ((0:Nat):Int)=0 from rfl] at this
     rw [this]
     have:ndiff 0 (fullN t.Attrs.length)≤0:=ndiff_le
     omega
    rw [if_pos e,h0]
   ·rw [if_neg h0])
  rw [← h1];exact h2
 obtain ⟨r,h1,h2⟩:=drossref51_Error.enter t 0 l k a (fun r=>r=valE t l k a) (by
  refine ⟨_,hy,?_⟩
  unfold valE
  by_cases h0:tableF t=0
  ·rw [if_pos h0,if_pos h0]
   refine ⟨_,drossref51_Conditions.spec hl,?_⟩
   by_cases h1:condE t.Attrs.length l=0
   ·rw [if_pos h1,if_pos h1]
    exact ⟨_,hk,rfl⟩
   ·rw [if_neg h1,if_neg h1]
  ·rw [if_neg h0,if_neg h0])
 rw [← h1];exact h2
def zeroV:api_Value:=⟨0,0,(⟨#[]⟩:ByteArray)⟩
def atV (r:api_Row) (i:Int):api_Value:=(lget r.Values i).getD zeroV
def opB (op n:Int):Bool:=if op=2 then n != 0 else if op=3 then decide (n<0) else if op=4 then decide (n≤0) else n == 0
def satF (r:api_Row) (l:List api_Condition):Bool:=l.all fun c=>opB c.Op (cmpV (atV r c.Attr) c.Value)
theorem cond1_ok {n:Nat} {c:api_Condition} (h:cond1 n c=0):0≤c.Attr∧c.Attr<n∧1≤c.Op∧c.Op≤4∧validV c.Value=true:=by
 unfold cond1 at h
 split at h
 ·cases h
 ·split at h
  ·cases h
  ·split at h
   ·cases h
   ·split at h
    ·cases h
    ·split at h
     ·rename_i a1 a2 a3 a4 a5;exact ⟨by omega,by omega,by omega,by omega,a5⟩
     ·cases h
theorem condE_ok {n:Nat}:∀ {l:List api_Condition},condE n l=0→∀ c∈l,cond1 n c=0
 | [],_,c,hc=>by cases hc
 | d::l,h,c,hc=>by
  rw [condE] at h
  by_cases h0:cond1 n d=0
  ·rw [if_pos h0] at h
   rcases List.mem_cons.1 hc with rfl | hc
   ·exact h0
   ·exact condE_ok h c hc
  ·rw [if_neg h0] at h;exact absurd h h0
theorem at_some {r:api_Row} {i:Int} (h0:0≤i) (h:i<r.Values.length):lget r.Values i=some (atV r i):=by
 obtain ⟨a,ha⟩:=lget_lt h0 h
 unfold atV
 rw [ha];rfl
theorem aggregate_satisfies.spec {r:api_Row} {l:List api_Condition} (hl:l.length≤1000) (hc:∀ c∈l,cond1 r.Values.length c=0):aggregate_satisfies.C r l (satF r l):=by
 obtain ⟨q,h1,h2⟩:=aggregate_satisfies.enter r l (fun q=>q=satF r l) (by
  refine all_loop (l:=l) (p:=fun c=>opB c.Op (cmpV (atV r c.Attr) c.Value)) (L:=fun i=>aggregate_satisfies.L1 r l i _) (φ:=fun q=>q=satF r l) ?_ ?_ rfl
  ·intro h;apply aggregate_satisfies.L1_step;rw [if_neg (by omega)];exact h
  ·intro k c hk hlt h
   obtain ⟨c1,c2,c3,c4,c5⟩:=cond1_ok (hc c (List.mem_of_getElem? hk))
   have fin_:aggregate_satisfies.L2 r l (opB c.Op (cmpV (atV r c.Attr) c.Value)) (k:Int) (fun q=>q=satF r l):=by
    apply aggregate_satisfies.L2_step
    rw [wrap_succ (by omega)]
    exact h
   apply aggregate_satisfies.L1_step
   rw [if_pos (by omega)]
   refine ⟨c,lget_of hk,_,at_some c1 c2,_,value_Compare.spec,?_⟩
   unfold opB at fin_
   by_cases o2:c.Op=2
   ·rw [if_pos o2];rw [if_pos o2] at fin_;exact fin_
   ·rw [if_neg o2];rw [if_neg o2] at fin_
    by_cases o3:c.Op=3
    ·rw [if_pos o3];rw [if_pos o3] at fin_;exact fin_
    ·rw [if_neg o3];rw [if_neg o3] at fin_
     by_cases o4:c.Op=4
     ·rw [if_pos o4];rw [if_pos o4] at fin_;exact fin_
     ·rw [if_neg o4];rw [if_neg o4] at fin_;exact fin_)
 rw [← h1];exact h2
theorem drossref51_satisfies.spec {r:api_Row} {l:List api_Condition} (hl:l.length≤1000) (hv:∀ v∈r.Values,validV v=true) (hc:∀ c∈l,cond1 r.Values.length c=0):drossref51_satisfies.C r l (satF r l):=by
 obtain ⟨q,h1,h2⟩:=drossref51_satisfies.enter r l (fun q=>q=satF r l) (by
  refine all_loop (l:=l) (p:=fun c=>opB c.Op (cmpV (atV r c.Attr) c.Value)) (L:=fun i=>drossref51_satisfies.L1 r l i _) (φ:=fun q=>q=satF r l) ?_ ?_ rfl
  ·intro h;apply drossref51_satisfies.L1_step;rw [if_neg (by omega)];exact h
  ·intro k c hk hlt h
   obtain ⟨c1,c2,c3,c4,c5⟩:=cond1_ok (hc c (List.mem_of_getElem? hk))
   have hat:=at_some c1 c2
   have fin_:∀ b:Bool,b=opB c.Op (cmpV (atV r c.Attr) c.Value)→drossref51_satisfies.L2 r l (k:Int) b (fun q=>q=satF r l):=fun b hb=>by
    apply drossref51_satisfies.L2_step
    rw [wrap_succ (by omega),hb]
    exact h
   apply drossref51_satisfies.L1_step
   rw [if_pos (by omega)]
   refine ⟨c,lget_of hk,_,hat,_,drossref01_Compare.spec (by have:=valid_str (hv _ (List.mem_of_getElem? (lget_some hat).2));unfold Big;omega),?_⟩
   generalize cmpV (atV r c.Attr) c.Value=n at fin_
   have ho:c.Op=1∨c.Op=2∨c.Op=3∨c.Op=4:=by omega
   have n1:¬ (1:Int)=2:=by decide
   have n2:¬ (1:Int)=3:=by decide
   have n3:¬ (1:Int)=4:=by decide
   have n4:¬ (2:Int)=1:=by decide
   have n5:¬ (2:Int)=3:=by decide
   have n6:¬ (2:Int)=4:=by decide
   have n7:¬ (3:Int)=1:=by decide
   have n8:¬ (3:Int)=2:=by decide
   have n9:¬ (3:Int)=4:=by decide
   have n10:¬ (4:Int)=1:=by decide
   have n11:¬ (4:Int)=2:=by decide
   have n12:¬ (4:Int)=3:=by decide
   rcases ho with ho | ho | ho | ho<;>rw [ho] at fin_ ⊢<;>unfold opB at fin_<;>simp only [if_true,n1,n2,n3,n4,n5,n6,n7,n8,n9,n10,n11,n12,if_false] at fin_ ⊢
   ·by_cases h0:n=0
    ·rw [if_pos h0];exact fin_ true (by simp [h0])
    ·rw [if_neg h0];exact fin_ false (by simp [h0])
   ·by_cases h0:n=0
    ·rw [if_pos h0];exact fin_ false (by simp [h0])
    ·rw [if_neg h0];exact fin_ true (by simp [h0])
   ·by_cases h0:n<0
    ·rw [if_pos h0];exact fin_ true (by simp [h0])
    ·rw [if_neg h0];exact fin_ false (by simp [h0])
   ·exact fin_ _ rfl)
 rw [← h1];exact h2
end Go.Own
namespace Go.Own
def numV (x:Int):api_Value:=⟨1,x,⟨#[]⟩⟩
def textB:List api_Value→Nat→Nat→List UInt8
 | [],_,_=>[]
 | v::r,s,k=>(if s.testBit k=true then (keyW v).data.toList else [])++textB r s (k+1)
theorem aggregate_text.spec {r:api_Row} {s:Nat} (hs:s<2^32) (hv:∀ v∈r.Values,validV v=true∧(keyW v).size≤1000) (hl:r.Values.length≤1000):aggregate_text.C r s (bstr (textB r.Values s 0)):=by
 obtain ⟨q,h1,h2⟩:=aggregate_text.enter r s (fun q=>q=bstr (textB r.Values s 0)) (by
  have go:∀ (l:List api_Value) (k:Nat) (acc:List UInt8),r.Values.drop k=l→acc.length≤1000*k→acc++textB l s k=textB r.Values s 0→aggregate_text.L1 r s acc (k:Int) (fun q=>q=bstr (textB r.Values s 0)):=by
   intro l
   induction l with
   | nil=>
    intro k acc hd hk h
    have:=drop_ge hd
    apply aggregate_text.L1_step
    rw [if_neg (by omega)]
    have h:acc=textB r.Values s 0:=by simpa [textB] using h
    rw [h]
   | cons v l ih=>
    intro k acc hd hk h
    have hlt:=drop_lt hd
    obtain ⟨hv1,hv2⟩:=hv v (List.mem_of_getElem? (drop_get hd))
    have hsz:(keyW v).data.toList.length=(keyW v).size:=rfl
    have next:∀ acc':List UInt8,acc'.length≤1000*(k+1)→acc'++textB l s (k+1)=textB r.Values s 0→aggregate_text.L2 r s acc' (k:Int) (fun q=>q=bstr (textB r.Values s 0)):=fun acc' h1 h2=>by
     apply aggregate_text.L2_step
     rw [wrap_succ (by omega)]
     exact ih (k+1) acc' (drop_next hd) h1 h2
    rw [textB] at h
    apply aggregate_text.L1_step
    rw [if_pos (by omega)]
    refine ⟨v,lget_drop hd,by omega,?_⟩
    have eb:=bit_eq1 (k:=.u32) (a:=s) (i:=k) (by simpa only [top] using hs) (by decide)
    by_cases hb:s.testBit k=true
    ·rw [if_pos (eb.2 hb)]
     rw [if_pos hb] at h
     refine ⟨_,value_Key.spec hv1,by simp only;omega,next _ (by rw [List.length_append];simp only;omega) (by rw [List.append_assoc];exact h)⟩
    ·rw [if_neg (fun hh=>hb (eb.1 hh))]
     rw [if_neg hb,List.nil_append] at h
     exact next acc (by omega) h
  exact go r.Values 0 [] rfl (by simp) rfl)
 rw [← h1];exact h2
def K1 (i:Nat):ByteArray:=keysW [numV i]
def K2 (i j:Nat):ByteArray:=keysW [numV i,numV j]
structure GInv (sz:Nat→Nat) (i j:Nat) (out:List (List aggregate_group)) (m1:List (ByteArray×Int)) (m2:List (ByteArray×(Int×Int))):Prop where
 len:out.length=if j=0 then i else i+1
 cnt:∀ q,q<i→∃ a,out[q]? = some a∧a.length=sz q
 cur:j≠0→∃ a,out[i]? = some a∧a.length=j
 h1:∀ q,q<1000→mget (K1 q) m1=if q<out.length then some (q:Int) else none
 h2:∀ q p,q<1000→p<1000→mhas (K2 q p) m2=true→q<i∨q=i∧p<j
def g0:aggregate_group:=⟨[],true,(⟨0,0,(⟨#[]⟩:ByteArray)⟩:api_Value),(⟨0,0⟩:aggregate_total)⟩
namespace aggregate_groups
variable {sz:Nat→Nat} {t:api_Table} {φ:List (List aggregate_group)→Prop}
end aggregate_groups
end Go.Own
namespace Go.Own
theorem low_range {a:Int}:0≤bAnd .i64 a 4294967295∧bAnd .i64 a 4294967295<4294967296:=by
 have h:∃ q:Nat,bAnd .i64 a ((4294967295:Nat):Int)=(q:Int)∧q≤4294967295:=by
  unfold bAnd
  rw [BitVec.toNat_and,toNat_top (k:=.i64) (n:=4294967295) (by simp only [top];omega)]
  refine ⟨_,wrap_top (k:=.i64) ?_,Nat.and_le_right⟩
  have:=Nat.and_le_right (n:=(BitVec.ofInt IntKind.i64.bits a).toNat) (m:=4294967295)
  simp only [top];omega
 obtain ⟨q,h1,h2⟩:=h
 rw [show (4294967295:Int)=((4294967295:Nat):Int) from rfl,h1]
 omega
theorem low_low {q:Int} (h0:0≤q) (h:q<4294967296):bAnd .i64 q 4294967295=q:=by
 have e:=bAnd_nat (k:=.i64) (a:=q.toNat) (b:=4294967295) (by simp only [top];omega) (by simp only [top];omega)
 have e2:q.toNat &&& 4294967295=q.toNat:=by
  have:=Nat.and_two_pow_sub_one_eq_mod q.toNat 32
  rw [show (2^32-1:Nat)=4294967295 from rfl] at this
  rw [this]
  exact Nat.mod_eq_of_lt (by omega)
 rw [e2] at e
 rw [show ((q.toNat:Nat):Int)=q by omega] at e
 exact e
theorem shr_low {q:Int} (h0:0≤q) (h:q<4294967296):shrw .i64 q 32=0:=by
 have e:=shrw_nat (k:=.i64) (a:=q.toNat) (i:=32) (by simp only [top];omega)
 rw [show ((q.toNat:Nat):Int)=q by omega] at e
 rw [show (32:Int)=((32:Nat):Int) from rfl,e,Nat.div_eq_of_lt (by omega)]
 rfl
theorem wrap_wrap {a b:Int}:IntKind.wrap .i64 (a+IntKind.wrap .i64 b)=IntKind.wrap .i64 (a+b):=by
 rw [IntKind.wrap_i64,IntKind.wrap_i64,IntKind.wrap_i64];omega
theorem wrap_range {a:Int} : -9223372036854775808≤IntKind.wrap .i64 a∧IntKind.wrap .i64 a<9223372036854775808:=by
 rw [IntKind.wrap_i64];omega
def addT (s:Int×Int) (n:Int):Int×Int:=
 (IntKind.wrap .i64 (IntKind.wrap .i64 (s.1+shrw .i64 n 32)+shrw .i64 (IntKind.wrap .i64 (s.2+bAnd .i64 n 4294967295)) 32),bAnd .i64 (IntKind.wrap .i64 (s.2+bAnd .i64 n 4294967295)) 4294967295)
def plusN (n:Int):aggregate_total:=⟨IntKind.wrap .i64 (shrw .i64 n 32),bAnd .i64 n 4294967295⟩
def InvT (s:Int×Int):Prop:=(-9223372036854775808≤s.1∧s.1<9223372036854775808)∧0≤s.2∧s.2<4294967296
theorem addT_inv {s:Int×Int} {n:Int}:InvT (addT s n):=⟨wrap_range,low_range⟩
theorem normal_spec {x:aggregate_total}:aggregate_total_normal.C x ⟨IntKind.wrap .i64 (x.high+shrw .i64 x.low 32),bAnd .i64 x.low 4294967295⟩:=by
 obtain ⟨r,h1,h2⟩:=aggregate_total_normal.enter x (fun r=>r=⟨IntKind.wrap .i64 (x.high+shrw .i64 x.low 32),bAnd .i64 x.low 4294967295⟩) rfl
 rw [← h1];exact h2
theorem plus_spec {n:Int}:aggregate_total_plus.C ⟨0,0⟩ n 1 (plusN n):=by
 obtain ⟨r,h1,h2⟩:=aggregate_total_plus.enter ⟨0,0⟩ n 1 (fun r=>r=plusN n) ⟨_,normal_spec,by
  have hl:=low_range (a:=n)
  unfold plusN
  simp only [Int.mul_one]
  have e1:IntKind.wrap .i64 (bAnd .i64 n 4294967295)=bAnd .i64 n 4294967295:=wrap_id (by omega) (by omega)
  have e0:∀ x:Int,0+x=x:=fun x=>by omega
  rw [e0,e0,e1,e1,shr_low hl.1 hl.2,low_low hl.1 hl.2,Int.add_zero]
  congr 1
  have hw:=wrap_range (a:=shrw .i64 n 32)
  rw [wrap_id (x:=IntKind.wrap .i64 (shrw .i64 n 32)) hw.1 hw.2,wrap_id (x:=IntKind.wrap .i64 (shrw .i64 n 32)) hw.1 hw.2]⟩
 rw [← h1];exact h2
theorem add_spec {s:Int×Int} {n:Int}:aggregate_total_add.C ⟨s.1,s.2⟩ (plusN n) ⟨(addT s n).1,(addT s n).2⟩:=by
 obtain ⟨r,h1,h2⟩:=aggregate_total_add.enter ⟨s.1,s.2⟩ (plusN n) (fun r=>r=⟨(addT s n).1,(addT s n).2⟩) ⟨_,normal_spec,by
  unfold plusN addT
  simp only
  rw [wrap_wrap]⟩
 subst h1;exact h2
theorem add_zero {s:Int×Int} (h:InvT s):aggregate_total_add.C ⟨s.1,s.2⟩ ⟨0,0⟩ ⟨s.1,s.2⟩:=by
 obtain ⟨r,h1,h2⟩:=aggregate_total_add.enter ⟨s.1,s.2⟩ ⟨0,0⟩ (fun r=>r=⟨s.1,s.2⟩) ⟨_,normal_spec,by
  obtain ⟨⟨a1,a2⟩,a3,a4⟩:=h
  simp only [Int.add_zero]
  rw [wrap_id a1 a2,wrap_id (x:=s.2) (by omega) (by omega),shr_low a3 a4,low_low a3 a4,Int.add_zero,wrap_id a1 a2]⟩
 subst h1;exact h2
theorem addref_spec {s:Int×Int} {n:Int}:drossref51_add.C ⟨s.1,s.2⟩ n ⟨(addT s n).1,(addT s n).2⟩:=by
 obtain ⟨r,h1,h2⟩:=drossref51_add.enter ⟨s.1,s.2⟩ n (fun r=>r=⟨(addT s n).1,(addT s n).2⟩) rfl
 subst h1;exact h2
theorem addT_one {c:Nat} (h:c<1000000):addT (0,(c:Int)) 1=(0,((c+1:Nat):Int)):=by
 unfold addT
 have e1:bAnd .i64 1 4294967295=1:=low_low (by decide) (by decide)
 have e2:shrw .i64 1 32=0:=shr_low (by decide) (by decide)
 simp only [e1,e2]
 rw [wrap_id (x:=(c:Int)+1) (by omega) (by omega),shr_low (by omega) (by omega),low_low (by omega) (by omega)]
 congr 1
def fitT (h:Int):Bool:=if -2147483648≤h then decide (h≤2147483647) else false
def numR (s:Int×Int):api_Value:=⟨1,IntKind.wrap .i64 (shlw .i64 s.1 32+s.2),⟨#[]⟩⟩
theorem number_spec {s:Int×Int}:aggregate_total_number.C ⟨s.1,s.2⟩ (if fitT s.1=true then ((numR s,0):api_Value×Int) else (zeroV,7)):=by
 obtain ⟨r,h1,h2⟩:=aggregate_total_number.enter ⟨s.1,s.2⟩ (fun r=>r=if fitT s.1=true then ((numR s,0):api_Value×Int) else (zeroV,7)) (by
  unfold fitT
  by_cases a:s.1 < -2147483648
  ·rw [if_pos a,if_neg (c:=-2147483648≤s.1) (by omega),if_neg Bool.false_ne_true];rfl
  ·rw [if_neg a,if_pos (c:=-2147483648≤s.1) (by omega)]
   by_cases b:2147483647<s.1
   ·rw [if_pos b,if_neg (by rw [decide_eq_true_iff];omega)];rfl
   ·rw [if_neg b,if_pos (by rw [decide_eq_true_iff];omega)];rfl)
 rw [← h1];exact h2
theorem fits_spec {s:drossref51_Total}:drossref51_fits.C s (fitT s.High):=by
 obtain ⟨r,h1,h2⟩:=drossref51_fits.enter s (fun r=>r=fitT s.High) (by
  unfold fitT
  split<;>rfl)
 rw [← h1];exact h2
def sumS (kind attr:Int) (s:Int×Int) (r:api_Row):Int×Int:=
 if kind=1 then addT s 1 else if (atV r attr).Kind=1 then addT s (atV r attr).Num else s
theorem sumS_inv {k a:Int} {s:Int×Int} {r:api_Row} (h:InvT s):InvT (sumS k a s r):=by
 unfold sumS
 split
 ·exact addT_inv
 ·split
  ·exact addT_inv
  ·exact h
def sumG (l:List api_Condition) (kind attr:Int) (r:api_Row):aggregate_total:=
 if satF r l=true then (if kind=1 then plusN 1 else if kind=2 then (if (atV r attr).Kind=1 then plusN (atV r attr).Num else ⟨0,0⟩) else ⟨0,0⟩) else ⟨0,0⟩
def valG (l:List api_Condition) (kind attr:Int) (r:api_Row):api_Value:=
 if satF r l=true then (if kind=1 then zeroV else if kind=2 then zeroV else atV r attr) else zeroV
def grpG (l:List api_Condition) (kind attr:Int) (r:api_Row):aggregate_group:=⟨[r.ID],satF r l,valG l kind attr r,sumG l kind attr r⟩
theorem sum_step {l:List api_Condition} {k a:Int} {s:Int×Int} {r:api_Row} (hk:k=1∨k=2) (h:InvT s) :
  aggregate_total_add.C ⟨s.1,s.2⟩ (grpG l k a r).sum (if satF r l=true then ⟨(sumS k a s r).1,(sumS k a s r).2⟩ else ⟨s.1,s.2⟩):=by
 unfold grpG sumG sumS
 simp only
 by_cases hs:satF r l=true
 ·rw [if_pos hs,if_pos hs]
  by_cases k1:k=1
  ·rw [if_pos k1,if_pos k1];exact add_spec
  ·rw [if_neg k1,if_neg k1,if_pos (by omega)]
   by_cases hn:(atV r a).Kind=1
   ·rw [if_pos hn,if_pos hn];exact add_spec
   ·rw [if_neg hn,if_neg hn];exact add_zero h
 ·rw [if_neg hs,if_neg hs];exact add_zero h
theorem filter_fold {α σ:Type} {p:α→Bool} {f:σ→α→σ} {a:α} {r:List α} {s:σ}:((a::r).filter p).foldl f s=(r.filter p).foldl f (if p a=true then f s a else s):=by
 rw [List.filter_cons]
 split<;>rfl
def sumF (l:List api_Condition) (k a:Int) (rows:List api_Row):Int×Int:=(rows.filter fun r=>satF r l).foldl (sumS k a) (0,0)
theorem result_sum {l:List api_Condition} {k a:Int} {rows:List api_Row} (hk:k=1∨k=2) (hr:rows.length≤100000) :
  aggregate_choice_result.C (rows.map (grpG l k a)) k (if fitT (sumF l k a rows).1=true then ((numR (sumF l k a rows),0):api_Value×Int) else (zeroV,7)):=by
 generalize hR:(if fitT (sumF l k a rows).1=true then ((numR (sumF l k a rows),0):api_Value×Int) else (zeroV,7))=R
 obtain ⟨q,h1,h2⟩:=aggregate_choice_result.enter (rows.map (grpG l k a)) k (fun q=>q=R) (by
  have go:∀ (r:List api_Row) (i:Nat) (s:Int×Int),rows.drop i=r→InvT s→(r.filter fun r=>satF r l).foldl (sumS k a) s=sumF l k a rows→aggregate_choice_result.L1 (rows.map (grpG l k a)) s.1 s.2 (i:Int) (fun q=>q=R):=by
   intro r
   induction r with
   | nil=>
    intro i s hd hs h
    have:=drop_ge hd
    apply aggregate_choice_result.L1_step
    rw [if_neg (by rw [List.length_map];omega)]
    refine ⟨_,number_spec,?_⟩
    have h:s=sumF l k a rows:=h
    rw [← hR,← h]
   | cons x r ih=>
    intro i s hd hs h
    have hlt:=drop_lt hd
    apply aggregate_choice_result.L1_step
    rw [if_pos (by rw [List.length_map];omega)]
    refine ⟨grpG l k a x,lget_drop (r:=r.map (grpG l k a)) (by rw [← List.map_drop,hd];rfl),_,sum_step hk hs,?_⟩
    rw [wrap_succ (by omega)]
    rw [filter_fold] at h
    by_cases hx:satF x l=true
    ·rw [if_pos hx];rw [if_pos hx] at h
     exact ih (i+1) _ (drop_next hd) (sumS_inv hs) h
    ·rw [if_neg hx];rw [if_neg hx] at h
     exact ih (i+1) _ (drop_next hd) hs h
  have h0:aggregate_choice_result.L2 (rows.map (grpG l k a)) (fun q=>q=R):=by
   apply aggregate_choice_result.L2_step
   exact go rows 0 (0,0) rfl (by unfold InvT;simp) rfl
  by_cases k1:k=1
  ·rw [if_pos k1];exact h0
  ·rw [if_neg k1,if_pos (by omega)];exact h0)
 rw [← h1];exact h2
theorem count_fold {a:Int}:∀ {rows:List api_Row} {c:Nat},c+rows.length<1000000→rows.foldl (sumS 1 a) (0,(c:Int))=(0,((c+rows.length:Nat):Int))
 | [],c,_=>rfl
 | x::r,c,h=>by
  rw [List.length_cons] at h
  rw [List.foldl_cons]
  have e:sumS 1 a (0,(c:Int)) x=(0,((c+1:Nat):Int)):=by unfold sumS;rw [if_pos rfl,addT_one (by omega)]
  rw [e,count_fold (by omega),List.length_cons]
  congr 2
  omega
theorem sumF_one {l:List api_Condition} {a:Int} {rows:List api_Row} (hr:rows.length≤100000):sumF l 1 a rows=(0,(((rows.filter fun r=>satF r l).length:Nat):Int)):=by
 unfold sumF
 have hle:=List.length_filter_le (fun r=>satF r l) rows
 have:=count_fold (a:=a) (rows:=rows.filter fun r=>satF r l) (c:=0) (by omega)
 rw [Nat.zero_add] at this
 exact this
theorem numR_count {c:Nat} (h:c<1000000):numR (0,(c:Int))=⟨1,(c:Int),⟨#[]⟩⟩:=by
 unfold numR
 have:shlw .i64 0 32=0:=by unfold shlw;simp;decide
 simp only [this]
 rw [show (0:Int)+(c:Int)=c by omega,wrap_id (by omega) (by omega)]
def betterB (great:Bool) (v b:api_Value):Bool:=if great=true then decide (0<cmpV v b) else decide (cmpV v b<0)
def pstep (great:Bool) (s:aggregate_group×Bool) (g:aggregate_group):aggregate_group×Bool:=
 if g.ok=true then (if s.2=true then (if betterB great g.value s.1.value=true then (g,true) else s) else (g,true)) else s
def zeroG:aggregate_group:=⟨[],false,zeroV,⟨0,0⟩⟩
theorem aggregate_pick.spec {gs:List aggregate_group} {great:Bool} (hl:gs.length≤1000000):aggregate_pick.C gs great (gs.foldl (pstep great) (zeroG,false)):=by
 generalize hR:gs.foldl (pstep great) (zeroG,false)=R
 obtain ⟨q,h1,h2⟩:=aggregate_pick.enter gs great (fun q=>q=R) (by
  have go:∀ (r:List aggregate_group) (i:Nat) (s:aggregate_group×Bool),gs.drop i=r→r.foldl (pstep great) s=R→aggregate_pick.L1 gs great s.1.ids s.1.ok s.1.value.Kind s.1.value.Num s.1.value.Str s.1.sum.high s.1.sum.low s.2 (i:Int) (fun q=>q=R):=by
   intro r
   induction r with
   | nil=>
    intro i s hd h
    have:=drop_ge hd
    apply aggregate_pick.L1_step
    rw [if_neg (by omega)]
    exact h
   | cons g r ih=>
    intro i s hd h
    have hlt:=drop_lt hd
    rw [List.foldl_cons] at h
    have keep:pstep great s g=s→aggregate_pick.L2 gs great s.1.ids s.1.ok s.1.value.Kind s.1.value.Num s.1.value.Str s.1.sum.high s.1.sum.low s.2 (i:Int) (fun q=>q=R):=fun e=>by
     rw [e] at h
     apply aggregate_pick.L2_step
     rw [wrap_succ (by omega)]
     exact ih (i+1) s (drop_next hd) h
    have take:pstep great s g=(g,true)→aggregate_pick.L3 gs great s.1.ids s.1.ok s.1.value.Kind s.1.value.Num s.1.value.Str s.1.sum.high s.1.sum.low g (i:Int) (fun q=>q=R):=fun e=>by
     rw [e] at h
     apply aggregate_pick.L3_step
     apply aggregate_pick.L2_step
     rw [wrap_succ (by omega)]
     exact ih (i+1) (g,true) (drop_next hd) h
    apply aggregate_pick.L1_step
    rw [if_pos (by omega)]
    refine ⟨g,lget_drop hd,?_⟩
    unfold pstep betterB at keep take
    by_cases ho:g.ok=true
    ·rw [if_pos ho];rw [if_pos ho] at keep take
     refine ⟨_,value_Compare.spec,?_⟩
     by_cases hf:s.2=true
     ·rw [if_pos hf];rw [if_pos hf] at keep take
      by_cases hg:great=true
      ·rw [if_pos hg];rw [if_pos hg] at keep take
       by_cases hb:0<cmpV g.value s.1.value
       ·rw [if_pos (by exact hb)];exact take (if_pos (decide_eq_true hb))
       ·rw [if_neg (by exact hb),if_pos hg];exact keep (if_neg (fun hh=>hb (of_decide_eq_true hh)))
      ·rw [if_neg hg,if_neg hg];rw [if_neg hg] at keep take
       by_cases hb:cmpV g.value s.1.value<0
       ·rw [if_pos (by exact hb)];exact take (if_pos (decide_eq_true hb))
       ·rw [if_neg (by exact hb)];exact keep (if_neg (fun hh=>hb (of_decide_eq_true hh)))
     ·rw [if_neg hf];exact take (if_neg hf)
    ·rw [if_neg ho];exact keep (if_neg ho)
  exact go gs 0 (zeroG,false) rfl hR)
 rw [← h1];exact h2
def vstep (great:Bool) (o:Option api_Value) (v:api_Value):Option api_Value:=
 match o with
 | none=>some v
 | some b=>some (if betterB great v b=true then v else b)
def bestF (l:List api_Condition) (great:Bool) (a:Int) (rows:List api_Row):Option api_Value:=
 ((rows.filter fun r=>satF r l).map fun r=>atV r a).foldl (vstep great) none
theorem pick_best {l:List api_Condition} {k a:Int} {great:Bool} (hk:k≠1∧k≠2):∀ (rows:List api_Row) (s:aggregate_group×Bool) (o:Option api_Value),(if s.2=true then some s.1.value else none)=o →
  (if ((rows.map (grpG l k a)).foldl (pstep great) s).2=true then some ((rows.map (grpG l k a)).foldl (pstep great) s).1.value else none)=((rows.filter fun r=>satF r l).map fun r=>atV r a).foldl (vstep great) o
 | [],_,_,h=>h
 | x::r,s,o,h=>by
  rw [List.map_cons,List.foldl_cons,List.filter_cons]
  by_cases hx:satF x l=true
  ·rw [if_pos hx,List.map_cons,List.foldl_cons]
   refine pick_best hk r _ _ ?_
   have ev:(grpG l k a x).value=atV x a:=by
    unfold grpG valG
    simp only
    rw [if_pos hx,if_neg hk.1,if_neg hk.2]
   unfold pstep vstep
   rw [if_pos (show (grpG l k a x).ok=true from hx)]
   by_cases hf:s.2=true
   ·rw [if_pos hf] at h ⊢
    subst h
    rw [ev]
    by_cases hb:betterB great (atV x a) s.1.value=true
    ·rw [if_pos hb,if_pos rfl]
     show some (grpG l k a x).value=some (if betterB great (atV x a) s.1.value=true then atV x a else s.1.value)
     rw [if_pos hb,ev]
    ·rw [if_neg hb,if_pos hf]
     show some s.1.value=some (if betterB great (atV x a) s.1.value=true then atV x a else s.1.value)
     rw [if_neg hb]
   ·rw [if_neg hf] at h ⊢
    subst h
    rw [if_pos rfl];exact congrArg some ev
  ·rw [if_neg hx]
   refine pick_best hk r _ _ ?_
   unfold pstep
   rw [if_neg (show ¬ (grpG l k a x).ok=true from hx)]
   exact h
theorem best_some {great:Bool}:∀ {vs:List api_Value} {b:api_Value},∃ c,vs.foldl (vstep great) (some b)=some c
 | [],b=>⟨b,rfl⟩
 | v::r,b=>best_some (vs:=r)
end Go.Own
namespace Go.Own
def TextOK (r:api_Row):Prop:=(∀ v∈r.Values,validV v=true)∧r.Values.length≤16
theorem text_ok {r:api_Row} (h:TextOK r) {s:Nat} (hs:s<2^32):aggregate_text.C r s (bstr (textB r.Values s 0)):=
 aggregate_text.spec hs (fun v hv=>⟨h.1 v hv,by have:=keyI_len (h.1 v hv);rw [keyS_size];omega⟩) (by have:=h.2;omega)
theorem kind_ok {n:Nat} {k a:Int} (h:kindE n k a=0):1≤k∧k≤4∧(k≠1→0≤a∧a<n):=by
 unfold kindE at h
 split at h
 ·cases h
 ·split at h
  ·cases h
  ·split at h
   ·exact ⟨by omega,by omega,fun _=>by omega⟩
   ·split at h
    ·cases h
    ·split at h
     ·cases h
     ·exact ⟨by omega,by omega,fun _=>by omega⟩
theorem groups_one {nm:ByteArray} {at_:List ByteArray} {r:api_Row} {l:List api_Condition} {k a:Int} (hr:TextOK r) (hl:l.length≤1000) (hc:∀ c∈l,cond1 r.Values.length c=0) (hk:kindE r.Values.length k a=0) :
  aggregate_groups.C ⟨nm,at_,[r]⟩ 0 l k a [[grpG l k a r]]:=by
 obtain ⟨q,h1,h2⟩:=aggregate_groups.enter ⟨nm,at_,[r]⟩ 0 l k a (fun q=>q=[[grpG l k a r]]) (by
  have tb:=text_ok hr (s:=0) (by decide)
  have tp:=text_ok hr (s:=4294967295) (by decide)
  generalize bstr (textB r.Values 0 0)=b at tb
  generalize bstr (textB r.Values 4294967295 0)=p at tp
  have e1:IntKind.wrap .i64 ((0:Int)+1)=1:=by decide
  have last:∀ (m1:List (ByteArray×Int)) (m2:List (ByteArray×(Int×Int))) (g:aggregate_group),g=grpG l k a r→aggregate_groups.L2 ⟨nm,at_,[r]⟩ 0 l k a [[g]] m1 m2 0 (fun q=>q=[[grpG l k a r]]):=fun m1 m2 g hg=>by
   apply aggregate_groups.L2_step
   rw [e1]
   apply aggregate_groups.L1_step
   rw [if_neg (by simp),hg]
  have third:∀ (m1:List (ByteArray×Int)) (m2:List (ByteArray×(Int×Int))),mgetD p m2 ⟨0,0⟩=⟨0,0⟩→aggregate_groups.L3 ⟨nm,at_,[r]⟩ 0 l k a [[⟨[],satF r l,zeroV,⟨0,0⟩⟩]] m1 m2 r p 0 0 (fun q=>q=[[grpG l k a r]]):=fun m1 m2 hp=>by
   apply aggregate_groups.L3_step
   rw [hp]
   refine ⟨_,rfl,_,rfl,by simp,?_⟩
   obtain ⟨k1,k2,k3⟩:=kind_ok hk
   by_cases hs:satF r l=true
   ·rw [if_pos (by exact hs)]
    by_cases hk1:k=1
    ·rw [if_pos hk1]
     exact ⟨_,plus_spec,last _ _ _ (by unfold grpG valG sumG;rw [if_pos hs,if_pos hs,if_pos hk1,if_pos hk1];rfl)⟩
    ·obtain ⟨a0,a1⟩:=k3 hk1
     rw [if_neg hk1]
     by_cases hk2:k=2
     ·rw [if_pos hk2]
      refine ⟨_,at_some a0 a1,?_⟩
      by_cases hn:(atV r a).Kind=1
      ·rw [if_pos hn]
       exact ⟨_,plus_spec,last _ _ _ (by unfold grpG valG sumG;rw [if_pos hs,if_pos hs,if_neg hk1,if_neg hk1,if_pos hk2,if_pos hk2,if_pos hn];rfl)⟩
      ·rw [if_neg hn]
       exact last _ _ _ (by unfold grpG valG sumG;rw [if_pos hs,if_pos hs,if_neg hk1,if_neg hk1,if_pos hk2,if_pos hk2,if_neg hn];rfl)
     ·rw [if_neg hk2]
      exact ⟨_,at_some a0 a1,last _ _ _ (by unfold grpG valG sumG;rw [if_pos hs,if_pos hs,if_neg hk1,if_neg hk1,if_neg hk2,if_neg hk2];rfl)⟩
   ·rw [if_neg (by exact hs)]
    exact last _ _ _ (by unfold grpG valG sumG;rw [if_neg hs,if_neg hs];rfl)
  apply aggregate_groups.L1_step
  rw [if_pos (by simp)]
  refine ⟨r,rfl,b,tb,p,tp,?_⟩
  rw [if_neg (by simp [mhas,mget])]
  refine ⟨by simp,?_⟩
  apply aggregate_groups.L4_step
  rw [if_neg (by simp [mhas,mget])]
  have e2:mgetD b (mset b (([]:List (List aggregate_group)).length:Int) []) 0=0:=by simp [mgetD,mset,mget]
  rw [e2]
  refine ⟨[],rfl,_,aggregate_satisfies.spec hl hc,by simp,?_⟩
  exact third _ _ (by simp [mgetD,mset,mget]))
 rw [← h1];exact h2
def valR (l:List api_Condition) (k a:Int) (rows:List api_Row):api_Value×Bool×Int:=
 if k=1 then (⟨1,(((rows.filter fun r=>satF r l).length:Nat):Int),⟨#[]⟩⟩,true,0)
 else if k=2 then (if fitT (sumF l k a rows).1=true then (numR (sumF l k a rows),true,0) else (zeroV,false,7))
 else match bestF l (k == 4) a rows with
  | none=>(zeroV,false,0)
  | some v=>(v,true,0)
theorem result_best {l:List api_Condition} {k a:Int} {rows:List api_Row} {v:api_Value} (hk:k≠1∧k≠2) (hr:rows.length≤100000) (hb:bestF l (k == 4) a rows=some v) :
  aggregate_choice_result.C (rows.map (grpG l k a)) k (v,0):=by
 obtain ⟨q,h1,h2⟩:=aggregate_choice_result.enter (rows.map (grpG l k a)) k (fun q=>q=(v,0)) (by
  rw [if_neg hk.1,if_neg hk.2]
  refine ⟨_,aggregate_pick.spec (by rw [List.length_map];omega),?_⟩
  have h:=pick_best (l:=l) (k:=k) (a:=a) (great:=(k == 4)) hk rows (zeroG,false) none (if_neg Bool.false_ne_true)
  unfold bestF at hb
  rw [hb] at h
  generalize (rows.map (grpG l k a)).foldl (pstep (k == 4)) (zeroG,false)=s at h
  split at h
  ·rw [Option.some.inj h]
  ·cases h)
 rw [← h1];exact h2
theorem best_none {l:List api_Condition} {g:Bool} {a:Int} {rows:List api_Row} (h:rows.any (fun r=>satF r l)=false):bestF l g a rows=none:=by
 unfold bestF
 have:(rows.filter fun r=>satF r l)=[]:=by
  rw [List.filter_eq_nil_iff]
  intro x hx
  rw [List.any_eq_false] at h
  exact h x hx
 rw [this];rfl
theorem best_is {l:List api_Condition} {g:Bool} {a:Int} {rows:List api_Row} (h:rows.any (fun r=>satF r l)=true):∃ v,bestF l g a rows=some v:=by
 unfold bestF
 obtain ⟨x,hx,hs⟩:=List.any_eq_true.1 h
 have:x∈rows.filter fun r=>satF r l:=List.mem_filter.2 ⟨hx,hs⟩
 cases hf:rows.filter fun r=>satF r l with
 | nil=>rw [hf] at this;cases this
 | cons y r=>exact best_some
def RowsOK (t:api_Table):Prop:=t.Rows.length≤1000∧∀ r∈t.Rows,TextOK r∧r.Values.length=t.Attrs.length
theorem TV.rowsOK {t:api_Table} (h:TV t):RowsOK t:=⟨h.nr,fun r hr=>⟨⟨h.val hr,by rw [h.len hr];exact h.na⟩,h.len hr⟩⟩
def valT (t:api_Table) (l:List api_Condition) (k a:Int):api_Value×Bool×Int:=if valE t l k a=0 then valR l k a t.Rows else (zeroV,false,valE t l k a)
theorem valE_zero {t:api_Table} {l:List api_Condition} {k a:Int} (h:valE t l k a=0):TV t∧condE t.Attrs.length l=0∧kindE t.Attrs.length k a=0:=by
 unfold valE at h
 by_cases h0:tableF t=0
 ·rw [if_pos h0] at h
  by_cases h1:condE t.Attrs.length l=0
  ·rw [if_pos h1] at h
   exact ⟨tableF_iff.1 h0,h1,h⟩
  ·rw [if_neg h1] at h;exact absurd h h1
 ·rw [if_neg h0] at h;exact absurd h h0
theorem aggregate_Value.spec {t:api_Table} {l:List api_Condition} {k a:Int} (hl:l.length≤1000):aggregate_Value.C t l k a (valT t l k a):=by
 obtain ⟨q,h1,h2⟩:=aggregate_Value.enter t l k a (fun q=>q=valT t l k a) (by
  refine ⟨_,aggregate_check.spec hl,?_⟩
  unfold valT
  by_cases h0:valE t l k a=0
  ·rw [if_pos h0,if_pos h0]
   obtain ⟨ht,hcs,hk⟩:=valE_zero h0
   have hR:=ht.rowsOK
   obtain ⟨k1,k2,k3⟩:=kind_ok hk
   have fin_:∀ b:Bool,(b || t.Rows.any fun r=>satF r l)=((decide (k=1∨k=2)) || t.Rows.any fun r=>satF r l)→aggregate_Value.L1 t l k a (t.Rows.map (grpG l k a)) (b || t.Rows.any fun r=>satF r l) (t.Rows.length:Int) (fun q=>q=valR l k a t.Rows):=fun b hb=>by
    apply aggregate_Value.L1_step
    rw [if_neg (by omega),hb]
    by_cases hk12:k=1∨k=2
    ·rw [if_pos (by rw [decide_eq_true hk12];rfl)]
     refine ⟨_,result_sum hk12 (by have:=hR.1;omega),?_⟩
     unfold valR
     by_cases hk1:k=1
     ·rw [if_pos hk1]
      subst hk1
      have hle:=List.length_filter_le (fun r=>satF r l) t.Rows
      have hR1:=hR.1
      have ef:fitT 0=true:=by decide
      rw [sumF_one (by omega)]
      simp only
      rw [if_pos ef,numR_count (by omega)]
      rfl
     ·have hk2:k=2:=by omega
      rw [if_neg hk1,if_pos hk2]
      by_cases hf:fitT (sumF l k a t.Rows).1=true
      ·rw [if_pos hf,if_pos hf];rfl
      ·rw [if_neg hf,if_neg hf];rfl
    ·rw [decide_eq_false hk12,Bool.false_or]
     unfold valR
     rw [if_neg (fun h=>hk12 (.inl h)),if_neg (fun h=>hk12 (.inr h))]
     cases hany:t.Rows.any fun r=>satF r l with
     | true=>
      obtain ⟨v,hv⟩:=best_is (l:=l) (g:=(k == 4)) (a:=a) hany
      rw [if_pos rfl,hv]
      exact ⟨_,result_best ⟨fun h=>hk12 (.inl h),fun h=>hk12 (.inr h)⟩ (by have:=hR.1;omega) hv,rfl⟩
     | false=>
      rw [if_neg Bool.false_ne_true,best_none hany]
      rfl
   have go:∀ (r:List api_Row) (i:Nat) (gs:List aggregate_group) (b:Bool),t.Rows.drop i=r→gs.length=i→gs++r.map (grpG l k a)=t.Rows.map (grpG l k a)→(b || r.any fun r=>satF r l)=((decide (k=1∨k=2)) || t.Rows.any fun r=>satF r l)→aggregate_Value.L1 t l k a gs b (i:Int) (fun q=>q=valR l k a t.Rows):=by
    intro r
    induction r with
    | nil=>
     intro i gs b hd hi hg hb
     have h:=drop_ge hd
     have hlen:=congrArg List.length hg
     rw [List.map_nil,List.append_nil,List.length_map] at hlen
     rw [List.map_nil,List.append_nil] at hg
     have ei:i=t.Rows.length:=by omega
     rw [List.any_nil,Bool.or_false] at hb
     have:=fin_ (b || t.Rows.any fun r=>satF r l) (by rw [Bool.or_assoc,Bool.or_self,hb];cases decide (k=1∨k=2)<;>simp)
     rw [hg,ei]
     rw [show (((b || t.Rows.any fun r=>satF r l) || t.Rows.any fun r=>satF r l))=b by rw [hb];cases decide (k=1∨k=2)<;>cases (t.Rows.any fun r=>satF r l)<;>rfl] at this
     exact this
    | cons x r ih=>
     intro i gs b hd hi hg hb
     have hlt:=drop_lt hd
     have hx:=List.mem_of_getElem? (drop_get hd)
     obtain ⟨hx1,hx2⟩:=hR.2 x hx
     apply aggregate_Value.L1_step
     rw [if_pos (by omega)]
     refine ⟨x,lget_drop hd,_,groups_one hx1 hl (fun c hc=>by rw [hx2];exact condE_ok hcs c hc) (by rw [hx2];exact hk),_,rfl,_,rfl,?_⟩
     have next:aggregate_Value.L3 t l k a gs (b || satF x l) (grpG l k a x) (i:Int) (fun q=>q=valR l k a t.Rows):=by
      apply aggregate_Value.L3_step
      refine ⟨by have:=hR.1;omega,?_⟩
      rw [wrap_succ (by have:=hR.1;omega)]
      refine ih (i+1) _ _ (drop_next hd) (by rw [List.length_append];simp;omega) (by rw [List.append_assoc];exact hg) ?_
      rw [← hb,List.any_cons,Bool.or_assoc]
     cases b with
     | true=>rw [if_pos rfl];exact next
     | false=>rw [if_neg Bool.false_ne_true];exact next
   by_cases hk1:k=1
   ·rw [if_pos hk1]
    apply aggregate_Value.L2_step
    exact go t.Rows 0 [] true rfl rfl rfl (by rw [decide_eq_true (.inl hk1)])
   ·rw [if_neg hk1]
    apply aggregate_Value.L2_step
    refine go t.Rows 0 [] (k == 2) rfl rfl rfl ?_
    by_cases hk2:k=2
    ·rw [decide_eq_true (.inr hk2),hk2];rfl
    ·rw [decide_eq_false (by omega),beq_false_of_ne hk2]
  ·rw [if_neg h0,if_neg h0];rfl)
 rw [← h1];exact h2
theorem drossref51_Rows.spec {t:api_Table} {l:List api_Condition} (hl:l.length≤1000) (ht:t.Rows.length≤1000000) (hv:∀ r∈t.Rows,(∀ v∈r.Values,validV v=true)∧∀ c∈l,cond1 r.Values.length c=0):drossref51_Rows.C t l (t.Rows.filter fun r=>satF r l):=by
 obtain ⟨q,h1,h2⟩:=drossref51_Rows.enter t l (fun q=>q=t.Rows.filter fun r=>satF r l) (by
  have go:∀ (r:List api_Row) (i:Nat) (acc:List api_Row),t.Rows.drop i=r→acc.length≤i→(acc++r.filter fun r=>satF r l)=(t.Rows.filter fun r=>satF r l)→drossref51_Rows.L1 t l acc (i:Int) (fun q=>q=t.Rows.filter fun r=>satF r l):=by
   intro r
   induction r with
   | nil=>
    intro i acc hd hi h
    have:=drop_ge hd
    apply drossref51_Rows.L1_step
    rw [if_neg (by omega)]
    rw [← h,List.filter_nil,List.append_nil]
   | cons x r ih=>
    intro i acc hd hi h
    have hlt:=drop_lt hd
    have hx:=hv x (List.mem_of_getElem? (drop_get hd))
    apply drossref51_Rows.L1_step
    rw [if_pos (by omega)]
    refine ⟨x,lget_drop hd,_,drossref51_satisfies.spec hl hx.1 hx.2,?_⟩
    rw [List.filter_cons] at h
    by_cases hs:satF x l=true
    ·rw [if_pos hs] at h ⊢
     refine ⟨by omega,?_⟩
     apply drossref51_Rows.L2_step
     rw [wrap_succ (by omega)]
     exact ih (i+1) _ (drop_next hd) (by rw [List.length_append];simp;omega) (by rw [List.append_assoc];exact h)
    ·rw [if_neg hs] at h ⊢
     apply drossref51_Rows.L2_step
     rw [wrap_succ (by omega)]
     exact ih (i+1) _ (drop_next hd) (by omega) h
  exact go t.Rows 0 [] rfl (by simp) rfl)
 rw [← h1];exact h2
def refR (k a:Int) (rows:List api_Row):drossref51_Result:=
 if k=1 then ⟨⟨1,((rows.length:Nat):Int),⟨#[]⟩⟩,⟨0,0⟩,true⟩
 else if k=2 then ⟨if fitT (rows.foldl (sumS k a) (0,0)).1=true then numR (rows.foldl (sumS k a) (0,0)) else ⟨1,0,⟨#[]⟩⟩,⟨(rows.foldl (sumS k a) (0,0)).1,(rows.foldl (sumS k a) (0,0)).2⟩,true⟩
 else ⟨((rows.map fun r=>atV r a).foldl (vstep (k == 4)) none).getD zeroV,⟨0,0⟩,((rows.map fun r=>atV r a).foldl (vstep (k == 4)) none).isSome⟩
theorem drossref51_Of.spec {rows:List api_Row} {k a:Int} (hl:rows.length≤1000000) (hk:1≤k∧k≤4) (hv:k≠1→∀ r∈rows,(∀ v∈r.Values,validV v=true)∧0≤a∧a<r.Values.length):drossref51_Of.C rows k a (refR k a rows):=by
 generalize hR:refR k a rows=R
 obtain ⟨q,h1,h2⟩:=drossref51_Of.enter rows k a (fun q=>q=R) (by
  unfold refR at hR
  by_cases hk1:k=1
  ·rw [if_pos hk1];rw [if_pos hk1] at hR;exact hR
  ·rw [if_neg hk1];rw [if_neg hk1] at hR
   have hv:=hv hk1
   by_cases hk2:k=2
   ·rw [if_pos hk2];rw [if_pos hk2] at hR
    have go:∀ (r:List api_Row) (i:Nat) (s:Int×Int),rows.drop i=r→r.foldl (sumS k a) s=rows.foldl (sumS k a) (0,0)→drossref51_Of.L1 rows a s.1 s.2 (i:Int) (fun q=>q=R):=by
     intro r
     induction r with
     | nil=>
      intro i s hd h
      have:=drop_ge hd
      have h:s=rows.foldl (sumS k a) (0,0):=h
      rw [← h] at hR
      apply drossref51_Of.L1_step
      rw [if_neg (by omega)]
      refine ⟨_,fits_spec,?_⟩
      by_cases hf:fitT s.1=true
      ·rw [if_pos (by exact hf)];rw [if_pos hf] at hR;exact hR
      ·rw [if_neg (by exact hf)];rw [if_neg hf] at hR;exact hR
     | cons x r ih=>
      intro i s hd h
      have hlt:=drop_lt hd
      obtain ⟨v1,v2,v3⟩:=hv x (List.mem_of_getElem? (drop_get hd))
      have next:∀ s',sumS k a s x=s'→drossref51_Of.L3 rows a s'.1 s'.2 (i:Int) (fun q=>q=R):=fun s' hs=>by
       apply drossref51_Of.L3_step
       rw [wrap_succ (by omega)]
       refine ih (i+1) s' (drop_next hd) ?_
       rw [← hs];exact h
      apply drossref51_Of.L1_step
      rw [if_pos (by omega)]
      refine ⟨x,lget_drop hd,_,at_some v2 v3,?_⟩
      unfold sumS at next
      rw [if_neg hk1] at next
      by_cases hn:(atV x a).Kind=1
      ·rw [if_pos hn];rw [if_pos hn] at next
       exact ⟨_,addref_spec,next _ rfl⟩
      ·rw [if_neg hn];rw [if_neg hn] at next
       exact next _ rfl
    exact go rows 0 (0,0) rfl rfl
   ·rw [if_neg hk2];rw [if_neg hk2] at hR
    have go:∀ (r:List api_Row) (i:Nat) (o:Option api_Value),rows.drop i=r→(i=0↔o=none)→(r.map fun r=>atV r a).foldl (vstep (k == 4)) o=(rows.map fun r=>atV r a).foldl (vstep (k == 4)) none→drossref51_Of.L2 rows k a (o.getD zeroV).Kind (o.getD zeroV).Num (o.getD zeroV).Str o.isSome (i:Int) (fun q=>q=R):=by
     intro r
     induction r with
     | nil=>
      intro i o hd hi h
      have:=drop_ge hd
      have h:o=(rows.map fun r=>atV r a).foldl (vstep (k == 4)) none:=h
      rw [← h] at hR
      apply drossref51_Of.L2_step
      rw [if_neg (by omega)]
      exact hR
     | cons x r ih=>
      intro i o hd hi h
      have hlt:=drop_lt hd
      have hx:=List.mem_of_getElem? (drop_get hd)
      obtain ⟨v1,v2,v3⟩:=hv x hx
      have hat:=at_some v2 v3
      rw [List.map_cons,List.foldl_cons] at h
      have keep:vstep (k == 4) o (atV x a)=o→o≠none→drossref51_Of.L5 rows k a (o.getD zeroV).Kind (o.getD zeroV).Num (o.getD zeroV).Str o.isSome (i:Int) (fun q=>q=R):=fun e hn=>by
       rw [e] at h
       apply drossref51_Of.L5_step
       rw [wrap_succ (by omega)]
       exact ih (i+1) o (drop_next hd) ⟨fun hh=>by omega,fun hh=>absurd hh hn⟩ h
      have take:vstep (k == 4) o (atV x a)=some (atV x a)→drossref51_Of.L4 rows k a (o.getD zeroV).Kind (o.getD zeroV).Num (o.getD zeroV).Str o.isSome (i:Int) (atV x a) (fun q=>q=R):=fun e=>by
       rw [e] at h
       apply drossref51_Of.L4_step
       apply drossref51_Of.L5_step
       rw [wrap_succ (by omega)]
       exact ih (i+1) (some (atV x a)) (drop_next hd) ⟨fun hh=>(by omega),fun hh=>by cases hh⟩ h
      apply drossref51_Of.L2_step
      rw [if_pos (by omega)]
      refine ⟨x,lget_drop hd,_,hat,_,drossref01_Compare.spec (by have:=valid_str (v1 _ (List.mem_of_getElem? (lget_some hat).2));unfold Big;omega),?_⟩
      by_cases hi0:i=0
      ·rw [if_pos (by omega)]
       have ho:=hi.1 hi0
       exact take (by rw [ho];rfl)
      ·rw [if_neg (by omega)]
       cases o with
       | none=>exact absurd (hi.2 rfl) hi0
       | some b=>
        have ev:vstep (k == 4) (some b) (atV x a)=some (if betterB (k == 4) (atV x a) b=true then atV x a else b):=rfl
        rw [ev] at keep take
        unfold betterB at keep take
        have hg:(some b:Option api_Value).getD zeroV=b:=rfl
        rw [hg] at keep take ⊢
        by_cases hk3:k=3
        ·rw [if_pos hk3]
         have e4:¬ (k == 4)=true:=by rw [hk3];decide
         rw [if_neg e4] at keep take
         by_cases hb:cmpV (atV x a) b<0
         ·rw [if_pos (by exact hb)]
          exact take (by rw [if_pos (decide_eq_true hb)])
         ·rw [if_neg (by exact hb),if_neg (by omega)]
          exact keep (by rw [if_neg (fun hh=>hb (of_decide_eq_true hh))]) (by simp)
        ·rw [if_neg hk3,if_pos (by omega)]
         have e4:(k == 4)=true:=by rw [show k=4 by omega];decide
         rw [if_pos e4] at keep take
         by_cases hb:0<cmpV (atV x a) b
         ·rw [if_pos (by exact hb)]
          exact take (by rw [if_pos (decide_eq_true hb)])
         ·rw [if_neg (by exact hb)]
          exact keep (by rw [if_neg (fun hh=>hb (of_decide_eq_true hh))]) (by simp)
    exact go rows 0 none rfl ⟨fun _=>rfl,fun _=>rfl⟩ rfl)
 rw [← h1];exact h2
theorem drossref51_Value.spec {t:api_Table} {l:List api_Condition} {k a:Int} (hl:l.length≤1000) :
  ∃ r,drossref51_Value.C t l k a r∧r.1.Value=(valT t l k a).1∧r.1.OK=(valT t l k a).2.1∧r.2=(valT t l k a).2.2:=by
 obtain ⟨q,h1,h2⟩:=drossref51_Value.enter t l k a (fun r=>r.1.Value=(valT t l k a).1∧r.1.OK=(valT t l k a).2.1∧r.2=(valT t l k a).2.2) (by
  refine ⟨_,drossref51_Error.spec hl,?_⟩
  unfold valT
  by_cases h0:valE t l k a=0
  ·rw [if_pos h0,if_pos h0]
   obtain ⟨ht,hcs,hk⟩:=valE_zero h0
   have hR:=ht.rowsOK
   obtain ⟨k1,k2,k3⟩:=kind_ok hk
   have hle:=List.length_filter_le (fun r=>satF r l) t.Rows
   have hR1:=hR.1
   refine ⟨_,drossref51_Rows.spec hl (by omega) (fun r hr=>⟨(hR.2 r hr).1.1,fun c hc=>by rw [(hR.2 r hr).2];exact condE_ok hcs c hc⟩),_,drossref51_Of.spec (by omega) ⟨k1,k2⟩ (fun hk1 r hr=>?_),_,fits_spec,?_⟩
   ·have hr:=(List.mem_filter.1 hr).1
    obtain ⟨a0,a1⟩:=k3 hk1
    exact ⟨(hR.2 r hr).1.1,a0,by rw [(hR.2 r hr).2];exact a1⟩
   ·unfold refR valR
    have f0:fitT 0=true:=by decide
    by_cases hk1:k=1
    ·rw [if_pos hk1,if_pos hk1,if_pos (by exact f0)]
     exact ⟨rfl,rfl,rfl⟩
    ·rw [if_neg hk1,if_neg hk1]
     by_cases hk2:k=2
     ·rw [if_pos hk2,if_pos hk2]
      have es:(t.Rows.filter fun r=>satF r l).foldl (sumS k a) (0,0)=sumF l k a t.Rows:=rfl
      rw [es]
      by_cases hf:fitT (sumF l k a t.Rows).1=true
      ·rw [if_pos (by exact hf),if_pos hf,if_pos hf]
       exact ⟨rfl,rfl,rfl⟩
      ·rw [if_neg (by exact hf),if_neg hf]
       exact ⟨rfl,rfl,rfl⟩
     ·rw [if_neg hk2,if_neg hk2,if_pos (by exact f0)]
      have es:((t.Rows.filter fun r=>satF r l).map fun r=>atV r a).foldl (vstep (k == 4)) none=bestF l (k == 4) a t.Rows:=rfl
      rw [es]
      cases bestF l (k == 4) a t.Rows with
      | none=>exact ⟨rfl,rfl,rfl⟩
      | some v=>exact ⟨rfl,rfl,rfl⟩
  ·rw [if_neg h0,if_neg h0];exact ⟨rfl,rfl,rfl⟩)
 exact ⟨q,h2,h1⟩
end Go.Own
namespace Go.Own
theorem drossref03_Strings.self {l:List ByteArray} (hn:l.length<Big):drossref03_Strings.C l l true:=by
 obtain ⟨r,h1,h2⟩:=drossref03_Strings.enter l l (fun r=>r=true) (by
  rw [if_pos rfl]
  have:∀ (r:List ByteArray) (k:Nat),l.drop k=r→drossref03_Strings.L1 l l k (fun r=>r=true):=by
   intro r
   induction r with
   | nil=>
    intro k hd
    have:=drop_ge hd
    apply drossref03_Strings.L1_step
    rw [if_neg (by omega)]
   | cons s r ih=>
    intro k hd
    have hlt:=drop_lt hd
    apply drossref03_Strings.L1_step
    rw [if_pos (by omega)]
    refine ⟨s,lget_drop hd,s,lget_drop hd,?_⟩
    rw [if_pos rfl,wrap_succ (by unfold Big at hn;omega)]
    exact ih (k+1) (drop_next hd)
  exact this l 0 rfl)
 subst h1;exact h2
theorem drossref03_EqualRows.self {a:api_Row} (h:StrOK a.Values):drossref03_EqualRows.C a a true:=by
 obtain ⟨r,h1,h2⟩:=drossref03_EqualRows.enter a a (fun r=>r=true) (by
  rw [if_pos rfl]
  exact ⟨_,drossref01_Same.spec h,decide_eq_true rfl⟩)
 subst h1;exact h2
theorem drossref03_Equal.self {t:api_Table} (ha:t.Attrs.length<Big) (hr:t.Rows.length<Big) (h:∀ r∈t.Rows,StrOK r.Values):drossref03_Equal.C t t true:=by
 obtain ⟨r,h1,h2⟩:=drossref03_Equal.enter t t (fun r=>r=true) (by
  rw [if_pos rfl]
  refine ⟨true,drossref03_Strings.self ha,?_⟩
  rw [if_pos rfl,if_pos rfl]
  have:∀ (q:List api_Row) (k:Nat),t.Rows.drop k=q→drossref03_Equal.L1 t t k (fun r=>r=true):=by
   intro q
   induction q with
   | nil=>
    intro k hd
    have:=drop_ge hd
    apply drossref03_Equal.L1_step
    rw [if_neg (by omega)]
   | cons s q ih=>
    intro k hd
    have hlt:=drop_lt hd
    apply drossref03_Equal.L1_step
    rw [if_pos (by omega)]
    refine ⟨s,lget_drop hd,s,lget_drop hd,true,drossref03_EqualRows.self (h s (List.mem_of_getElem? (drop_get hd))),?_⟩
    rw [if_pos rfl,wrap_succ (by unfold Big at hr;omega)]
    exact ih (k+1) (drop_next hd)
  exact this t.Rows 0 rfl)
 subst h1;exact h2
end Go.Own
namespace Go.Own
theorem index_int {l:List Int} {x:Int} (hl:l.length≤1000000):slices_Index_sint64_int64.C l x (ixI (fun a=>decide (x=a)) l):=by
 obtain ⟨q,h1,h2⟩:=slices_Index_sint64_int64.enter l x (fun q=>q=ixI (fun a=>decide (x=a)) l) (by
  refine index_loop (l:=l) (p:=fun a=>decide (x=a)) (L:=fun i=>slices_Index_sint64_int64.L1 l x i _) (φ:=fun q=>q=ixI (fun a=>decide (x=a)) l) ?_ ?_ rfl
  ·intro h;apply slices_Index_sint64_int64.L1_step;rw [if_neg (by omega)];exact h
  ·intro k a hk hlt h
   apply slices_Index_sint64_int64.L1_step
   rw [if_pos (by omega)]
   refine ⟨a,lget_of hk,?_⟩
   rw [wrap_succ (by omega)]
   by_cases hx:x=a
   ·rw [if_pos hx];rw [if_pos (decide_eq_true hx)] at h;exact h
   ·rw [if_neg hx];rw [if_neg (by rw [decide_eq_true_iff];exact hx)] at h;exact h)
 rw [← h1];exact h2
theorem contains_int {l:List Int} {x:Int} (hl:l.length≤1000000):slices_Contains_sint64_int64.C l x (decide (x∈l)):=by
 obtain ⟨q,h1,h2⟩:=slices_Contains_sint64_int64.enter l x (fun q=>q=decide (x∈l)) ⟨_,index_int hl,by
  rw [ixI_any,Bool.eq_iff_iff,List.any_eq_true,decide_eq_true_iff]
  constructor
  ·rintro ⟨y,hy,he⟩
   rw [of_decide_eq_true he];exact hy
  ·exact fun hy=>⟨x,hy,decide_eq_true rfl⟩⟩
 rw [← h1];exact h2
theorem ids_sorted {n:Nat}:∀ {l:List api_Row} {last:Int},rowsF n last l=0→l.Pairwise (fun a b=>a.ID<b.ID)
 | [],_,_=>.nil
 | r::l,last,h=>by
  have h':rowsF n r.ID l=0:=by
   simp only [rowsF] at h
   split at h
   ·cases h
   ·split at h
    ·split at h
     ·exact h
     ·cases h
    ·cases h
  exact .cons (fun x hx=>(rowsF_row h' x hx).2.2) (ids_sorted h')
theorem TV.id_inj {t:api_Table} (h:TV t) {p q:api_Row} (hp:p∈t.Rows) (hq:q∈t.Rows) (he:p.ID=q.ID):p=q:=by
 have hs:=ids_sorted h.rows
 obtain ⟨i,hi,rfl⟩:=List.getElem_of_mem hp
 obtain ⟨j,hj,rfl⟩:=List.getElem_of_mem hq
 rw [List.pairwise_iff_getElem] at hs
 rcases Nat.lt_trichotomy i j with hij | hij | hij
 ·have:=hs i j hi hj hij;omega
 ·subst hij;rfl
 ·have:=hs j i hj hi hij;omega
theorem table_copied.spec {r:api_Row} (h:r.Values.length≤1000):table_copied.C r r:=by
 obtain ⟨q,h1,h2⟩:=table_copied.enter r (fun q=>q=r) ⟨by omega,rfl⟩
 subst h1;exact h2
theorem drossref03_cp.spec {r:api_Row} (h:r.Values.length≤1000):drossref03_cp.C r r:=by
 obtain ⟨q,h1,h2⟩:=drossref03_cp.enter r (fun q=>q=r) ⟨by omega,rfl⟩
 subst h1;exact h2
theorem table_with.spec {t:api_Table} {l:List api_Row} (ha:t.Attrs.length≤1000) (hl:l.length≤1000000) (hr:∀ r∈l,r.Values.length≤1000):table_with.C t l ⟨t.Name,t.Attrs,l⟩:=by
 obtain ⟨q,h1,h2⟩:=table_with.enter t l (fun q=>q=⟨t.Name,t.Attrs,l⟩) ⟨by omega,by
  have go:∀ (r:List api_Row) (i:Nat) (acc:List api_Row),l.drop i=r→acc.length≤i→acc++r=l→table_with.L1 l t acc (i:Int) (fun q=>q=⟨t.Name,t.Attrs,l⟩):=by
   intro r
   induction r with
   | nil=>
    intro i acc hd hi h
    have:=drop_ge hd
    apply table_with.L1_step
    rw [if_neg (by omega)]
    rw [List.append_nil] at h
    rw [h]
   | cons x r ih=>
    intro i acc hd hi h
    have hlt:=drop_lt hd
    apply table_with.L1_step
    rw [if_pos (by omega)]
    refine ⟨x,lget_drop hd,_,table_copied.spec (hr x (List.mem_of_getElem? (drop_get hd))),by omega,?_⟩
    rw [wrap_succ (by omega)]
    exact ih (i+1) _ (drop_next hd) (by rw [List.length_append];simp;omega) (by rw [List.append_assoc];exact h)
  exact go l 0 [] rfl (by simp) rfl⟩
 subst h1;exact h2
theorem drossref03_With.spec {t:api_Table} {l:List api_Row} (ha:t.Attrs.length≤1000) (hl:l.length≤1000000) (hr:∀ r∈l,r.Values.length≤1000):drossref03_With.C t l ⟨t.Name,t.Attrs,l⟩:=by
 obtain ⟨q,h1,h2⟩:=drossref03_With.enter t l (fun q=>q=⟨t.Name,t.Attrs,l⟩) ⟨by omega,by
  have go:∀ (r:List api_Row) (i:Nat) (acc:List api_Row),l.drop i=r→acc.length≤i→acc++r=l→drossref03_With.L1 l t acc (i:Int) (fun q=>q=⟨t.Name,t.Attrs,l⟩):=by
   intro r
   induction r with
   | nil=>
    intro i acc hd hi h
    have:=drop_ge hd
    apply drossref03_With.L1_step
    rw [if_neg (by omega)]
    rw [List.append_nil] at h
    rw [h]
   | cons x r ih=>
    intro i acc hd hi h
    have hlt:=drop_lt hd
    apply drossref03_With.L1_step
    rw [if_pos (by omega)]
    refine ⟨x,lget_drop hd,_,drossref03_cp.spec (hr x (List.mem_of_getElem? (drop_get hd))),by omega,?_⟩
    rw [wrap_succ (by omega)]
    exact ih (i+1) _ (drop_next hd) (by rw [List.length_append];simp;omega) (by rw [List.append_assoc];exact h)
  exact go l 0 [] rfl (by simp) rfl⟩
 subst h1;exact h2
theorem table_Keep.spec {t:api_Table} {ids:List Int} (ht:TV t) (hi:ids.length≤1000000):table_Keep.C t ids ⟨t.Name,t.Attrs,t.Rows.filter fun r=>decide (r.ID∈ids)⟩:=by
 have hR:=ht.rowsOK
 have hR1:=hR.1
 have hle:=List.length_filter_le (fun r:api_Row=>decide (r.ID∈ids)) t.Rows
 have hA:=ht.na
 obtain ⟨q,h1,h2⟩:=table_Keep.enter t ids (fun q=>q=⟨t.Name,t.Attrs,t.Rows.filter fun r=>decide (r.ID∈ids)⟩) (by
  have go:∀ (r:List api_Row) (i:Nat) (acc:List api_Row),t.Rows.drop i=r→acc.length≤i→(acc++r.filter fun r=>decide (r.ID∈ids))=(t.Rows.filter fun r=>decide (r.ID∈ids))→table_Keep.L1 t ids acc (i:Int) (fun q=>q=⟨t.Name,t.Attrs,t.Rows.filter fun r=>decide (r.ID∈ids)⟩):=by
   intro r
   induction r with
   | nil=>
    intro i acc hd hi h
    have:=drop_ge hd
    rw [List.filter_nil,List.append_nil] at h
    apply table_Keep.L1_step
    rw [if_neg (by omega),h]
    exact ⟨_,table_with.spec (by omega) (by omega) (fun r hr=>by have:=(hR.2 r (List.mem_filter.1 hr).1).1.2;omega),rfl⟩
   | cons x r ih=>
    intro i acc hd hi2 h
    have hlt:=drop_lt hd
    apply table_Keep.L1_step
    rw [if_pos (by omega)]
    refine ⟨x,lget_drop hd,_,contains_int hi,?_⟩
    rw [List.filter_cons] at h
    by_cases hs:x.ID∈ids
    ·rw [if_pos (decide_eq_true hs)] at h ⊢
     refine ⟨by omega,?_⟩
     apply table_Keep.L2_step
     rw [wrap_succ (by omega)]
     exact ih (i+1) _ (drop_next hd) (by rw [List.length_append];simp;omega) (by rw [List.append_assoc];exact h)
    ·rw [if_neg (by rw [decide_eq_true_iff];exact hs)] at h ⊢
     apply table_Keep.L2_step
     rw [wrap_succ (by omega)]
     exact ih (i+1) _ (drop_next hd) (by omega) h
  exact go t.Rows 0 [] rfl (by simp) rfl)
 subst h1;exact h2
def selT (t:api_Table) (l:List api_Condition):api_Table×Int:=
 if tableF t=0 then (if condE t.Attrs.length l=0 then (⟨t.Name,t.Attrs,t.Rows.filter fun r=>satF r l⟩,0) else (⟨⟨#[]⟩,[],[]⟩,condE t.Attrs.length l)) else (⟨⟨#[]⟩,[],[]⟩,tableF t)
theorem aggregate_Select.spec {t:api_Table} {l:List api_Condition} (hl:l.length≤1000):aggregate_Select.C t l (selT t l):=by
 obtain ⟨q,h1,h2⟩:=aggregate_Select.enter t l (fun q=>q=selT t l) (by
  refine ⟨_,table_Valid.spec,?_⟩
  unfold selT
  by_cases h0:tableF t=0
  ·rw [if_pos h0,if_pos h0]
   refine ⟨_,aggregate_conditions.spec hl,?_⟩
   by_cases h1:condE t.Attrs.length l=0
   ·rw [if_pos h1,if_pos h1]
    have ht:=tableF_iff.1 h0
    have hR:=ht.rowsOK
    have hR1:=hR.1
    have hle:=List.length_filter_le (fun r=>satF r l) t.Rows
    have e:(t.Rows.filter fun r=>decide (r.ID∈(t.Rows.filter fun r=>satF r l).map api_Row.ID))=(t.Rows.filter fun r=>satF r l):=by
     apply List.filter_congr
     intro x hx
     rw [Bool.eq_iff_iff,decide_eq_true_iff,List.mem_map]
     constructor
     ·rintro ⟨y,hy,he⟩
      obtain ⟨hy,hs⟩:=List.mem_filter.1 hy
      rw [← ht.id_inj hy hx he];exact hs
     ·exact fun hs=>⟨x,List.mem_filter.2 ⟨hx,hs⟩,rfl⟩
    have go:∀ (r:List api_Row) (i:Nat) (acc:List Int),t.Rows.drop i=r→acc.length≤i→(acc++(r.filter fun r=>satF r l).map api_Row.ID)=(t.Rows.filter fun r=>satF r l).map api_Row.ID→aggregate_Select.L1 t l acc (i:Int) (fun q=>q=(⟨t.Name,t.Attrs,t.Rows.filter fun r=>satF r l⟩,0)):=by
     intro r
     induction r with
     | nil=>
      intro i acc hd hi h
      have:=drop_ge hd
      rw [List.filter_nil,List.map_nil,List.append_nil] at h
      apply aggregate_Select.L1_step
      rw [if_neg (by omega),h]
      refine ⟨_,table_Keep.spec ht (by rw [List.length_map];omega),?_⟩
      rw [e]
     | cons x r ih=>
      intro i acc hd hi h
      have hlt:=drop_lt hd
      have hx:=hR.2 x (List.mem_of_getElem? (drop_get hd))
      apply aggregate_Select.L1_step
      rw [if_pos (by omega)]
      refine ⟨x,lget_drop hd,_,aggregate_satisfies.spec hl (fun c hc=>by rw [hx.2];exact condE_ok h1 c hc),?_⟩
      rw [List.filter_cons] at h
      by_cases hs:satF x l=true
      ·rw [if_pos hs] at h ⊢
       refine ⟨by omega,?_⟩
       apply aggregate_Select.L2_step
       rw [wrap_succ (by omega)]
       exact ih (i+1) _ (drop_next hd) (by rw [List.length_append];simp;omega) (by rw [List.append_assoc];exact h)
      ·rw [if_neg hs] at h ⊢
       apply aggregate_Select.L2_step
       rw [wrap_succ (by omega)]
       exact ih (i+1) _ (drop_next hd) (by omega) h
    exact go t.Rows 0 [] rfl (by simp) rfl
   ·rw [if_neg h1,if_neg h1]
  ·rw [if_neg h0,if_neg h0])
 rw [← h1];exact h2
theorem drossref51_Select.spec {t:api_Table} {l:List api_Condition} (hl:l.length≤1000):drossref51_Select.C t l (selT t l):=by
 obtain ⟨q,h1,h2⟩:=drossref51_Select.enter t l (fun q=>q=selT t l) (by
  refine ⟨_,drossref03_Valid.spec,?_⟩
  unfold selT
  by_cases h0:tableF t=0
  ·rw [if_pos h0,if_pos h0]
   refine ⟨_,drossref51_Conditions.spec hl,?_⟩
   by_cases h1:condE t.Attrs.length l=0
   ·rw [if_pos h1,if_pos h1]
    have ht:=tableF_iff.1 h0
    have hR:=ht.rowsOK
    have hR1:=hR.1
    have hA:=ht.na
    have hle:=List.length_filter_le (fun r=>satF r l) t.Rows
    exact ⟨_,drossref51_Rows.spec hl (by omega) (fun r hr=>⟨(hR.2 r hr).1.1,fun c hc=>by rw [(hR.2 r hr).2];exact condE_ok h1 c hc⟩),_,drossref03_With.spec (by omega) (by omega) (fun r hr=>by have:=(hR.2 r (List.mem_filter.1 hr).1).1.2;omega),rfl⟩
   ·rw [if_neg h1,if_neg h1]
  ·rw [if_neg h0,if_neg h0])
 rw [← h1];exact h2
theorem selT_self {t:api_Table} {l:List api_Condition}:drossref03_Equal.C (selT t l).1 (selT t l).1 true:=by
 have he:drossref03_Equal.C ⟨⟨#[]⟩,[],[]⟩ ⟨⟨#[]⟩,[],[]⟩ true:=drossref03_Equal.self (by show 0<Big;unfold Big;omega) (by show 0<Big;unfold Big;omega) (fun r hr=>by cases hr)
 unfold selT
 by_cases h0:tableF t=0
 ·rw [if_pos h0]
  by_cases h1:condE t.Attrs.length l=0
  ·rw [if_pos h1]
   have ht:=tableF_iff.1 h0
   have hR:=ht.rowsOK
   have hR1:=hR.1
   have hA:=ht.na
   have hle:=List.length_filter_le (fun r=>satF r l) t.Rows
   refine drossref03_Equal.self (by show t.Attrs.length<Big;unfold Big;omega) (by show (t.Rows.filter fun r=>satF r l).length<Big;unfold Big;omega) (fun r hr=>?_)
   have hr:=(hR.2 r (List.mem_filter.1 hr).1).1
   exact ⟨by have:=hr.2;unfold Big;omega,fun v hv=>by have:=valid_str (hr.1 v hv);unfold Big;omega⟩
  ·rw [if_neg h1];exact he
 ·rw [if_neg h0];exact he
namespace drosslaw51_AggregateValue
theorem few {t:api_Table} {l:List api_Condition} {r:Bool} (h:r=(if (t.Rows.length:Int)≤8 then (if (t.Attrs.length:Int)≤20 then decide ((l.length:Int)≤4) else false) else false)):drosslaw51_few.C t l r:=by
 obtain ⟨q,h1,h2⟩:=drosslaw51_few.enter t l (fun q=>q=r) (by
  split at h
  ·rename_i a;rw [if_pos a]
   split at h
   ·rename_i b;rw [if_pos b];exact h.symm
   ·rename_i b;rw [if_neg b];exact h.symm
  ·rename_i a;rw [if_neg a];exact h.symm)
 rw [← h1];exact h2
theorem spec (x:drosslaw51_Job):C x true:=by
 obtain ⟨r,h1,h2⟩:=enter x (fun r=>r=true) (by
  refine ⟨true,drosslaw51_awake.spec,?_⟩
  rw [if_pos rfl]
  have again:L1 (fun r=>r=true):=by
   apply L1_step
   exact ⟨true,drosslaw51_awake.spec,rfl⟩
  refine ⟨_,few rfl,?_⟩
  by_cases a:(x.T.Rows.length:Int)≤8
  ·rw [if_pos a]
   by_cases b:(x.T.Attrs.length:Int)≤20
   ·rw [if_pos b]
    by_cases c:(x.L.length:Int)≤4
    ·rw [if_pos (decide_eq_true c)]
     obtain ⟨w,w1,w2,w3,w4⟩:=drossref51_Value.spec (t:=x.T) (l:=x.L) (k:=x.Kind) (a:=x.Attr) (by omega)
     refine ⟨by omega,_,aggregate_Value.spec (by omega),w,w1,by omega,_,aggregate_Select.spec (by omega),_,drossref51_Select.spec (by omega),?_⟩
     rw [if_pos w4.symm,w2,if_pos (by simp),if_pos w3.symm,if_pos rfl]
     exact ⟨true,selT_self,rfl⟩
    ·rw [if_neg (by rw [decide_eq_true_iff];exact c)];exact again
   ·rw [if_neg b,if_neg Bool.false_ne_true];exact again
  ·rw [if_neg a,if_neg Bool.false_ne_true];exact again)
 subst h1;exact h2
theorem law {xs:List D} (hx:TyAll env.P drosslaw51_AggregateValue_K drosslaw51_AggregateValue_T xs):Ret env drosslaw51_AggregateValue_F xs (.lit (.bool true)) []:=
 drosslaw51_AggregateValue_of (fun x _=>spec x) hx
end drosslaw51_AggregateValue
end Go.Own
