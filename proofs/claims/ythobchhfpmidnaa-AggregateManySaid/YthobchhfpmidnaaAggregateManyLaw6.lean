/- What the functions that the law reaches answer. No conditions. -/
import Derived.Test.YthobchhfpmidnaaAggregateManyLaw3
import Derived.Test.YthobchhfpmidnaaAggregateManyLaw5
import Derived.Test.YthobchhfpmidnaaAggregateManyLaw1
import Derived.Test.YthobchhfpmidnaaAggregateManyLaw2
set_option linter.all false
namespace Go.Own
def letB (x:Int):Bool:=decide (97≤x∧x≤122∨65≤x∧x≤90∨x=95)
def alnB (x:Int):Bool:=letB x || decide (48≤x∧x≤57)
def nullB:List UInt8:=[110,117,108,108]
theorem bl_null:((⟨#[110,117,108,108]⟩:ByteArray)).toList=nullB:=bl_mk (l:=nullB)
theorem bl_nil:((⟨#[]⟩:ByteArray)).toList=[]:=bl_mk (l:=[])
def nameL:List UInt8→Bool
 | []=>false
 | b::r=>decide (r.length<24)&&letB (u8i b)&&!decide (b::r=nullB)&&r.all fun b=>alnB (u8i b)
def nameF (s:ByteArray):Bool:=nameL s.toList
namespace drossref03_letter
theorem spec {x : Int} : C x (letB x) := by
  obtain ⟨r, h1, h2⟩ := enter x (fun r => r = letB x) (by
    unfold letB
    repeat' split
    all_goals first
      | (symm; rw [decide_eq_true_iff]; omega)
      | (by_cases h : x = 95
         · simp [h]
         · have : (x == 95) = false := by simpa using h
           rw [this]; symm; rw [decide_eq_false_iff_not]; omega))
  rw [← h1]; exact h2
end drossref03_letter
theorem aln_step {φ:Bool→Prop} {P:Prop} {x:Int} (h:if alnB x=true then P else φ false) (hl:¬ letB x=true):if x<48 then φ false else if 57<x then φ false else P:=by
 have e:alnB x=decide (48≤x∧x≤57):=by unfold alnB;rw [Bool.eq_false_iff.2 hl,Bool.false_or]
 rw [e] at h
 repeat' split
 ·rw [if_neg (by rw [decide_eq_true_iff];omega)] at h;exact h
 ·rw [if_neg (by rw [decide_eq_true_iff];omega)] at h;exact h
 ·rw [if_pos (by rw [decide_eq_true_iff];omega)] at h;exact h
namespace drossref03_Name
theorem spec {s : ByteArray} : C s (nameF s) := by
  obtain ⟨r, h1, h2⟩ := enter s (fun r => r = nameF s) (by
    unfold nameF
    rw [bsize_eq, bl_null]
    cases hs : s.toList with
    | nil => simp [nameL]
    | cons b t =>
      rw [if_neg (by simp; omega)]
      split
      · rename_i hn
        have hn : 24 ≤ t.length := by simp at hn; omega
        simp [nameL]; omega
      · rename_i hn
        have hn : t.length < 24 := by simp at hn; omega
        refine ⟨b, bget_of (by rw [hs]; rfl), letB (u8i b), drossref03_letter.spec, ?_⟩
        split
        · rename_i hb
          split
          · rename_i h0
            simp [nameL, nullB, h0]
          · rename_i h0
            refine all_loop (l := s.toList) (p := fun b => alnB (u8i b)) (L := fun i => L1 s i fun r => r = nameL (b :: t)) (φ := fun r => r = nameL (b :: t)) ?_ ?_ ?_
            · intro h
              apply L1_step
              rw [bsize_eq, if_neg (by omega)]; exact h
            · intro k c hc hk h
              apply L1_step
              rw [bsize_eq, if_pos (by omega)]
              have next : L1 s ((k + 1 : Nat) : Int) (fun r => r = nameL (b :: t)) → L2 s k fun r => r = nameL (b :: t) := fun h => by
                apply L2_step
                rw [wrap_succ (by have : s.toList.length = (b :: t).length := by rw [hs]
                                  simp at this; omega)]
                exact h
              refine ⟨c, bget_of hc, _, drossref03_letter.spec, ?_⟩
              split
              · rename_i hl
                rw [if_pos (by unfold alnB; rw [hl]; rfl)] at h
                exact next h
              · rename_i hl
                have h3 := aln_step (φ := fun r => r = nameL (b :: t)) (P := L2 s k fun r => r = nameL (b :: t)) (by
                  split
                  · rename_i hh; rw [if_pos hh] at h; exact next h
                  · rename_i hh; rw [if_neg hh] at h; exact h) hl
                refine ⟨c, bget_of hc, ?_⟩
                split
                · rename_i h4; rw [if_pos h4] at h3; exact h3
                · rename_i h4; rw [if_neg h4] at h3; exact ⟨c, bget_of hc, h3⟩
            · rw [hs]
              have e : alnB (u8i b) = true := by unfold alnB; rw [hb]; rfl
              simp only [List.all_cons, e, Bool.true_and, nameL, hb, h0, decide_false, Bool.not_false, Bool.and_true]
              simp [hn]
        · rename_i hb
          simp [nameL, hb])
  rw [← h1]; exact h2
end drossref03_Name
namespace table_isName
theorem two {s:ByteArray} {i:Int} {φ:Bool→Prop} {x:Int} (h:if letB x=true then L3 s i φ else if i=0 then φ false else if x<48 then φ false else if 57<x then φ false else L3 s i φ):L2 s i x (letB x) φ:=by
 apply L2_step;exact h
theorem spec {s : ByteArray} : C s (nameF s) := by
  obtain ⟨r, h1, h2⟩ := enter s (fun r => r = nameF s) (by
    unfold nameF
    rw [bsize_eq, bl_null, bl_nil]
    cases hs : s.toList with
    | nil => simp [nameL]
    | cons b t =>
      rw [if_neg (by simp)]
      split
      · rename_i hn
        have hn : 24 ≤ t.length := by simp at hn; omega
        simp [nameL]; omega
      · rename_i hn
        have hn : t.length < 24 := by simp at hn; omega
        have hlen : s.toList.length = t.length + 1 := by rw [hs]; rfl
        split
        · rename_i h0
          simp [nameL, nullB, h0]
        · rename_i h0
          have body : ∀ (k : Nat) c, s.toList[k]? = some c → (if letB (u8i c) = true then L1 s ((k + 1 : Nat) : Int) (fun r => r = nameL (b :: t)) else if (k : Int) = 0 then false = nameL (b :: t) else if (u8i c) < 48 then false = nameL (b :: t) else if 57 < (u8i c) then false = nameL (b :: t) else L1 s ((k + 1 : Nat) : Int) (fun r => r = nameL (b :: t))) → L1 s k (fun r => r = nameL (b :: t)) := by
            intro k c hc h
            have hk := (List.getElem?_eq_some_iff.1 hc).1
            apply L1_step
            rw [bsize_eq, if_pos (by omega)]
            refine ⟨c, bget_of hc, ?_⟩
            have next : L1 s ((k + 1 : Nat) : Int) (fun r => r = nameL (b :: t)) → L3 s k fun r => r = nameL (b :: t) := fun h => by
              apply L3_step
              rw [wrap_succ (by omega)]
              exact h
            have key : L2 s k (u8i c) (letB (u8i c)) fun r => r = nameL (b :: t) := by
              apply two
              split
              · rename_i hh; rw [if_pos hh] at h; exact next h
              · rename_i hh; rw [if_neg hh] at h
                split
                · rename_i h2; rw [if_pos h2] at h; exact h
                · rename_i h2; rw [if_neg h2] at h
                  split
                  · rename_i h3; rw [if_pos h3] at h; exact h
                  · rename_i h3; rw [if_neg h3] at h
                    split
                    · rename_i h4; rw [if_pos h4] at h; exact h
                    · rename_i h4; rw [if_neg h4] at h; exact next h
            have e : ∀ v, v = letB (u8i c) → L2 s k (u8i c) v fun r => r = nameL (b :: t) := by rintro _ rfl; exact key
            repeat' split
            all_goals apply e
            all_goals unfold letB
            all_goals first
              | (symm; rw [decide_eq_true_iff]; omega)
              | (by_cases h : u8i c = 95
                 · simp [h]
                 · have : (u8i c == 95) = false := by simpa using h
                   rw [this]; symm; rw [decide_eq_false_iff_not]; omega)
          have h0s : s.toList[0]? = some b := by rw [hs]; rfl
          refine body 0 b h0s ?_
          split
          · rename_i hb
            have rest := all_loop (l := t) (p := fun b => alnB (u8i b)) (L := fun i => L1 s (i + 1) fun r => r = nameL (b :: t)) (φ := fun r => r = nameL (b :: t)) ?_ ?_ ?_
            · simpa using rest
            · intro h
              apply L1_step
              rw [bsize_eq, if_neg (by omega)]; exact h
            · intro k c hc hk h
              have e1 : ((k : Nat) : Int) + 1 = ((k + 1 : Nat) : Int) := by omega
              rw [e1]
              refine body (k + 1) c (by rw [hs]; simpa using hc) ?_
              split
              · rename_i hl
                rw [if_pos (by unfold alnB; rw [hl]; rfl)] at h
                exact h
              · rename_i hl
                rw [if_neg (by omega)]
                exact aln_step (φ := fun r => r = nameL (b :: t)) h hl
            · simp [nameL, hb, h0, hn]
          · rename_i hb
            simp [nameL, hb])
  rw [← h1]; exact h2
end table_isName
def eqS (x a:ByteArray):Bool:=decide (a=x)
def namesGo:List ByteArray→List ByteArray→Bool
 | _,[]=>true
 | pre,a::r=>nameF a&&!pre.any (eqS a)&&namesGo (pre++[a]) r
def namesF (l:List ByteArray):Bool:=namesGo [] l
namespace slices_Index_sstring_string
theorem spec {l:List ByteArray} {x:ByteArray} (hn:l.length<Big):C l x (ixI (eqS x) l):=by
 obtain ⟨r,h1,h2⟩:=enter l x (fun r=>r=ixI (eqS x) l) (by
  refine index_loop (l:=l) (p:=eqS x) (L:=fun i=>L1 l x i _) (φ:=fun r=>r=ixI (eqS x) l) ?_ ?_ rfl
  ·intro h;apply L1_step;rw [if_neg (by omega)];exact h
  ·intro k a ha hk h
   apply L1_step
   rw [if_pos (by omega)]
   refine ⟨a,lget_of ha,?_⟩
   rw [wrap_succ (by unfold Big at hn;omega)]
   split
   ·rename_i hh;rw [if_pos (by simp [eqS,bl_inj.1 hh])] at h;exact h
   ·rename_i hh;rw [if_neg (by simp only [eqS,decide_eq_true_eq];rintro rfl;exact hh rfl)] at h;exact h)
 rw [← h1];exact h2
end slices_Index_sstring_string
theorem slices_Contains_sstring_string.spec {l:List ByteArray} {x:ByteArray} (hn:l.length<Big):slices_Contains_sstring_string.C l x (l.any (eqS x)):=by
 obtain ⟨r,h1,h2⟩:=slices_Contains_sstring_string.enter l x (fun r=>r=l.any (eqS x)) ⟨_,slices_Index_sstring_string.spec hn,by rw [ixI_any]⟩
 rw [← h1];exact h2
namespace drossref03_Attr
end drossref03_Attr
theorem names_loop {l : List ByteArray} {L : Int → Prop} {P Q : Prop} (stop : P → L (l.length : Int))
    (step : ∀ (k : Nat) a, l[k]? = some a → k < l.length → (if nameF a = true then (if (l.take k).any (eqS a) = true then Q else L ((k + 1 : Nat) : Int)) else Q) → L k) (h : namesF l = true → P) (h' : namesF l = false → Q) : L 0 := by
  have : ∀ (r : List ByteArray) (k : Nat), l.drop k = r → k ≤ l.length → (namesGo (l.take k) r = true → P) → (namesGo (l.take k) r = false → Q) → L k := by
    intro r
    induction r with
    | nil => intro k hd hk h h'; have : k = l.length := by have := drop_ge hd; omega
             subst this; exact stop (h rfl)
    | cons a r ih =>
      intro k hd hk h h'
      have hlt := drop_lt hd
      refine step k a (drop_get hd) hlt ?_
      have hn := ih (k + 1) (drop_next hd) hlt
      have e : l.take (k + 1) = l.take k ++ [a] := by rw [List.take_add_one, drop_get hd]; rfl
      rw [e] at hn
      simp only [namesGo] at h h'
      split
      · rename_i h1
        split
        · rename_i h2
          exact h' (by simp [h1, h2])
        · rename_i h2
          have h2 := Bool.eq_false_iff.2 h2
          exact hn (fun hh => h (by simp [h1, h2, hh])) (fun hh => h' (by simp [h1, h2, hh]))
      · rename_i h1
        have h1 := Bool.eq_false_iff.2 h1
        exact h' (by simp [h1])
  exact this l 0 rfl (Nat.zero_le _) h h'
def validV (v:api_Value):Bool:=decide (v.Kind=0∧v.Num=0∧v.Str.toList=[]∨v.Kind=1∧v.Str.toList=[]∨v.Kind=2∧v.Num=0∧v.Str.toList.length≤200∨v.Kind=3∧1≤v.Num∧v.Str.toList=[])
theorem valid_goal {v : api_Value} {φ : Bool → Prop} (h : φ (validV v)) : (if v.Kind = 0 then (if v.Num = 0 then φ ((v.Str.toList == ((⟨#[]⟩ : ByteArray)).toList)) else φ false) else (if v.Kind = 1 then φ ((v.Str.toList == ((⟨#[]⟩ : ByteArray)).toList)) else (if v.Kind = 2 then (if v.Num = 0 then φ ((decide ((bsize v.Str) ≤ 200))) else φ false) else (if v.Kind = 3 then (if 1 ≤ v.Num then φ ((v.Str.toList == ((⟨#[]⟩ : ByteArray)).toList)) else φ false) else φ false)))) := by
  have e : ∀ b, b = validV v → φ b := by rintro _ rfl; exact h
  have e0 : (v.Str.toList == ((⟨#[]⟩ : ByteArray)).toList) = decide (v.Str.toList = []) := by
    rw [bl_nil]
    by_cases h : v.Str.toList = []
    · simp [h]
    · simp [h]
  rw [e0, bsize_eq]
  repeat' split
  all_goals apply e
  all_goals unfold validV
  all_goals first
    | (rw [decide_eq_decide]; omega)
    | (symm; rw [decide_eq_false_iff_not]; omega)
    | (rw [decide_eq_decide]; constructor
       · intro h; simp_all
       · intro h; simp_all)
theorem value_Valid.spec {v:api_Value}:value_Valid.C v (validV v):=by
 obtain ⟨r,h1,h2⟩:=value_Valid.enter v (fun r=>r=validV v) (valid_goal (φ:=fun r=>r=validV v) rfl)
 rw [← h1];exact h2
def validsF (l:List api_Value):Bool:=l.all validV
theorem table_validValues_1.spec {v:api_Value}:table_validValues_1.C v (!validV v):=by
 obtain ⟨r,h1,h2⟩:=table_validValues_1.enter v (fun r=>r=!validV v) ⟨_,value_Valid.spec,rfl⟩
 rw [← h1];exact h2
namespace slices_IndexFunc_sapi_Value_api_Value_table_validValues_1
theorem spec {l:List api_Value} (hn:l.length<Big):C l (ixI (fun v=>!validV v) l):=by
 obtain ⟨r,h1,h2⟩:=enter l (fun r=>r=ixI (fun v=>!validV v) l) (by
  refine index_loop (l:=l) (p:=fun v=>!validV v) (L:=fun i=>L1 l i _) (φ:=fun r=>r=ixI (fun v=>!validV v) l) ?_ ?_ rfl
  ·intro h;apply L1_step;rw [if_neg (by omega)];exact h
  ·intro k a ha hk h
   apply L1_step
   rw [if_pos (by omega)]
   refine ⟨a,lget_of ha,_,table_validValues_1.spec,?_⟩
   rw [wrap_succ (by unfold Big at hn;omega)]
   exact h)
 rw [← h1];exact h2
end slices_IndexFunc_sapi_Value_api_Value_table_validValues_1
theorem slices_ContainsFunc_sapi_Value_api_Value_table_validValues_1.spec {l:List api_Value} (hn:l.length<Big):slices_ContainsFunc_sapi_Value_api_Value_table_validValues_1.C l (!validsF l):=by
 obtain ⟨r,h1,h2⟩:=slices_ContainsFunc_sapi_Value_api_Value_table_validValues_1.enter l (fun r=>r=!validsF l) ⟨_,slices_IndexFunc_sapi_Value_api_Value_table_validValues_1.spec hn,by
  rw [ixI_any];unfold validsF;rw [List.any_eq_not_all_not];simp⟩
 rw [← h1];exact h2
theorem table_validValues.spec {l:List api_Value} (hn:l.length<Big):table_validValues.C l (validsF l):=by
 obtain ⟨r,h1,h2⟩:=table_validValues.enter l (fun r=>r=validsF l) ⟨_,slices_ContainsFunc_sapi_Value_api_Value_table_validValues_1.spec hn,by
  show (!(!validsF l))=_
  rw [Bool.not_not]⟩
 rw [← h1];exact h2
def rowsF (n:Nat):Int→List api_Row→Int
 | _,[]=>0
 | last,r::rs=>if r.ID≤last then 1 else if r.Values.length=n then (if validsF r.Values=true then rowsF n r.ID rs else 1) else 6
def tableF (t:api_Table):Int:=if nameF t.Name=true then (if 16<t.Attrs.length then 3 else if 1000<t.Rows.length then 3 else if namesF t.Attrs=true then rowsF t.Attrs.length 0 t.Rows else 1) else 1
theorem rows_loop {n : Nat} {l : List api_Row} {L : Int → Int → Prop} {φ : Int → Prop} (stop : ∀ last, φ 0 → L last (l.length : Int))
    (step : ∀ (k : Nat) r last, l[k]? = some r → k < l.length → (if r.ID ≤ last then φ 1 else if r.Values.length = n then (if validsF r.Values = true then L r.ID ((k + 1 : Nat) : Int) else φ 1) else φ 6) → L last k) (h : φ (rowsF n 0 l)) : L 0 0 := by
  have : ∀ (r : List api_Row) (k : Nat) (last : Int), l.drop k = r → k ≤ l.length → φ (rowsF n last r) → L last k := by
    intro r
    induction r with
    | nil => intro k last hd hk h; have : k = l.length := by have := drop_ge hd; omega
             subst this; exact stop _ h
    | cons a r ih =>
      intro k last hd hk h
      have hlt := drop_lt hd
      refine step k a last (drop_get hd) hlt ?_
      simp only [rowsF] at h
      split
      · rename_i h1; rw [if_pos h1] at h; exact h
      · rename_i h1; rw [if_neg h1] at h
        split
        · rename_i h2; rw [if_pos h2] at h
          split
          · rename_i h3; rw [if_pos h3] at h; exact ih (k + 1) _ (drop_next hd) hlt h
          · rename_i h3; rw [if_neg h3] at h; exact h
        · rename_i h2; rw [if_neg h2] at h; exact h
  exact this l 0 0 rfl (Nat.zero_le _) h
namespace table_Valid
theorem rows {t:api_Table} {φ:Int→Prop} (hr:t.Rows.length≤1000) (ha:t.Attrs.length≤16) (h:φ (rowsF t.Attrs.length 0 t.Rows)):L2 t 0 0 φ:=by
 refine rows_loop (n:=t.Attrs.length) (l:=t.Rows) (L:=fun last i=>L2 t last i φ) (φ:=φ) ?_ ?_ h
 ·intro last h;apply L2_step;rw [if_neg (by omega)];exact h
 ·intro k r last hr hk h
  apply L2_step
  rw [if_pos (by omega)]
  refine ⟨r,lget_of hr,?_⟩
  split
  ·rename_i h1;rw [if_pos h1] at h;exact h
  ·rename_i h1;rw [if_neg h1] at h
   split
   ·rename_i h2
    have h2:r.Values.length=t.Attrs.length:=by omega
    rw [if_pos h2] at h
    refine ⟨_,table_validValues.spec (by unfold Big;omega),?_⟩
    rw [wrap_succ (by omega)]
    exact h
   ·rename_i h2;rw [if_neg (by omega)] at h;exact h
theorem spec {t:api_Table}:C t (tableF t):=by
 obtain ⟨r,h1,h2⟩:=enter t (fun r=>r=tableF t) (by
  refine ⟨_,table_isName.spec,?_⟩
  unfold tableF
  split
  ·by_cases h1:16<t.Attrs.length
   ·rw [if_pos (by omega),if_pos h1]
   ·rw [if_neg (by omega),if_neg h1]
    by_cases h2:1000<t.Rows.length
    ·rw [if_pos (by omega),if_pos h2]
    ·rw [if_neg (by omega),if_neg h2]
     refine names_loop (l:=t.Attrs) (L:=fun i=>L1 t i _) (P:=rowsF t.Attrs.length 0 t.Rows=if namesF t.Attrs=true then rowsF t.Attrs.length 0 t.Rows else 1) (Q:=(1:Int)=if namesF t.Attrs=true then rowsF t.Attrs.length 0 t.Rows else 1) ?_ ?_ ?_ ?_
     ·intro h;apply L1_step;rw [if_neg (by omega)]
      exact rows (φ:=fun r=>r=if namesF t.Attrs=true then rowsF t.Attrs.length 0 t.Rows else 1) (by omega) (by omega) h
     ·intro k a ha hk h
      apply L1_step
      rw [if_pos (by omega)]
      refine ⟨a,lget_of ha,_,table_isName.spec,?_⟩
      split
      ·rename_i h1;rw [if_pos h1] at h
       refine ⟨by omega,by omega,_,slices_Contains_sstring_string.spec (by rw [List.length_take];unfold Big;omega),?_⟩
       rw [Int.toNat_natCast,Nat.sub_zero,wrap_succ (by omega)]
       exact h
      ·rename_i h1;rw [if_neg h1] at h;exact h
     ·intro h;rw [if_pos h]
     ·intro h;rw [if_neg (by rw [h];decide)]
  ·rfl)
 rw [← h1];exact h2
end table_Valid
namespace drossref03_Valid
end drossref03_Valid
end Go.Own
namespace Go.Own
namespace drossref02_Full
end drossref02_Full
end Go.Own
namespace Go.Own
namespace drossref02_Has
end drossref02_Has
end Go.Own

namespace Go.Own
namespace drossref01_strings
end drossref01_strings
namespace drossref01_Lists
end drossref01_Lists
def be:Nat→Nat→List Int
 | 0,_=>[]
 | j+1,u=>((u / 2^(8*j) % 256:Nat):Int)::be j u
theorem be_len:∀ {j u},(be j u).length=j
 | 0,_=>rfl
 | j+1,u=>by simp [be,be_len]
theorem be_range:∀ {j u},∀ x∈be j u,0≤x∧x<256
 | 0,_,_,h=>by simp [be] at h
 | j+1,u,x,h=>by
  simp only [be,List.mem_cons] at h
  rcases h with rfl | h
  ·omega
  ·exact be_range x h
theorem be_inj:∀ {j u v},be j u=be j v→u % 2^(8*j)=v % 2^(8*j)
 | 0,u,v,_=>by simp [Nat.mod_one]
 | j+1,u,v,h=>by
  simp only [be,List.cons.injEq] at h
  have ih:=be_inj h.2
  have e:2^(8*(j+1))=2^(8*j)*256:=by rw [Nat.mul_add,Nat.pow_add]
  rw [e,Nat.mod_mul,Nat.mod_mul,ih]
  have:u / 2^(8*j) % 256=v / 2^(8*j) % 256:=by omega
  rw [this]
def flip63 (n:Int):Nat:=(n % 18446744073709551616).toNat ^^^ 9223372036854775808
theorem flip63_lt {n:Int}:flip63 n<2^64:=Nat.xor_lt_two_pow (by omega) (by decide)
theorem flip63_inj {m n:Int} (hm : -9223372036854775808≤m∧m<9223372036854775808) (hn : -9223372036854775808≤n∧n<9223372036854775808) (h:flip63 m=flip63 n):m=n:=by
 unfold flip63 at h
 have h2:(m % 18446744073709551616).toNat=(n % 18446744073709551616).toNat:=by
  have:=congrArg (· ^^^ 9223372036854775808) h
  simpa [Nat.xor_assoc] using this
 omega
namespace value_number
theorem loop {φ:List Int→Prop} {u:Nat} (hu:u<2^64):∀ (j:Nat) (acc:List Int),j≤8→acc.length+j≤1000→φ (acc++be j u)→L1 acc u (8*(j:Int)-8) φ
 | 0,acc,hj,hl,h=>by
  apply L1_step
  rw [if_neg (by omega)]
  simpa [be] using h
 | j+1,acc,hj,hl,h=>by
  apply L1_step
  rw [if_pos (by omega)]
  refine ⟨by omega,by omega,?_⟩
  have e1:8*((j+1:Nat):Int)-8=((8*j:Nat):Int):=by omega
  rw [e1,shrw_nat (k:=.u64) (by simpa [top] using hu),IntKind.wrap_u8,wrap_id (by omega) (by omega)]
  have e2:((8*j:Nat):Int)-8=8*(j:Int)-8:=by omega
  rw [e2]
  refine loop hu j _ (by omega) (by simp;omega) ?_
  have e3:((u / 2^(8*j):Nat):Int) % 256=((u / 2^(8*j) % 256:Nat):Int):=by omega
  rw [e3]
  simpa [be] using h
theorem spec {n:Int} {acc:List Int} (hl:acc.length≤900):C n acc (acc++be 8 (flip63 n)):=by
 obtain ⟨r,h1,h2⟩:=enter n acc (fun r=>r=acc++be 8 (flip63 n)) (by
  have e:bXor .u64 (IntKind.wrap .u64 n) 9223372036854775808=(flip63 n:Int):=by
   have e1:IntKind.wrap .u64 n=(((n % 18446744073709551616).toNat:Nat):Int):=by
    simp only [IntKind.wrap,IntKind.bits,IntKind.signed];simp;omega
   rw [e1]
   exact bXor_nat (k:=.u64) (b:=9223372036854775808) (by simp only [top];omega) (by simp only [top];omega)
  rw [e]
  exact loop flip63_lt 8 acc (by omega) (by omega) rfl)
 rw [← h1];exact h2
end value_number
def esc:List UInt8→List Int
 | []=>[]
 | b::r=>if u8i b=0 then 0::255::esc r else u8i b::esc r
theorem esc_snoc {l:List UInt8} {b:UInt8}:esc (l++[b])=esc l++esc [b]:=by
 induction l with
 | nil=>rfl
 | cons a l ih=>simp only [List.cons_append,esc,ih];split<;>rfl
theorem esc_range:∀ {l:List UInt8},∀ x∈esc l,0≤x∧x<256
 | [],x,h=>by simp [esc] at h
 | b::r,x,h=>by
  simp only [esc] at h
  split at h
  ·simp only [List.mem_cons] at h
   rcases h with rfl | rfl | h
   ·omega
   ·omega
   ·exact esc_range x h
  ·simp only [List.mem_cons] at h
   rcases h with rfl | h
   ·exact u8i_lt
   ·exact esc_range x h
theorem esc_len:∀ {l:List UInt8},(esc l).length≤2*l.length
 | []=>by simp [esc]
 | b::r=>by
  have:=esc_len (l:=r)
  simp only [esc]
  split<;>simp only [List.length_cons]<;>omega
theorem esc_inj:∀ {a b:List UInt8} {r s:List Int},esc a++(0::1::r)=esc b++(0::1::s)→a=b∧r=s
 | [],[],r,s,h=>by simpa [esc] using h
 | [],y::b,r,s,h=>by
  simp only [esc] at h
  split at h
  ·simp at h
  ·rename_i hy
   simp only [List.nil_append,List.cons_append,List.cons.injEq] at h
   exact absurd h.1.symm hy
 | x::a,[],r,s,h=>by
  simp only [esc] at h
  split at h
  ·simp at h
  ·rename_i hx
   simp only [List.nil_append,List.cons_append,List.cons.injEq] at h
   exact absurd h.1 hx
 | x::a,y::b,r,s,h=>by
  simp only [esc] at h
  split at h
  ·rename_i hx
   split at h
   ·rename_i hy
    simp only [List.cons_append,List.cons.injEq,true_and] at h
    obtain ⟨h1,h2⟩:=esc_inj h
    exact ⟨by rw [h1,u8i_inj.1 (hx.trans hy.symm)],h2⟩
   ·rename_i hy
    simp only [List.cons_append,List.cons.injEq] at h
    exact absurd h.1.symm hy
  ·rename_i hx
   split at h
   ·rename_i hy
    simp only [List.cons_append,List.cons.injEq] at h
    exact absurd h.1 hx
   ·rename_i hy
    simp only [List.cons_append,List.cons.injEq] at h
    obtain ⟨h1,h2⟩:=esc_inj h.2
    exact ⟨by rw [h1,u8i_inj.1 h.1],h2⟩
def keyJ (v:api_Value):List Int:=v.Kind::(if v.Kind=1∨v.Kind=3 then be 8 (flip63 v.Num) else if v.Kind=2 then esc v.Str.toList++[0,1] else [])
def NumOK (v:api_Value):Prop:=-9223372036854775808≤v.Num∧v.Num<9223372036854775808
theorem validV_cases {v:api_Value} (h:validV v=true):v.Kind=0∧v.Num=0∧v.Str.toList=[]∨v.Kind=1∧v.Str.toList=[]∨v.Kind=2∧v.Num=0∧v.Str.toList.length≤200∨v.Kind=3∧1≤v.Num∧v.Str.toList=[]:=by
 simpa [validV] using h
theorem keyI_range {v:api_Value} (h:validV v=true):∀ x∈keyJ v,0≤x∧x<256:=by
 intro x hx
 have hk:0≤v.Kind∧v.Kind≤3:=by rcases validV_cases h with h | h | h | h<;>omega
 simp only [keyJ,List.mem_cons] at hx
 rcases hx with rfl | hx
 ·omega
 ·split at hx
  ·exact be_range x hx
  ·split at hx
   ·rcases List.mem_append.1 hx with hx | hx
    ·exact esc_range x hx
    ·simp at hx;rcases hx with rfl | rfl<;>omega
   ·simp at hx
theorem keyI_inj {v w:api_Value} {r s:List Int} (hv:validV v=true) (hw:validV w=true) (nv:NumOK v) (nw:NumOK w) (h:keyJ v++r=keyJ w++s):v=w∧r=s:=by
 obtain ⟨k,n,t⟩:=v
 obtain ⟨k',n',t'⟩:=w
 simp only [keyJ,List.cons_append,List.cons.injEq] at h
 obtain ⟨rfl,h⟩:=h
 have hv:=validV_cases hv
 have hw:=validV_cases hw
 simp only at hv hw
 simp only [api_Value.mk.injEq,true_and]
 by_cases h1:k=1∨k=3
 ·rw [if_pos h1,if_pos h1] at h
  have h3:=List.append_inj h (by rw [be_len,be_len])
  have h2:=be_inj h3.1
  rw [Nat.mod_eq_of_lt flip63_lt,Nat.mod_eq_of_lt flip63_lt] at h2
  have e:=flip63_inj nv nw h2
  simp only at e
  refine ⟨⟨e,?_⟩,h3.2⟩
  rw [← bl_inj]
  have a1:t.toList=[]:=by rcases hv with h | h | h | h<;>first | exact h.2.2 | exact h.2 | omega
  have a2:t'.toList=[]:=by rcases hw with h | h | h | h<;>first | exact h.2.2 | exact h.2 | omega
  rw [a1,a2]
 ·rw [if_neg h1,if_neg h1] at h
  by_cases h2:k=2
  ·rw [if_pos h2,if_pos h2,List.append_assoc,List.append_assoc] at h
   obtain ⟨e1,e2⟩:=esc_inj h
   rw [bl_inj] at e1
   exact ⟨⟨by omega,e1⟩,e2⟩
  ·rw [if_neg h2,if_neg h2] at h
   have a1:t.toList=[]:=by rcases hv with h | h | h | h<;>first | exact h.2.2 | exact h.2 | omega
   have a2:t'.toList=[]:=by rcases hw with h | h | h | h<;>first | exact h.2.2 | exact h.2 | omega
   exact ⟨⟨by omega,by rw [← bl_inj,a1,a2]⟩,by simpa using h⟩
def keyW (v:api_Value):ByteArray:=bstrI (keyJ v)
namespace value_Key
theorem loop {v:api_Value} {φ:ByteArray×Int→Prop} (hk:v.Kind=2) (hs:v.Str.toList.length≤200) (h:φ (keyW v,0)):∀ (r:List UInt8) (k:Nat),v.Str.toList.drop k=r→k≤v.Str.toList.length→L1 v (2::esc (v.Str.toList.take k)) k φ:=by
 intro r
 induction r with
 | nil=>
  intro k hd hk2
  apply L1_step
  have:=drop_ge hd
  rw [bsize_eq,if_neg (by omega),List.take_of_length_le this]
  have hl:=esc_len (l:=v.Str.toList)
  have e:keyJ v=(2::esc v.Str.toList)++[0,1]:=by simp [keyJ,hk]
  refine ⟨by simp only [List.length_cons];omega,fun x hx=>?_,?_⟩
  ·rcases List.mem_append.1 hx with hx | hx
   ·rcases List.mem_cons.1 hx with rfl | hx
    ·omega
    ·exact esc_range x hx
   ·simp at hx;rcases hx with rfl | rfl<;>omega
  ·rw [← e];exact h
 | cons b r ih=>
  intro k hd hk2
  have hlt:=drop_lt hd
  apply L1_step
  rw [bsize_eq,if_pos (by omega)]
  have hl:=esc_len (l:=v.Str.toList.take k)
  rw [List.length_take] at hl
  refine ⟨b,bget_of (drop_get hd),by simp only [List.length_cons];omega,b,bget_of (drop_get hd),?_⟩
  have ih:=ih (k+1) (drop_next hd) hlt
  have e:v.Str.toList.take (k+1)=v.Str.toList.take k++[b]:=by rw [List.take_add_one,drop_get hd];rfl
  rw [e,esc_snoc] at ih
  have next:∀ l,l=2::(esc (v.Str.toList.take k)++esc [b])→L4 v l k φ:=by
   rintro _ rfl
   apply L4_step
   rw [wrap_succ (by omega)]
   exact ih
  split
  ·rename_i h0
   refine ⟨by simp only [List.length_append,List.length_cons,List.length_nil];omega,next _ ?_⟩
   simp [esc,h0]
  ·rename_i h0
   exact next _ (by simp [esc,h0])
theorem spec {v:api_Value} (hv:validV v=true):C v (keyW v,0):=by
 obtain ⟨r,h1,h2⟩:=enter v (fun r=>r=(keyW v,0)) (by
  refine ⟨_,value_Valid.spec,?_⟩
  rw [if_pos hv]
  have hc:=validV_cases hv
  have hk:0≤v.Kind∧v.Kind≤3:=by rcases hc with h | h | h | h<;>omega
  have ek:IntKind.wrap .u8 v.Kind=v.Kind:=by rw [IntKind.wrap_u8];omega
  have two:∀ b,(v.Kind=1∨v.Kind=3)→L2 v b fun r=>r=(keyW v,0):=by
   intro b hb
   apply L2_step
   rw [ek]
   have e:keyJ v=[v.Kind]++be 8 (flip63 v.Num):=by simp [keyJ,hb]
   refine ⟨_,value_number.spec (by simp),?_,?_⟩
   ·rw [← e];exact keyI_range hv
   ·rw [← e];rfl
  have three:¬ (v.Kind=1∨v.Kind=3)→L3 v fun r=>r=(keyW v,0):=by
   intro hb
   apply L3_step
   rw [ek]
   split
   ·rename_i h2
    have hs:v.Str.toList.length≤200:=by
     rcases hc with h | h | h | h
     ·omega
     ·omega
     ·exact h.2.2
     ·omega
    have:=loop (φ:=fun r=>r=(keyW v,0)) h2 hs rfl v.Str.toList 0 rfl (by omega)
    rw [h2]
    simpa [esc] using this
   ·rename_i h2
    refine ⟨fun x hx=>by simp at hx;omega,?_⟩
    simp [keyW,keyJ,hb,h2]
  split
  ·rename_i h1;exact two _ (.inl h1)
  ·rename_i h1
   split
   ·rename_i h3;exact two _ (.inr h3)
   ·rename_i h3;exact three (by omega))
 rw [← h1];exact h2
end value_Key
def b8 (x:Int):UInt8:=UInt8.ofNat x.toNat
theorem b8_inj {x y:Int} (hx:0≤x∧x<256) (hy:0≤y∧y<256) (h:b8 x=b8 y):x=y:=by
 unfold b8 at h
 have:=congrArg UInt8.toNat h
 simp at this
 omega
theorem map_b8_inj:∀ {l m:List Int},(∀ x∈l,0≤x∧x<256)→(∀ x∈m,0≤x∧x<256)→l.map b8=m.map b8→l=m
 | [],[],_,_,_=>rfl
 | [],_::_,_,_,h=>by simp at h
 | _::_,[],_,_,h=>by simp at h
 | x::l,y::m,h1,h2,h=>by
  simp only [List.map_cons,List.cons.injEq] at h
  rw [b8_inj (h1 x (by simp)) (h2 y (by simp)) h.1,map_b8_inj (fun z hz=>h1 z (by simp [hz])) (fun z hz=>h2 z (by simp [hz])) h.2]
theorem keyS_list {v:api_Value}:(keyW v).data.toList=(keyJ v).map b8:=by
 unfold keyW bstrI b8;simp
theorem keyS_size {v:api_Value}:(keyW v).size=(keyJ v).length:=by
 have:(keyW v).size=(keyW v).data.toList.length:=rfl
 rw [this,keyS_list,List.length_map]
def keysI (l:List api_Value):List Int:=l.flatMap keyJ
theorem keysI_range {l:List api_Value} (h:∀ v∈l,validV v=true):∀ x∈keysI l,0≤x∧x<256:=by
 intro x hx
 obtain ⟨v,hv,hx⟩:=List.mem_flatMap.1 hx
 exact keyI_range (h v hv) x hx
theorem keysI_inj:∀ {l m:List api_Value},l.length=m.length→(∀ v∈l,validV v=true∧NumOK v)→(∀ v∈m,validV v=true∧NumOK v)→keysI l=keysI m→l=m
 | [],[],_,_,_,_=>rfl
 | [],_::_,h,_,_,_=>by simp at h
 | _::_,[],h,_,_,_=>by simp at h
 | v::l,w::m,hl,h1,h2,h=>by
  simp only [keysI,List.flatMap_cons] at h
  have a:=h1 v (by simp);have b:=h2 w (by simp)
  obtain ⟨e1,e2⟩:=keyI_inj a.1 b.1 a.2 b.2 h
  rw [e1,keysI_inj (by simpa using hl) (fun z hz=>h1 z (by simp [hz])) (fun z hz=>h2 z (by simp [hz])) e2]
def keysW (l:List api_Value):ByteArray:=bstr ((keysI l).map b8)
theorem keysS_inj {l m:List api_Value} (hl:l.length=m.length) (h1:∀ v∈l,validV v=true∧NumOK v) (h2:∀ v∈m,validV v=true∧NumOK v):keysW l=keysW m↔l=m:=by
 constructor
 ·intro h
  have h3:(keysI l).map b8=(keysI m).map b8:=by
   have:=congrArg ByteArray.toList h
   unfold keysW at this
   rwa [bl_bstr,bl_bstr] at this
  exact keysI_inj hl h1 h2 (map_b8_inj (keysI_range fun v hv=>(h1 v hv).1) (keysI_range fun v hv=>(h2 v hv).1) h3)
 ·rintro rfl;rfl
end Go.Own
namespace Go.Own
theorem mgm {κ ν:Type} [DecidableEq κ] {k k':κ} {v:ν}:∀ {l:List (κ×ν)},mget k' (mset k v l)=if k=k' then some v else mget k' l
 | []=>by
  simp only [mset,mget]
  by_cases h:k'=k
  ·rw [if_pos h,if_pos h.symm]
  ·rw [if_neg h,if_neg (fun hh=>h hh.symm)]
 | (q,w)::l=>by
  simp only [mset]
  by_cases h:k=q
  ·rw [if_pos h]
   simp only [mget]
   by_cases h2:k'=q
   ·rw [if_pos h2,if_pos (h.trans h2.symm)]
   ·rw [if_neg h2,if_neg (fun hh=>h2 (hh.symm.trans h)),if_neg h2]
  ·rw [if_neg h]
   simp only [mget]
   by_cases h2:k'=q
   ·rw [if_pos h2,if_neg (fun hh=>h (hh.trans h2)),if_pos h2]
   ·rw [if_neg h2,if_neg h2];exact mgm
def numV (x:Int):api_Value:=⟨1,x,⟨#[]⟩⟩
theorem nil_toList:((⟨#[]⟩:ByteArray)).toList=[]:=bl_mk (l:=[])
theorem numV_ok {x:Int}:validV (numV x)=true:=by
 unfold validV numV
 rw [decide_eq_true_iff]
 exact .inr (.inl ⟨rfl,nil_toList⟩)
theorem numV_size {x:Int}:(keyW (numV x)).size=9:=by
 rw [keyS_size]
 unfold keyJ numV
 simp [be_len]
def textB:List api_Value→Nat→Nat→List UInt8
 | [],_,_=>[]
 | v::r,s,k=>(if s.testBit k=true then (keyW v).data.toList else [])++textB r s (k+1)
theorem aggregate_text.spec {r:api_Row} {s:Nat} (hs:s<2^32) (hv:∀ v∈r.Values,validV v=true∧(keyW v).size≤1000) (hl:r.Values.length≤1000):aggregate_text.C r s (bstr (textB r.Values s 0)):=by
 obtain ⟨q,h1,h2⟩:=aggregate_text.enter r s (fun q=>q=bstr (textB r.Values s 0)) (by
  have go:∀ (l:List api_Value) (k:Nat) (acc:List UInt8),r.Values.drop k=l→acc.length≤1000*k→acc++textB l s k=textB r.Values s 0→aggregate_text.L1 r s acc (k:Int) (fun q=>q=bstr (textB r.Values s 0)):=by
   intro l
   induction l with
   | nil=>
    intro k acc hd hk h
    have:=drop_ge hd
    apply aggregate_text.L1_step
    rw [if_neg (by omega)]
    have h:acc=textB r.Values s 0:=by simpa [textB] using h
    rw [h]
   | cons v l ih=>
    intro k acc hd hk h
    have hlt:=drop_lt hd
    obtain ⟨hv1,hv2⟩:=hv v (List.mem_of_getElem? (drop_get hd))
    have hsz:(keyW v).data.toList.length=(keyW v).size:=rfl
    have next:∀ acc':List UInt8,acc'.length≤1000*(k+1)→acc'++textB l s (k+1)=textB r.Values s 0→aggregate_text.L2 r s acc' (k:Int) (fun q=>q=bstr (textB r.Values s 0)):=fun acc' h1 h2=>by
     apply aggregate_text.L2_step
     rw [wrap_succ (by omega)]
     exact ih (k+1) acc' (drop_next hd) h1 h2
    rw [textB] at h
    apply aggregate_text.L1_step
    rw [if_pos (by omega)]
    refine ⟨v,lget_drop hd,by omega,?_⟩
    have eb:=bit_eq1 (k:=.u32) (a:=s) (i:=k) (by simpa only [top] using hs) (by decide)
    by_cases hb:s.testBit k=true
    ·rw [if_pos (eb.2 hb)]
     rw [if_pos hb] at h
     refine ⟨_,value_Key.spec hv1,by simp only;omega,next _ (by rw [List.length_append];simp only;omega) (by rw [List.append_assoc];exact h)⟩
    ·rw [if_neg (fun hh=>hb (eb.1 hh))]
     rw [if_neg hb,List.nil_append] at h
     exact next acc (by omega) h
  exact go r.Values 0 [] rfl (by simp) rfl)
 rw [← h1];exact h2
def rowN (i j:Nat):api_Row:=⟨((3*i+j+1:Nat):Int),[numV i,numV j]⟩
def K1 (i:Nat):ByteArray:=keysW [numV i]
def K2 (i j:Nat):ByteArray:=keysW [numV i,numV j]
theorem numOK {i:Nat} (h:i<100000):NumOK (numV i):=⟨by show (-9223372036854775808:Int)≤(i:Int);omega,by show (i:Int)<9223372036854775808;omega⟩
theorem numV_inj {x y:Int} (h:numV x=numV y):x=y:=by
 unfold numV at h
 simpa using h
theorem K1_inj {i i':Nat} (h:i<100000) (h':i'<100000):K1 i=K1 i'↔i=i':=by
 unfold K1
 rw [keysS_inj (l:=[numV i]) (m:=[numV i']) rfl (fun v hv=>by rw [List.mem_singleton.1 hv];exact ⟨numV_ok,numOK h⟩) (fun v hv=>by rw [List.mem_singleton.1 hv];exact ⟨numV_ok,numOK h'⟩)]
 constructor
 ·intro hh
  have:=numV_inj (List.cons.inj hh).1
  omega
 ·rintro rfl;rfl
theorem K2_inj {i j i' j':Nat} (hi:i<100000) (hj:j<100000) (hi':i'<100000) (hj':j'<100000):K2 i j=K2 i' j'↔i=i'∧j=j':=by
 unfold K2
 rw [keysS_inj (l:=[numV i,numV j]) (m:=[numV i',numV j']) rfl (fun v hv=>by
  rcases List.mem_cons.1 hv with rfl | hv
  ·exact ⟨numV_ok,numOK hi⟩
  ·rw [List.mem_singleton.1 hv];exact ⟨numV_ok,numOK hj⟩) (fun v hv=>by
  rcases List.mem_cons.1 hv with rfl | hv
  ·exact ⟨numV_ok,numOK hi'⟩
  ·rw [List.mem_singleton.1 hv];exact ⟨numV_ok,numOK hj'⟩)]
 constructor
 ·intro hh
  have h1:=numV_inj (List.cons.inj hh).1
  have h2:=numV_inj (List.cons.inj (List.cons.inj hh).2).1
  omega
 ·rintro ⟨rfl,rfl⟩;rfl
theorem rowN_vals {i j:Nat}:∀ v∈(rowN i j).Values,validV v=true∧(keyW v).size≤1000:=fun v hv=>by
 have:v=numV i∨v=numV j:=by simpa [rowN] using hv
 rcases this with rfl | rfl
 ·exact ⟨numV_ok,by rw [numV_size];omega⟩
 ·exact ⟨numV_ok,by rw [numV_size];omega⟩
theorem text_one {i j:Nat}:aggregate_text.C (rowN i j) 1 (K1 i):=by
 have h:=aggregate_text.spec (r:=rowN i j) (s:=1) (by decide) rowN_vals (by simp [rowN])
 have e:bstr (textB (rowN i j).Values 1 0)=K1 i:=by
  have b0:Nat.testBit 1 0=true:=by decide
  have b1:Nat.testBit 1 1=false:=by decide
  unfold K1 keysW keysI rowN
  simp [textB,b0,b1,keyS_list]
 rw [e] at h
 exact h
theorem text_all {i j:Nat}:aggregate_text.C (rowN i j) 4294967295 (K2 i j):=by
 have h:=aggregate_text.spec (r:=rowN i j) (s:=4294967295) (by decide) rowN_vals (by simp [rowN])
 have e:bstr (textB (rowN i j).Values 4294967295 0)=K2 i j:=by
  have b0:Nat.testBit 4294967295 0=true:=by decide
  have b1:Nat.testBit 4294967295 1=true:=by decide
  unfold K2 keysW keysI rowN
  simp [textB,b0,b1,keyS_list]
 rw [e] at h
 exact h
theorem satisfies_none {r:api_Row}:aggregate_satisfies.C r [] true:=by
 obtain ⟨q,h1,h2⟩:=aggregate_satisfies.enter r [] (fun q=>q=true) (by
  apply aggregate_satisfies.L1_step
  rw [if_neg (by simp)])
 rw [← h1];exact h2
theorem plus_some {x:aggregate_total}:∃ r,aggregate_total_plus.C x 1 1 r:=by
 obtain ⟨r,_,h⟩:=aggregate_total_plus.enter x 1 1 (fun _=>True) (by
  obtain ⟨q,_,g⟩:=aggregate_total_normal.enter (⟨(IntKind.wrap .i64 (x.high+(IntKind.wrap .i64 ((shrw .i64 1 32)*1)))),(IntKind.wrap .i64 (x.low+(IntKind.wrap .i64 ((bAnd .i64 1 4294967295)*1))))⟩:aggregate_total) (fun _=>True) trivial
  exact ⟨q,g,trivial⟩)
 exact ⟨r,h⟩
def blkRows (i:Nat):Nat→Nat→List api_Row
 | _,0=>[]
 | j,m+1=>rowN i j::blkRows i (j+1) m
def allRows (sz:Nat→Nat):Nat→Nat→List api_Row
 | _,0=>[]
 | i,m+1=>blkRows i 0 (sz i)++allRows sz (i+1) m
theorem blkRows_snoc {i:Nat}:∀ {m j:Nat},blkRows i j (m+1)=blkRows i j m++[rowN i (j+m)]
 | 0,j=>by simp [blkRows]
 | m+1,j=>by
  rw [blkRows,blkRows_snoc (m:=m) (j:=j+1),blkRows,List.cons_append]
  have:j+1+m=j+(m+1):=by omega
  rw [this]
theorem allRows_snoc {sz:Nat→Nat}:∀ {m i:Nat},allRows sz i (m+1)=allRows sz i m++blkRows (i+m) 0 (sz (i+m))
 | 0,i=>by simp [allRows]
 | m+1,i=>by
  rw [allRows,allRows_snoc (m:=m) (i:=i+1),allRows,List.append_assoc]
  have:i+1+m=i+(m+1):=by omega
  rw [this]
theorem set_look {α:Type} {l:List α} {i i':Nat} {x:α}:(lset l ((i:Nat):Int) x)[i']? = if i=i' then (if i<l.length then some x else none) else l[i']?:=by
 unfold lset
 rw [Int.toNat_natCast,List.getElem?_set]
structure GInv (sz:Nat→Nat) (i j:Nat) (out:List (List aggregate_group)) (m1:List (ByteArray×Int)) (m2:List (ByteArray×(Int×Int))):Prop where
 len:out.length=if j=0 then i else i+1
 cnt:∀ q,q<i→∃ a,out[q]? = some a∧a.length=sz q
 cur:j≠0→∃ a,out[i]? = some a∧a.length=j
 h1:∀ q,q<1000→mget (K1 q) m1=if q<out.length then some (q:Int) else none
 h2:∀ q p,q<1000→p<1000→mhas (K2 q p) m2=true→q<i∨q=i∧p<j
def g0:aggregate_group:=⟨[],true,(⟨0,0,(⟨#[]⟩:ByteArray)⟩:api_Value),(⟨0,0⟩:aggregate_total)⟩
namespace aggregate_groups
variable {sz:Nat→Nat} {t:api_Table} {φ:List (List aggregate_group)→Prop}
theorem step {i j k:Nat} (hi:i<500) (hj:j<500) (hk:k<1000000) {out:List (List aggregate_group)} {m1:List (ByteArray×Int)} {m2:List (ByteArray×(Int×Int))} (hv:GInv sz i j out m1 m2) (hr:lget t.Rows (k:Int)=some (rowN i j)) (hkl:(k:Int)<(t.Rows.length:Int))
  (next:∀ out' m1' m2',GInv sz i (j+1) out' m1' m2'→L1 t 1 [] 1 0 out' m1' m2' ((k+1:Nat):Int) φ):L1 t 1 [] 1 0 out m1 m2 (k:Int) φ:=by
 have two:∀ (o:List (List aggregate_group)) (m:List (ByteArray×Int)) (a:List aggregate_group),o.length=i+1→o[i]? = some a→a.length=j→(∀ q,q<i→∃ a,o[q]? = some a∧a.length=sz q)→(∀ q,q<1000→mget (K1 q) m=if q<o.length then some (q:Int) else none)→L4 t 1 [] 1 0 o m m2 (rowN i j) (K1 i) (K2 i j) (k:Int) φ:=by
  intro o m a ho hoa ha hc hm
  have e1:mgetD (K1 i) m 0=((i:Nat):Int):=by
   unfold mgetD
   rw [hm i (by omega),if_pos (by omega)];rfl
  have hla:lget o ((i:Nat):Int)=some a:=lget_of hoa
  apply L4_step
  rw [if_neg (fun h=>by
   rcases hv.h2 i j (by omega) (by omega) h with h | ⟨_,h⟩<;>omega),e1]
  refine ⟨a,hla,true,satisfies_none,by omega,?_⟩
  show L3 t 1 [] 1 0 (lset o ((i:Nat):Int) (a++[g0])) m (mset (K2 i j) (((i:Nat):Int),(a.length:Int)) m2) (rowN i j) (K2 i j) ((i:Nat):Int) (k:Int) φ
  have e2:mgetD (K2 i j) (mset (K2 i j) (((i:Nat):Int),(a.length:Int)) m2) ((0:Int),(0:Int))=(((i:Nat):Int),(a.length:Int)):=by
   unfold mgetD
   rw [mgm,if_pos rfl];rfl
  have hlast:lget (a++[g0]) ((a.length:Nat):Int)=some g0:=by
   rw [lget_nat];simp
  apply L3_step
  refine ⟨a++[g0],lls hla,?_⟩
  rw [e2]
  refine ⟨g0,hlast,by show ((0+1)*8:Nat)≤_;decide,?_⟩
  rw [if_pos (show g0.ok=true from rfl),if_pos rfl]
  obtain ⟨r15,hr15⟩:=plus_some (x:=g0.sum)
  refine ⟨r15,hr15,?_⟩
  apply L2_step
  rw [wrap_succ (by omega)]
  refine next _ _ _ ⟨?_,fun q hq=>?_,fun _=>?_,fun q hq=>?_,fun q p hq hp hh=>?_⟩
  ·simp only [lset_length]
   rw [if_neg (by omega),ho]
  ·simp only [set_look,if_neg (show ¬ i=q by omega)]
   exact hc q hq
  ·refine ⟨_,by rw [set_look,if_pos rfl,if_pos (by simp only [lset_length];omega)],?_⟩
   simp only [lset_length,List.length_append,List.length_cons,List.length_nil]
   omega
  ·simp only [lset_length];exact hm q hq
  ·unfold mhas at hh
   rw [mgm] at hh
   by_cases hkk:K2 i j=K2 q p
   ·obtain ⟨rfl,rfl⟩:=(K2_inj (by omega) (by omega) (by omega) (by omega)).1 hkk
    exact .inr ⟨rfl,by omega⟩
   ·rw [if_neg hkk] at hh
    rcases hv.h2 q p hq hp hh with h | ⟨h,h'⟩
    ·exact .inl h
    ·exact .inr ⟨h,by omega⟩
 have hlen:=hv.len
 apply L1_step
 rw [if_pos hkl]
 refine ⟨rowN i j,hr,_,text_one,_,text_all,?_⟩
 have hm1:=hv.h1 i (by omega)
 by_cases hj0:j=0
 ·rw [if_pos hj0] at hlen
  rw [if_neg (by omega)] at hm1
  rw [if_neg (by unfold mhas;rw [hm1];decide)]
  refine ⟨by omega,two _ _ [] (by rw [List.length_append,hlen];rfl) (by rw [← hlen];simp) (by simp [hj0]) (fun q hq=>?_) fun q hq=>?_⟩
  ·obtain ⟨a,h1,h2⟩:=hv.cnt q hq
   exact ⟨a,by rw [List.getElem?_append_left (by omega)];exact h1,h2⟩
  ·rw [mgm,hlen]
   by_cases hq2:q=i
   ·subst hq2
    rw [if_pos rfl,if_pos (by rw [List.length_append,hlen];simp)]
   ·rw [if_neg (fun h=>hq2 ((K1_inj (by omega) (by omega)).1 h).symm),hv.h1 q hq,List.length_append,hlen]
    simp only [List.length_cons,List.length_nil]
    by_cases h3:q<i
    ·rw [if_pos h3,if_pos (by omega)]
    ·rw [if_neg h3,if_neg (by omega)]
 ·rw [if_neg hj0] at hlen
  rw [if_pos (by omega)] at hm1
  rw [if_pos (by unfold mhas;rw [hm1];rfl)]
  obtain ⟨a,ha1,ha2⟩:=hv.cur hj0
  exact two out m1 a hlen ha1 ha2 hv.cnt hv.h1
theorem block {i:Nat} (hi:i<500) (rest:List api_Row):∀ (m j k:Nat),j+m<500→k+m<1000000→t.Rows.drop k=blkRows i j m++rest→∀ {out:List (List aggregate_group)} {m1:List (ByteArray×Int)} {m2:List (ByteArray×(Int×Int))},GInv sz i j out m1 m2 →
  (∀ out' m1' m2',t.Rows.drop (k+m)=rest→GInv sz i (j+m) out' m1' m2'→L1 t 1 [] 1 0 out' m1' m2' ((k+m:Nat):Int) φ)→L1 t 1 [] 1 0 out m1 m2 (k:Int) φ
 | 0,j,k,_,_,hd,out,m1,m2,hv,next=>next out m1 m2 hd hv
 | m+1,j,k,hj,hk,hd,out,m1,m2,hv,next=>by
  rw [blkRows,List.cons_append] at hd
  have hlt:=drop_lt hd
  refine step hi (by omega) (by omega) hv (lget_drop hd) (by omega) fun out' m1' m2' hv'=>?_
  refine block hi rest m (j+1) (k+1) (by omega) (by omega) (drop_next hd) hv' fun o a b h1 h2=>?_
  have e1:k+1+m=k+(m+1):=by omega
  have e2:j+1+m=j+(m+1):=by omega
  rw [e1] at h1 ⊢
  rw [e2] at h2
  exact next o a b h1 h2
theorem blocks (hsz:∀ i,0<sz i∧sz i≤3):∀ (m i k:Nat),i+m≤400→k+3*m<900000→t.Rows.drop k=allRows sz i m→∀ {out:List (List aggregate_group)} {m1:List (ByteArray×Int)} {m2:List (ByteArray×(Int×Int))},GInv sz i 0 out m1 m2 →
  (∀ out':List (List aggregate_group),out'.length=i+m→(∀ q,q<i+m→∃ a,out'[q]? = some a∧a.length=sz q)→φ out')→L1 t 1 [] 1 0 out m1 m2 (k:Int) φ
 | 0,i,k,_,_,hd,out,m1,m2,hv,next=>by
  rw [allRows] at hd
  have:=drop_ge hd
  apply L1_step
  rw [if_neg (by omega)]
  have:=hv.len
  rw [if_pos rfl] at this
  exact next out this fun q hq=>hv.cnt q (by omega)
 | m+1,i,k,hm,hk,hd,out,m1,m2,hv,next=>by
  have hs:=hsz i
  rw [allRows] at hd
  refine block (by omega) (allRows sz (i+1) m) (sz i) 0 k (by omega) (by omega) hd hv fun o a b h1 h2=>?_
  rw [Nat.zero_add] at h2
  have hlen:=h2.len
  rw [if_neg (by omega)] at hlen
  have hv':GInv sz (i+1) 0 o a b:=⟨by rw [if_pos rfl,hlen],fun q hq=>by
   by_cases h:q<i
   ·exact h2.cnt q h
   ·have:q=i:=by omega
    subst this
    exact h2.cur (by omega),fun h=>absurd rfl h,h2.h1,fun q p hq hp hh=>by
   rcases h2.h2 q p hq hp hh with h | ⟨h,_⟩
   ·exact .inl (by omega)
   ·exact .inl (by omega)⟩
  refine blocks hsz m (i+1) (k+sz i) (by omega) (by omega) h1 hv' fun out' g1 g2=>next out' (by omega) fun q hq=>g2 q (by omega)
theorem spec (hsz:∀ i,0<sz i∧sz i≤3) {m:Nat} (hm:m≤400) (ht:t.Rows=allRows sz 0 m):∃ out:List (List aggregate_group),C t 1 [] 1 0 out∧out.length=m∧∀ q,q<m→∃ a,out[q]? = some a∧a.length=sz q:=by
 obtain ⟨out,h1,h2⟩:=enter t 1 [] 1 0 (fun out=>out.length=m∧∀ q,q<m→∃ a,out[q]? = some a∧a.length=sz q) (by
  refine blocks hsz m 0 0 (by omega) (by omega) (by rw [List.drop_zero];exact ht) ⟨rfl,fun q hq=>by omega,fun h=>absurd rfl h,fun q _=>by simp [mget],fun q p _ _ h=>by simp [mhas,mget] at h⟩ fun out' g1 g2=>⟨by omega,fun q hq=>g2 q (by omega)⟩)
 exact ⟨out,h2,h1⟩
end aggregate_groups
end Go.Own
namespace Go.Own
theorem nameOne {b:UInt8} (h:(letB (u8i b)&&true)=true):nameF ⟨#[b]⟩=true:=by
 unfold nameF
 have e:(⟨#[b]⟩:ByteArray).toList=[b]:=bl_mk (l:=[b])
 rw [e]
 simp only [nameL,List.length_nil,List.all_nil,Bool.and_true] at h ⊢
 rw [h]
 have:decide ([b]=nullB)=false:=decide_eq_false (by unfold nullB;simp)
 rw [this];rfl
def tabM (sz:Nat→Nat) (m:Nat):api_Table:=⟨(⟨#[114]⟩:ByteArray),[(⟨#[107]⟩:ByteArray),(⟨#[118]⟩:ByteArray)],allRows sz 0 m⟩
theorem blkRows_len {i:Nat}:∀ {m j:Nat},(blkRows i j m).length=m
 | 0,_=>rfl
 | m+1,j=>by rw [blkRows,List.length_cons,blkRows_len]
theorem allRows_len {sz:Nat→Nat} (hs:∀ i,sz i≤3):∀ {m i:Nat},(allRows sz i m).length≤3*m
 | 0,_=>Nat.le_refl 0
 | m+1,i=>by
  rw [allRows,List.length_append,blkRows_len]
  have:=hs i
  have:=allRows_len hs (m:=m) (i:=i+1)
  omega
theorem rows_blk {i:Nat} {rest:List api_Row}:∀ {m j:Nat} {last:Int},last≤((3*i+j:Nat):Int)→(∀ last':Int,last'≤((3*i+j+m:Nat):Int)→rowsF 2 last' rest=0)→rowsF 2 last (blkRows i j m++rest)=0
 | 0,j,last,h,hr=>hr last h
 | m+1,j,last,h,hr=>by
  rw [blkRows,List.cons_append,rowsF]
  have h1:¬ (rowN i j).ID≤last:=by show ¬ ((3*i+j+1:Nat):Int)≤last;omega
  have h2:(rowN i j).Values.length=2:=rfl
  have h3:validsF (rowN i j).Values=true:=by
   unfold validsF
   rw [List.all_eq_true]
   exact fun v hv=>(rowN_vals v hv).1
  rw [if_neg h1,if_pos h2,if_pos h3]
  refine rows_blk (j:=j+1) ?_ fun last' hl=>hr last' (by omega)
  show ((3*i+j+1:Nat):Int)≤_
  omega
theorem rows_all {sz:Nat→Nat} (hs:∀ i,sz i≤3):∀ {m i:Nat} {last:Int},last≤((3*i:Nat):Int)→rowsF 2 last (allRows sz i m)=0
 | 0,i,last,_=>rfl
 | m+1,i,last,h=>by
  rw [allRows]
  have:=hs i
  exact rows_blk (j:=0) (by omega) fun last' hl=>rows_all hs (by omega)
theorem tabM_ok {sz:Nat→Nat} (hs:∀ i,sz i≤3) {m:Nat} (hm:m≤300):tableF (tabM sz m)=0:=by
 have n1:nameF (⟨#[114]⟩:ByteArray)=true:=nameOne (by decide)
 have n2:nameF (⟨#[107]⟩:ByteArray)=true:=nameOne (by decide)
 have n3:nameF (⟨#[118]⟩:ByteArray)=true:=nameOne (by decide)
 have hl:=allRows_len hs (m:=m) (i:=0)
 have hn:namesF [(⟨#[107]⟩:ByteArray),(⟨#[118]⟩:ByteArray)]=true:=by
  unfold namesF
  simp only [namesGo,n2,n3,List.nil_append,List.any_nil,List.any_cons,Bool.or_false,Bool.not_false,Bool.true_and,Bool.and_true]
  have:eqS (⟨#[118]⟩:ByteArray) (⟨#[107]⟩:ByteArray)=false:=by
   unfold eqS
   refine decide_eq_false fun h=>?_
   have:=congrArg (fun b:ByteArray=>b.data.toList) h
   simp at this
  rw [this];rfl
 unfold tableF tabM
 simp only
 rw [if_pos n1,if_neg (by simp),if_neg (by omega),if_pos hn]
 exact rows_all hs (Int.le_refl _)
theorem aggregate_keyed.one {sz:Nat→Nat} (hs:∀ i,sz i≤3) {m:Nat} (hm:m≤300):aggregate_keyed.C (tabM sz m) 1 0:=by
 obtain ⟨r,h1,h2⟩:=aggregate_keyed.enter (tabM sz m) 1 (fun r=>r=0) (by
  refine ⟨_,table_Valid.spec,?_⟩
  rw [tabM_ok hs hm,if_pos rfl]
  refine ⟨by omega,?_⟩
  have e:shrw .u32 1 ((tabM sz m).Attrs.length:Int)=0:=by
   have:=shrw_nat (k:=.u32) (a:=1) (i:=2) (by decide)
   exact this
  rw [if_pos e])
 rw [← h1];exact h2
def repG (sz:Nat→Nat):Nat→Nat→Int→Int×Int
 | _,0,w=>(w,0)
 | i,m+1,w=>if 1000000000000000<w*(sz i:Int) then (0,3) else repG sz (i+1) m (w*(sz i:Int))
def wntG (sz:Nat→Nat):Nat→Int
 | 0=>1
 | i+1=>if wntG sz i≤1000000000000000 then wntG sz i*(sz i:Int) else wntG sz i
theorem mul_small {w:Int} {s:Nat} (h1:1≤w) (h2:w≤1000000000000000) (h3:0<s) (h4:s≤3):1≤w*(s:Int)∧w*(s:Int)≤3000000000000000:=by
 have:s=1∨s=2∨s=3:=by omega
 rcases this with rfl | rfl | rfl<;>constructor<;>omega
theorem wnt_range {sz:Nat→Nat} (hs:∀ i,0<sz i∧sz i≤3):∀ i,1≤wntG sz i∧wntG sz i≤3000000000000000
 | 0=>by rw [wntG];omega
 | i+1=>by
  obtain ⟨h1,h2⟩:=wnt_range hs i
  rw [wntG]
  split
  ·rename_i h;exact mul_small h1 h (hs i).1 (hs i).2
  ·exact ⟨h1,h2⟩
theorem wnt_stays {sz:Nat→Nat} {i:Nat} (h:1000000000000000<wntG sz i):∀ k,wntG sz (i+k)=wntG sz i
 | 0=>rfl
 | k+1=>by
  show wntG sz (i+k+1)=_
  rw [wntG,wnt_stays h k,if_neg (by omega)]
theorem rep_wnt {sz:Nat→Nat}:∀ (m i:Nat),wntG sz i≤1000000000000000→repG sz i m (wntG sz i)=if 1000000000000000<wntG sz (i+m) then (0,3) else (wntG sz (i+m),0)
 | 0,i,h=>by rw [repG,Nat.add_zero,if_neg (by omega)]
 | m+1,i,h=>by
  have e:wntG sz (i+1)=wntG sz i*(sz i:Int):=by rw [wntG,if_pos h]
  have e2:i+(m+1)=i+1+m:=by omega
  rw [repG,← e,e2]
  by_cases hb:1000000000000000<wntG sz (i+1)
  ·rw [if_pos hb,wnt_stays hb m,if_pos hb]
  ·rw [if_neg hb]
   exact rep_wnt m (i+1) (by omega)
theorem aggregate_Repairs.spec {sz:Nat→Nat} (hs:∀ i,0<sz i∧sz i≤3) {m:Nat} (hm:m≤300):aggregate_Repairs.C (tabM sz m) 1 (repG sz 0 m 1):=by
 obtain ⟨out,g1,g2,g3⟩:=aggregate_groups.spec (t:=tabM sz m) hs (by omega) rfl
 obtain ⟨r,h1,h2⟩:=aggregate_Repairs.enter (tabM sz m) 1 (fun r=>r=repG sz 0 m 1) (by
  refine ⟨_,aggregate_keyed.one (fun i=>(hs i).2) hm,?_⟩
  rw [if_pos rfl]
  refine ⟨out,g1,?_⟩
  have go:∀ (q i:Nat) (w:Int),i+q=m→1≤w→w≤1000000000000000→repG sz i q w=repG sz 0 m 1→aggregate_Repairs.L1 w out (i:Int) (fun r=>r=repG sz 0 m 1):=by
   intro q
   induction q with
   | zero=>
    intro i w hi h1 h2 h
    apply aggregate_Repairs.L1_step
    rw [if_neg (by omega)]
    exact h
   | succ q ih=>
    intro i w hi h1 h2 h
    obtain ⟨a,ha1,ha2⟩:=g3 i (by omega)
    obtain ⟨b1,b2⟩:=mul_small h1 h2 (hs i).1 (hs i).2
    apply aggregate_Repairs.L1_step
    rw [if_pos (by omega)]
    refine ⟨a,lget_of ha1,?_⟩
    rw [ha2,wrap_id (by omega) (by omega)]
    rw [repG] at h
    by_cases hb:1000000000000000<w*(sz i:Int)
    ·rw [if_pos hb]
     rw [if_pos hb] at h
     exact h
    ·rw [if_neg hb,wrap_succ (by omega)]
     rw [if_neg hb] at h
     exact ih (i+1) _ (by omega) b1 (by omega) h
  exact go m 0 1 (by omega) (by omega) (by omega) rfl)
 rw [← h1];exact h2
namespace drosslaw51_AggregateMany
def szK (k i:Nat):Nat:=2+(i+k) % 2
theorem szK_ok (k i:Nat):0<szK k i∧szK k i≤3:=by unfold szK;omega
theorem size_eq {k i:Nat} (hk:k<256) (hi:i<1000):IntKind.wrap .i64 (2+(Int.tmod (IntKind.wrap .i64 ((i:Int)+(IntKind.wrap .i64 (k:Int)))) 2))=((szK k i:Nat):Int):=by
 rw [wrap_id (x:=(k:Int)) (by omega) (by omega),wrap_id (x:=(i:Int)+(k:Int)) (by omega) (by omega),Int.tmod_eq_emod_of_nonneg (by omega)]
 rw [wrap_id (by omega) (by omega)]
 unfold szK
 omega
theorem spec (x0 x1:Int) (h0:0≤x0∧x0<256) (h1:0≤x1∧x1<256):C x0 x1 true:=by
 obtain ⟨k,rfl⟩:∃ k:Nat,x1=k:=⟨x1.toNat,by omega⟩
 obtain ⟨m,hm,hm60⟩:∃ m:Nat,IntKind.wrap .i64 (Int.tmod x0 60)=(m:Int)∧m<60:=⟨(x0 % 60).toNat,by
  rw [Int.tmod_eq_emod_of_nonneg h0.1,wrap_id (by omega) (by omega)];omega,by omega⟩
 have hs:=szK_ok k
 obtain ⟨r,e1,e2⟩:=enter x0 (k:Int) (fun r=>r=true) (by
  refine ⟨true,drosslaw51_awake.spec,?_⟩
  rw [if_pos rfl,hm]
  have inner:∀ (i:Nat),i<m→(L1 (k:Int) (allRows (szK k) 0 (i+1)) (wntG (szK k) (i+1)) (m:Int) ((i+1:Nat):Int) (fun r=>r=true))→∀ (q j:Nat),j+q=szK k i→L2 (k:Int) (allRows (szK k) 0 i++blkRows i 0 j) (wntG (szK k) i) (i:Int) ((szK k i:Nat):Int) (m:Int) (i:Int) ((szK k i:Nat):Int) (j:Int) (fun r=>r=true):=by
   intro i hi next q
   have hsi:=hs i
   have hlen:=allRows_len (fun i=>(hs i).2) (m:=i) (i:=0)
   induction q with
   | zero=>
    intro j hj
    have hj:j=szK k i:=by omega
    subst hj
    have er:allRows (szK k) 0 (i+1)=allRows (szK k) 0 i++blkRows i 0 (szK k i):=by
     have:=allRows_snoc (sz:=szK k) (m:=i) (i:=0)
     rw [Nat.zero_add] at this
     exact this
    rw [er] at next
    have hw:=wnt_range hs i
    apply L2_step
    rw [if_neg (by omega)]
    rw [wntG] at next
    by_cases hc:wntG (szK k) i≤1000000000000000
    ·rw [if_pos hc] at next ⊢
     have hb:=mul_small hw.1 hc hsi.1 hsi.2
     apply L3_step
     rw [wrap_id (x:=wntG (szK k) i*((szK k i:Nat):Int)) (by omega) (by omega),wrap_succ (by omega)]
     exact next
    ·rw [if_neg hc] at next ⊢
     apply L3_step
     rw [wrap_succ (by omega)]
     exact next
   | succ q ih=>
    intro j hj
    apply L2_step
    rw [if_pos (by omega)]
    refine ⟨by rw [List.length_append,blkRows_len];omega,?_⟩
    have e3:IntKind.wrap .i64 (3*(i:Int))=3*(i:Int):=wrap_id (by omega) (by omega)
    rw [e3,wrap_id (x:=3*(i:Int)+(j:Int)) (by omega) (by omega),wrap_id (x:=3*(i:Int)+(j:Int)+1) (by omega) (by omega),wrap_succ (by omega)]
    have er:(⟨3*(i:Int)+(j:Int)+1,[(⟨1,(i:Int),(⟨#[]⟩:ByteArray)⟩:api_Value),(⟨1,(j:Int),(⟨#[]⟩:ByteArray)⟩:api_Value)]⟩:api_Row)=rowN i j:=by
     unfold rowN numV
     congr 1
    rw [er,List.append_assoc]
    have eb:=blkRows_snoc (i:=i) (m:=j) (j:=0)
    rw [Nat.zero_add] at eb
    rw [← eb]
    exact ih (j+1) (by omega)
  have outer:∀ (q i:Nat),i+q=m→L1 (k:Int) (allRows (szK k) 0 i) (wntG (szK k) i) (m:Int) (i:Int) (fun r=>r=true):=by
   intro q
   induction q with
   | zero=>
    intro i hi
    have hi:i=m:=by omega
    subst hi
    apply L1_step
    rw [if_neg (by omega)]
    refine ⟨_,aggregate_Repairs.spec hs (by omega),?_⟩
    have er:=rep_wnt (sz:=szK k) i 0 (by rw [wntG];omega)
    rw [Nat.zero_add,show wntG (szK k) 0=1 from rfl] at er
    rw [er]
    by_cases hc:1000000000000000<wntG (szK k) i
    ·rw [if_pos hc,if_pos hc,if_pos rfl];rfl
    ·rw [if_neg hc,if_neg hc,if_pos rfl];simp
   | succ q ih=>
    intro i hi
    apply L1_step
    rw [if_pos (by omega),size_eq (by omega) (by omega)]
    have:=inner i (by omega) (ih (i+1) (by omega)) (szK k i) 0 (by omega)
    rw [blkRows,List.append_nil] at this
    exact this
  exact outer m 0 (by omega))
 subst e1;exact e2
theorem law {xs:List D} (hx:TyAll env.P drosslaw51_AggregateMany_K drosslaw51_AggregateMany_T xs):Ret env drosslaw51_AggregateMany_F xs (.lit (.bool true)) []:=
 drosslaw51_AggregateMany_of (fun x0 x1 h0 h1=>spec x0 x1 (u8_of h0) (u8_of h1)) hx
end drosslaw51_AggregateMany
end Go.Own
