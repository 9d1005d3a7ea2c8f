/- What the functions that the law reaches answer. No conditions. -/
import Derived.Test.YtmiedlcblpiemaaGreatDoorRefuteMixedLaw6
import Derived.Test.YtmiedlcblpiemaaGreatDoorRefuteMixedLaw8
import Derived.Test.YtmiedlcblpiemaaGreatDoorRefuteMixedLaw1
set_option linter.all false
namespace Go.Own
theorem drossref02_Sub.spec {a b:Nat} (ha:a<2^32) (hb:b<2^32):drossref02_Sub.C a b (decide (a &&& b=a)):=by
 obtain ⟨r,h1,h2⟩:=drossref02_Sub.enter a b (fun r=>r=decide (a &&& b=a)) (by
  rw [bAnd_nat (k:=.u32) (by simpa [top] using ha) (by simpa [top] using hb)]
  by_cases h:a &&& b=a
  ·simp [h]
  ·have:¬ ((a &&& b:Nat):Int)=(a:Int):=by omega
   simp [h,this])
 rw [← h1];exact h2
namespace drossref02_Full
theorem loop {k:Nat} {φ:Int→Prop} (h:φ (fullN k)):∀ (m i:Nat),i+m=min k 32→L1 k ((2^i-1:Nat):Int) i φ
 | 0,i,hi=>by
  apply L1_step
  have e:((2^i-1:Nat):Int)=(fullN k:Int):=by unfold fullN;rw [← hi,Nat.add_zero]
  rw [e]
  split
  ·rw [if_neg (by omega)];exact h
  ·exact h
 | m+1,i,hi=>by
  apply L1_step
  rw [if_pos (by omega),if_pos (by omega)]
  refine ⟨by omega,?_⟩
  have hp:2^(i+1)≤2^32:=Nat.pow_le_pow_right (by decide) (by omega)
  have h2:0<2^i:=Nat.pos_of_ne_zero (by simp)
  rw [Nat.pow_succ] at hp
  rw [shl1_nat (k:=.u32) (by simp only [top];omega),bOr_nat (k:=.u32) (by simp only [top];omega) (by simp only [top];omega),wrap_succ (by omega)]
  have e:(2^i-1) ||| 2^i=2^(i+1)-1:=by
   apply Nat.eq_of_testBit_eq
   intro j
   rw [Nat.testBit_or,Nat.testBit_two_pow_sub_one,Nat.testBit_two_pow,Nat.testBit_two_pow_sub_one]
   by_cases h1:j<i
   ·have:j<i+1:=by omega
    simp [h1,this]
   ·by_cases h3:i=j
    ·subst h3;simp
    ·have:¬ j<i+1:=by omega
     simp [h1,h3,this]
  rw [e]
  exact loop h m (i+1) (by omega)
theorem spec {k:Nat}:C k (fullN k):=by
 obtain ⟨r,h1,h2⟩:=enter k (fun r=>r=(fullN k:Int)) (loop (φ:=fun r=>r=(fullN k:Int)) rfl (min k 32) 0 (by omega))
 rw [← h1];exact h2
end drossref02_Full
def FdOK (l:List api_FD):Prop:=∀ d∈l,U32 d.Lhs∧U32 d.Rhs
def inU (n:Nat) (l r:Int):Bool:=decide (sN l<2^n)&&decide (sN r<2^n)
theorem in_or {n:Nat} {l r:Int} (hl:U32 l) (hr:U32 r):(shrw .u32 (bOr .u32 l r) (n:Int)=0)↔inU n l r=true:=by
 rw [hl.eq,hr.eq,bOr_nat hl.top hr.top,shrw_nat (Nat.or_lt_two_pow hl.top hr.top)]
 unfold inU
 rw [Bool.and_eq_true,decide_eq_true_iff,decide_eq_true_iff]
 have e1:sN (sN l:Int)=sN l:=by unfold sN;omega
 have e2:sN (sN r:Int)=sN r:=by unfold sN;omega
 rw [e1,e2,← or_lt,← div_zero]
 omega
theorem sub_full {a n:Nat} (ha:a<2^32) (hn:n≤32):(a &&& fullN n=a)↔a<2^n:=by
 rw [sub_iff,lt_iff]
 constructor
 ·intro h i hi
  have:=h i hi
  rw [fullN_bit,decide_eq_true_iff] at this
  omega
 ·intro h i hi
  rw [fullN_bit,decide_eq_true_iff]
  have:=h i hi
  omega
theorem sub_in {n:Nat} {x:Int} (hn:n≤32) (hx:U32 x):drossref02_Sub.C x (fullN n) (decide (sN x<2^n)):=by
 have:=drossref02_Sub.spec (a:=sN x) (b:=fullN n) hx.lt fullN_lt
 rw [← hx.eq] at this
 have e:decide (sN x &&& fullN n=sN x)=decide (sN x<2^n):=by rw [decide_eq_decide];exact sub_full hx.lt hn
 rw [e] at this;exact this
def fdsE (n:Int) (l:List api_FD):Int:=if n<0∨16<n then 7 else if 64<l.length then 3 else if (l.all fun d=>inU n.toNat d.Lhs d.Rhs)=true then 0 else 1
theorem all_goal {α:Type} {l:List α} {p:α→Bool} {L:Int→Prop} {φ:Int→Prop} (stop:φ 0→L (l.length:Int))
  (step:∀ (k:Nat) a,l[k]? = some a→k<l.length→(if p a=true then L ((k+1:Nat):Int) else φ 1)→L k) (h:φ (if l.all p=true then 0 else 1)):L 0:=
 all_loop (l:=l) (p:=p) (L:=L) (φ:=fun b=>φ (if b=true then 0 else 1)) (fun h=>stop (by simpa using h)) (fun k a ha hk h=>step k a ha hk (by simpa using h)) h
theorem closure_Valid.spec {n:Int} {l:List api_FD} (hl:FdOK l):closure_Valid.C n l (fdsE n l):=by
 obtain ⟨r,h1,h2⟩:=closure_Valid.enter n l (fun r=>r=fdsE n l) (by
  by_cases a:n<0∨16<n
  ·have e:fdsE n l=7:=if_pos a
   rw [e]
   by_cases b:n<0
   ·rw [if_pos b]
   ·rw [if_neg b,if_pos (by omega)]
  ·rw [if_neg (by omega),if_neg (by omega)]
   by_cases b:64<l.length
   ·have e:fdsE n l=3:=by unfold fdsE;rw [if_neg a,if_pos b]
    rw [e,if_pos (by omega)]
   ·have e:fdsE n l=if (l.all fun d=>inU n.toNat d.Lhs d.Rhs)=true then 0 else 1:=by unfold fdsE;rw [if_neg a,if_neg b]
    rw [e,if_neg (by omega)]
    ·obtain ⟨m,rfl⟩:∃ m:Nat,n=m:=⟨n.toNat,by omega⟩
     refine all_goal (l:=l) (p:=fun d=>inU m d.Lhs d.Rhs) (L:=fun i=>closure_Valid.L1 m l i _) (φ:=fun r=>r=_) ?_ ?_ rfl
     ·intro h;apply closure_Valid.L1_step;rw [if_neg (by omega)];exact h
     ·intro k d hd hk h
      apply closure_Valid.L1_step
      rw [if_pos (by omega)]
      refine ⟨d,lget_of hd,by omega,?_⟩
      have hd':=hl d (List.mem_of_getElem? hd)
      have e:=in_or (n:=m) hd'.1 hd'.2
      rw [wrap_succ (by omega)]
      split
      ·rename_i hh;rw [if_pos (e.1 hh)] at h;exact h
      ·rename_i hh;rw [if_neg (fun h3=>hh (e.2 h3))] at h;exact h)
 rw [← h1];exact h2
theorem fdsE_n {n:Int} {l:List api_FD} (h:fdsE n l=0):0≤n∧n≤16:=by
 unfold fdsE at h
 split at h
 ·cases h
 ·omega
def pop8 (m:Nat):Nat:=((List.range 8).filter fun i=>m.testBit i).length
theorem filter_shift {n k:Nat}:((List.range 8).map (·+k)).filter (fun i=>n.testBit i)=((List.range 8).filter fun i=>(n / 2^k % 256).testBit i).map (·+k):=by
 rw [List.filter_map]
 congr 1
 refine List.filter_congr fun i hi=>?_
 have hi:=List.mem_range.1 hi
 simp only [Function.comp]
 rw [show (256:Nat)=2^8 from rfl,Nat.testBit_mod_two_pow,Nat.testBit_div_two_pow]
 simp [hi]
theorem szN_bytes (n:Nat):szN n=pop8 (n % 256)+pop8 (n / 2^8 % 256)+pop8 (n / 2^16 % 256)+pop8 (n / 2^24 % 256):=by
 have e:List.range 32=(List.range 8).map (·+0)++(List.range 8).map (·+8)++(List.range 8).map (·+16)++(List.range 8).map (·+24):=by decide
 unfold szN bitsOf pop8
 rw [e,List.filter_append,List.filter_append,List.filter_append,filter_shift,filter_shift,filter_shift,filter_shift]
 simp only [List.length_append,List.length_map,Nat.pow_zero,Nat.div_one]
theorem and255 (a:Nat):a &&& 255=a % 256:=Nat.and_two_pow_sub_one_eq_mod a 8
theorem pop8_le {m:Nat}:pop8 m≤8:=by
 unfold pop8
 exact Nat.le_trans (List.length_filter_le _ _) (by simp)
theorem u8i_pop {m:Nat}:u8i (UInt8.ofNat (pop8 m))=(pop8 m:Int):=by
 unfold u8i
 rw [UInt8.toNat_ofNat']
 have:=pop8_le (m:=m)
 omega
theorem math_bits_OnesCount32.spec {n:Nat} (hn:n<2^32):math_bits_OnesCount32.C n (szN n:Int):=by
 obtain ⟨r,h1,h2⟩:=math_bits_OnesCount32.enter n (fun r=>r=(szN n:Int)) (by
  have ht:n<2^top .u32:=by simpa [top] using hn
  have e24:=shrw_nat (k:=.u32) (a:=n) (i:=24) ht
  have e16:=shrw_nat (k:=.u32) (a:=n) (i:=16) ht
  have e8:=shrw_nat (k:=.u32) (a:=n) (i:=8) ht
  rw [show ((24:Nat):Int)=24 from rfl] at e24
  rw [show ((16:Nat):Int)=16 from rfl] at e16
  rw [show ((8:Nat):Int)=8 from rfl] at e8
  have a255:∀ a:Nat,a<2^32→bAnd .u32 (a:Int) 255=((a % 256:Nat):Int):=fun a ha=>by
   have:=bAnd_nat (k:=.u32) (a:=a) (b:=255) (by simpa [top] using ha) (by simp only [top];omega)
   rw [show ((255:Nat):Int)=255 from rfl] at this
   rw [this,and255]
  rw [e24,e16,e8,a255 _ (Nat.lt_of_le_of_lt (Nat.div_le_self _ _) hn),a255 _ (Nat.lt_of_le_of_lt (Nat.div_le_self _ _) hn),a255 _ hn]
  have h24:n / 2^24<256:=by omega
  have em:n / 2^24=n / 2^24 % 256:=(Nat.mod_eq_of_lt h24).symm
  have hs:=szN_bytes n
  rw [em]
  have m1:n / 2^24 % 256<256:=Nat.mod_lt _ (by omega)
  have m2:n / 2^16 % 256<256:=Nat.mod_lt _ (by omega)
  have m3:n / 2^8 % 256<256:=Nat.mod_lt _ (by omega)
  have m4:n % 256<256:=Nat.mod_lt _ (by omega)
  generalize n / 2^24 % 256=q1 at *
  generalize n / 2^16 % 256=q2 at *
  generalize n / 2^8 % 256=q3 at *
  generalize n % 256=q4 at *
  clear hn ht e24 e16 e8 a255 h24 em
  refine ⟨UInt8.ofNat (pop8 q1),⟨by omega,?_⟩,UInt8.ofNat (pop8 q2),⟨by omega,?_⟩,UInt8.ofNat (pop8 q3),⟨by omega,?_⟩,UInt8.ofNat (pop8 q4),⟨by omega,?_⟩,?_⟩
  ·rw [Int.toNat_natCast]
   clear hs m2 m3 m4
   revert q1
   decide +kernel
  ·rw [Int.toNat_natCast]
   clear hs m1 m3 m4
   revert q2
   decide +kernel
  ·rw [Int.toNat_natCast]
   clear hs m1 m2 m4
   revert q3
   decide +kernel
  ·rw [Int.toNat_natCast]
   clear hs m1 m2 m3
   revert q4
   decide +kernel
  ·rw [u8i_pop,u8i_pop,u8i_pop,u8i_pop]
   have b1:=pop8_le (m:=q1)
   have b2:=pop8_le (m:=q2)
   have b3:=pop8_le (m:=q3)
   have b4:=pop8_le (m:=q4)
   have w8:∀ a b:Nat,a+b<256→IntKind.wrap .u8 ((a:Int)+(b:Int))=((a+b:Nat):Int):=fun a b h=>by
    rw [show (a:Int)+(b:Int)=((a+b:Nat):Int) by omega]
    exact wrap_top (k:=.u8) (by simpa [top] using h)
   rw [w8 _ _ (by omega),w8 _ _ (by omega),w8 _ _ (by omega),hs]
   have:pop8 q1+pop8 q2+pop8 q3+pop8 q4=pop8 q4+pop8 q3+pop8 q2+pop8 q1:=by omega
   rw [this]
   exact wrap_id (by omega) (by omega))
 rw [← h1];exact h2
theorem attrset_Size.spec {x:Int} (hx:U32 x):attrset_Size.C x (szN (sN x):Int):=by
 have:=math_bits_OnesCount32.spec hx.lt
 rw [← hx.eq] at this
 obtain ⟨r,h1,h2⟩:=attrset_Size.enter x (fun r=>r=(szN (sN x):Int)) ⟨_,this,rfl⟩
 rw [← h1];exact h2
namespace drossref02_Has
theorem spec {n i:Nat} (hn:n<2^32):C n i (n.testBit i):=by
 obtain ⟨r,h1,h2⟩:=enter n i (fun r=>r=n.testBit i) (by
  rw [if_pos (by omega)]
  split
  ·refine ⟨by omega,?_⟩
   rw [bit_nat (k:=.u32) (by simpa [top] using hn) (by decide)]
   cases n.testBit i<;>rfl
  ·rw [Nat.testBit_lt_two_pow (Nat.lt_of_lt_of_le hn (Nat.pow_le_pow_right (by decide) (by omega)))])
 rw [← h1];exact h2
end drossref02_Has
def letB (x:Int):Bool:=decide (97≤x∧x≤122∨65≤x∧x≤90∨x=95)
def alnB (x:Int):Bool:=letB x || decide (48≤x∧x≤57)
def nullB:List UInt8:=[110,117,108,108]
theorem bl_null:((⟨#[110,117,108,108]⟩:ByteArray)).toList=nullB:=bl_mk (l:=nullB)
theorem bl_nil:((⟨#[]⟩:ByteArray)).toList=[]:=bl_mk (l:=[])
def nameL:List UInt8→Bool
 | []=>false
 | b::r=>decide (r.length<24)&&letB (u8i b)&&!decide (b::r=nullB)&&r.all fun b=>alnB (u8i b)
def nameF (s:ByteArray):Bool:=nameL s.toList
namespace drossref03_letter
theorem spec {x : Int} : C x (letB x) := by
  obtain ⟨r, h1, h2⟩ := enter x (fun r => r = letB x) (by
    unfold letB
    repeat' split
    all_goals first
      | (symm; rw [decide_eq_true_iff]; omega)
      | (by_cases h : x = 95
         · simp [h]
         · have : (x == 95) = false := by simpa using h
           rw [this]; symm; rw [decide_eq_false_iff_not]; omega))
  rw [← h1]; exact h2
end drossref03_letter
theorem aln_step {φ:Bool→Prop} {P:Prop} {x:Int} (h:if alnB x=true then P else φ false) (hl:¬ letB x=true):if x<48 then φ false else if 57<x then φ false else P:=by
 have e:alnB x=decide (48≤x∧x≤57):=by unfold alnB;rw [Bool.eq_false_iff.2 hl,Bool.false_or]
 rw [e] at h
 repeat' split
 ·rw [if_neg (by rw [decide_eq_true_iff];omega)] at h;exact h
 ·rw [if_neg (by rw [decide_eq_true_iff];omega)] at h;exact h
 ·rw [if_pos (by rw [decide_eq_true_iff];omega)] at h;exact h
namespace drossref03_Name
theorem spec {s : ByteArray} : C s (nameF s) := by
  obtain ⟨r, h1, h2⟩ := enter s (fun r => r = nameF s) (by
    unfold nameF
    rw [bsize_eq, bl_null]
    cases hs : s.toList with
    | nil => simp [nameL]
    | cons b t =>
      rw [if_neg (by simp; omega)]
      split
      · rename_i hn
        have hn : 24 ≤ t.length := by simp at hn; omega
        simp [nameL]; omega
      · rename_i hn
        have hn : t.length < 24 := by simp at hn; omega
        refine ⟨b, bget_of (by rw [hs]; rfl), letB (u8i b), drossref03_letter.spec, ?_⟩
        split
        · rename_i hb
          split
          · rename_i h0
            simp [nameL, nullB, h0]
          · rename_i h0
            refine all_loop (l := s.toList) (p := fun b => alnB (u8i b)) (L := fun i => L1 s i fun r => r = nameL (b :: t)) (φ := fun r => r = nameL (b :: t)) ?_ ?_ ?_
            · intro h
              apply L1_step
              rw [bsize_eq, if_neg (by omega)]; exact h
            · intro k c hc hk h
              apply L1_step
              rw [bsize_eq, if_pos (by omega)]
              have next : L1 s ((k + 1 : Nat) : Int) (fun r => r = nameL (b :: t)) → L2 s k fun r => r = nameL (b :: t) := fun h => by
                apply L2_step
                rw [wrap_succ (by have : s.toList.length = (b :: t).length := by rw [hs]
                                  simp at this; omega)]
                exact h
              refine ⟨c, bget_of hc, _, drossref03_letter.spec, ?_⟩
              split
              · rename_i hl
                rw [if_pos (by unfold alnB; rw [hl]; rfl)] at h
                exact next h
              · rename_i hl
                have h3 := aln_step (φ := fun r => r = nameL (b :: t)) (P := L2 s k fun r => r = nameL (b :: t)) (by
                  split
                  · rename_i hh; rw [if_pos hh] at h; exact next h
                  · rename_i hh; rw [if_neg hh] at h; exact h) hl
                refine ⟨c, bget_of hc, ?_⟩
                split
                · rename_i h4; rw [if_pos h4] at h3; exact h3
                · rename_i h4; rw [if_neg h4] at h3; exact ⟨c, bget_of hc, h3⟩
            · rw [hs]
              have e : alnB (u8i b) = true := by unfold alnB; rw [hb]; rfl
              simp only [List.all_cons, e, Bool.true_and, nameL, hb, h0, decide_false, Bool.not_false, Bool.and_true]
              simp [hn]
        · rename_i hb
          simp [nameL, hb])
  rw [← h1]; exact h2
end drossref03_Name
def eqS (x a:ByteArray):Bool:=decide (a=x)
def namesGo:List ByteArray→List ByteArray→Bool
 | _,[]=>true
 | pre,a::r=>nameF a&&!pre.any (eqS a)&&namesGo (pre++[a]) r
def namesF (l:List ByteArray):Bool:=namesGo [] l
namespace drossref03_Attr
theorem spec {l:List ByteArray} {x:ByteArray} (hn:l.length<Big):C l x (ixI (eqS x) l):=by
 obtain ⟨r,h1,h2⟩:=enter l x (fun r=>r=ixI (eqS x) l) (by
  refine index_loop (l:=l) (p:=eqS x) (L:=fun i=>L1 l x i _) (φ:=fun r=>r=ixI (eqS x) l) ?_ ?_ rfl
  ·intro h;apply L1_step;rw [if_neg (by omega)];exact h
  ·intro k a ha hk h
   apply L1_step
   rw [if_pos (by omega)]
   refine ⟨a,lget_of ha,?_⟩
   rw [wrap_succ (by unfold Big at hn;omega)]
   split
   ·rename_i hh;rw [if_pos (by simp [eqS,bl_inj.1 hh])] at h;exact h
   ·rename_i hh;rw [if_neg (by simp only [eqS,decide_eq_true_eq];rintro rfl;exact hh rfl)] at h;exact h)
 rw [← h1];exact h2
end drossref03_Attr
theorem names_loop {l : List ByteArray} {L : Int → Prop} {P Q : Prop} (stop : P → L (l.length : Int))
    (step : ∀ (k : Nat) a, l[k]? = some a → k < l.length → (if nameF a = true then (if (l.take k).any (eqS a) = true then Q else L ((k + 1 : Nat) : Int)) else Q) → L k) (h : namesF l = true → P) (h' : namesF l = false → Q) : L 0 := by
  have : ∀ (r : List ByteArray) (k : Nat), l.drop k = r → k ≤ l.length → (namesGo (l.take k) r = true → P) → (namesGo (l.take k) r = false → Q) → L k := by
    intro r
    induction r with
    | nil => intro k hd hk h h'; have : k = l.length := by have := drop_ge hd; omega
             subst this; exact stop (h rfl)
    | cons a r ih =>
      intro k hd hk h h'
      have hlt := drop_lt hd
      refine step k a (drop_get hd) hlt ?_
      have hn := ih (k + 1) (drop_next hd) hlt
      have e : l.take (k + 1) = l.take k ++ [a] := by rw [List.take_add_one, drop_get hd]; rfl
      rw [e] at hn
      simp only [namesGo] at h h'
      split
      · rename_i h1
        split
        · rename_i h2
          exact h' (by simp [h1, h2])
        · rename_i h2
          have h2 := Bool.eq_false_iff.2 h2
          exact hn (fun hh => h (by simp [h1, h2, hh])) (fun hh => h' (by simp [h1, h2, hh]))
      · rename_i h1
        have h1 := Bool.eq_false_iff.2 h1
        exact h' (by simp [h1])
  exact this l 0 rfl (Nat.zero_le _) h h'
theorem drossref03_Names.spec {l:List ByteArray} (hn:l.length<Big):drossref03_Names.C l (namesF l):=by
 obtain ⟨r,h1,h2⟩:=drossref03_Names.enter l (fun r=>r=namesF l) (by
  refine names_loop (l:=l) (L:=fun i=>drossref03_Names.L1 l i _) (P:=true=namesF l) (Q:=false=namesF l) ?_ ?_ Eq.symm Eq.symm
  ·intro h;apply drossref03_Names.L1_step;rw [if_neg (by omega)];exact h
  ·intro k a ha hk h
   apply drossref03_Names.L1_step
   rw [if_pos (by omega)]
   refine ⟨a,lget_of ha,_,drossref03_Name.spec,?_⟩
   split
   ·rename_i h1;rw [if_pos h1] at h
    refine ⟨by omega,by omega,_,drossref03_Attr.spec (by rw [List.length_take];omega),?_⟩
    rw [Int.toNat_natCast,Nat.sub_zero,wrap_succ (by unfold Big at hn;omega)]
    have e:(0≤ixI (eqS a) (l.take k))↔(l.take k).any (eqS a)=true:=by rw [← ixI_any,decide_eq_true_iff]
    split
    ·rename_i h2;rw [if_pos (e.1 h2)] at h;exact h
    ·rename_i h2;rw [if_neg (fun hh=>h2 (e.2 hh))] at h;exact h
   ·rename_i h1;rw [if_neg h1] at h;exact h)
 rw [← h1];exact h2
def validV (v:api_Value):Bool:=decide (v.Kind=0∧v.Num=0∧v.Str.toList=[]∨v.Kind=1∧v.Str.toList=[]∨v.Kind=2∧v.Num=0∧v.Str.toList.length≤200∨v.Kind=3∧1≤v.Num∧v.Str.toList=[])
theorem valid_goal {v : api_Value} {φ : Bool → Prop} (h : φ (validV v)) : (if v.Kind = 0 then (if v.Num = 0 then φ ((v.Str.toList == ((⟨#[]⟩ : ByteArray)).toList)) else φ false) else (if v.Kind = 1 then φ ((v.Str.toList == ((⟨#[]⟩ : ByteArray)).toList)) else (if v.Kind = 2 then (if v.Num = 0 then φ ((decide ((bsize v.Str) ≤ 200))) else φ false) else (if v.Kind = 3 then (if 1 ≤ v.Num then φ ((v.Str.toList == ((⟨#[]⟩ : ByteArray)).toList)) else φ false) else φ false)))) := by
  have e : ∀ b, b = validV v → φ b := by rintro _ rfl; exact h
  have e0 : (v.Str.toList == ((⟨#[]⟩ : ByteArray)).toList) = decide (v.Str.toList = []) := by
    rw [bl_nil]
    by_cases h : v.Str.toList = []
    · simp [h]
    · simp [h]
  rw [e0, bsize_eq]
  repeat' split
  all_goals apply e
  all_goals unfold validV
  all_goals first
    | (rw [decide_eq_decide]; omega)
    | (symm; rw [decide_eq_false_iff_not]; omega)
    | (rw [decide_eq_decide]; constructor
       · intro h; simp_all
       · intro h; simp_all)
theorem drossref01_Valid.spec {v:api_Value}:drossref01_Valid.C v (validV v):=by
 obtain ⟨r,h1,h2⟩:=drossref01_Valid.enter v (fun r=>r=validV v) (valid_goal (φ:=fun r=>r=validV v) rfl)
 rw [← h1];exact h2
def validsF (l:List api_Value):Bool:=l.all validV
theorem drossref01_Valids.spec {l:List api_Value} (hn:l.length<Big):drossref01_Valids.C l (validsF l):=by
 obtain ⟨r,h1,h2⟩:=drossref01_Valids.enter l (fun r=>r=validsF l) (by
  refine all_loop (l:=l) (p:=validV) (L:=fun i=>drossref01_Valids.L1 l i _) (φ:=fun r=>r=validsF l) ?_ ?_ rfl
  ·intro h;apply drossref01_Valids.L1_step;rw [if_neg (by omega)];exact h
  ·intro k a ha hk h
   apply drossref01_Valids.L1_step
   rw [if_pos (by omega)]
   refine ⟨a,lget_of ha,_,drossref01_Valid.spec,?_⟩
   rw [wrap_succ (by unfold Big at hn;omega)]
   exact h)
 rw [← h1];exact h2
def rowsF (n:Nat):Int→List api_Row→Int
 | _,[]=>0
 | last,r::rs=>if r.ID≤last then 1 else if r.Values.length=n then (if validsF r.Values=true then rowsF n r.ID rs else 1) else 6
def tableF (t:api_Table):Int:=if nameF t.Name=true then (if 16<t.Attrs.length then 3 else if 1000<t.Rows.length then 3 else if namesF t.Attrs=true then rowsF t.Attrs.length 0 t.Rows else 1) else 1
theorem rows_loop {n : Nat} {l : List api_Row} {L : Int → Int → Prop} {φ : Int → Prop} (stop : ∀ last, φ 0 → L last (l.length : Int))
    (step : ∀ (k : Nat) r last, l[k]? = some r → k < l.length → (if r.ID ≤ last then φ 1 else if r.Values.length = n then (if validsF r.Values = true then L r.ID ((k + 1 : Nat) : Int) else φ 1) else φ 6) → L last k) (h : φ (rowsF n 0 l)) : L 0 0 := by
  have : ∀ (r : List api_Row) (k : Nat) (last : Int), l.drop k = r → k ≤ l.length → φ (rowsF n last r) → L last k := by
    intro r
    induction r with
    | nil => intro k last hd hk h; have : k = l.length := by have := drop_ge hd; omega
             subst this; exact stop _ h
    | cons a r ih =>
      intro k last hd hk h
      have hlt := drop_lt hd
      refine step k a last (drop_get hd) hlt ?_
      simp only [rowsF] at h
      split
      · rename_i h1; rw [if_pos h1] at h; exact h
      · rename_i h1; rw [if_neg h1] at h
        split
        · rename_i h2; rw [if_pos h2] at h
          split
          · rename_i h3; rw [if_pos h3] at h; exact ih (k + 1) _ (drop_next hd) hlt h
          · rename_i h3; rw [if_neg h3] at h; exact h
        · rename_i h2; rw [if_neg h2] at h; exact h
  exact this l 0 0 rfl (Nat.zero_le _) h
namespace drossref03_Valid
theorem rows {t:api_Table} {φ:Int→Prop} (hr:t.Rows.length≤1000) (ha:t.Attrs.length≤16) (h:φ (rowsF t.Attrs.length 0 t.Rows)):L1 t 0 0 φ:=by
 refine rows_loop (n:=t.Attrs.length) (l:=t.Rows) (L:=fun last i=>L1 t last i φ) (φ:=φ) ?_ ?_ h
 ·intro last h;apply L1_step;rw [if_neg (by omega)];exact h
 ·intro k r last hr hk h
  apply L1_step
  rw [if_pos (by omega)]
  refine ⟨r,lget_of hr,?_⟩
  split
  ·rename_i h1;rw [if_pos h1] at h;exact h
  ·rename_i h1;rw [if_neg h1] at h
   split
   ·rename_i h2
    have h2:r.Values.length=t.Attrs.length:=by omega
    rw [if_pos h2] at h
    refine ⟨_,drossref01_Valids.spec (by unfold Big;omega),?_⟩
    rw [wrap_succ (by omega)]
    exact h
   ·rename_i h2;rw [if_neg (by omega)] at h;exact h
theorem spec {t:api_Table}:C t (tableF t):=by
 obtain ⟨r,h1,h2⟩:=enter t (fun r=>r=tableF t) (by
  refine ⟨_,drossref03_Name.spec,?_⟩
  unfold tableF
  split
  ·by_cases h1:16<t.Attrs.length
   ·rw [if_pos (by omega),if_pos h1]
   ·rw [if_neg (by omega),if_neg h1]
    by_cases h2:1000<t.Rows.length
    ·rw [if_pos (by omega),if_pos h2]
    ·rw [if_neg (by omega),if_neg h2]
     refine ⟨_,drossref03_Names.spec (by unfold Big;omega),?_⟩
     split
     ·exact rows (φ:=fun r=>r=rowsF t.Attrs.length 0 t.Rows) (by omega) (by omega) rfl
     ·rfl
  ·rfl)
 rw [← h1];exact h2
end drossref03_Valid
namespace attrset_Members
theorem loop {φ:List Int→Prop}:∀ (n:Nat) (acc:List Int),n<2^32→acc.length+(bitsOf n).length≤1000→φ (acc++(bitsOf n).map fun (i:Nat)=>(i:Int))→L1 n acc φ:=by
 intro n
 induction n using Nat.strongRecOn with
 | _ n ih=>
  intro acc hn hl h
  apply L1_step
  by_cases h0:n=0
  ·subst h0
   rw [bitsOf_zero] at h
   rw [if_pos (by omega)];simpa using h
  ·rw [if_neg (by omega)]
   rw [bitsOf_cons h0 hn] at hl h
   simp only [List.length_cons] at hl
   refine ⟨by omega,by omega,?_⟩
   have e1:IntKind.wrap .u32 ((n:Int)-1)=((n-1:Nat):Int):=by
    have:(n:Int)-1=((n-1:Nat):Int):=by omega
    rw [this]
    exact wrap_top (k:=.u32) (by simp only [top];omega)
   rw [e1,bAnd_nat (k:=.u32) (by simpa [top] using hn) (by simp only [top];omega)]
   refine ih _ (clear_lt h0) _ (Nat.lt_of_le_of_lt Nat.and_le_left hn) (by rw [List.length_append,List.length_singleton];omega) ?_
   have e2:tz32 (n:Int)=((lowest n 32 0:Nat):Int):=by unfold tz32;rw [Int.toNat_natCast]
   rw [e2]
   simpa using h
theorem spec {n:Nat} (hn:n<2^32):C n ((bitsOf n).map fun (i:Nat)=>(i:Int)):=by
 obtain ⟨r,h1,h2⟩:=enter n (fun r=>r=(bitsOf n).map fun (i:Nat)=>(i:Int)) (loop n [] hn (by have:=bitsOf_len (n:=n);simp;omega) (by simp))
 rw [← h1];exact h2
end attrset_Members
end Go.Own

namespace Go.Own
theorem cmpI_zero {a b:Int}:cmpI a b=0↔a=b:=by
 unfold cmpI;repeat' split
 all_goals omega
theorem drossref01_sign.spec {a b:Int}:drossref01_sign.C a b (cmpI a b):=by
 obtain ⟨r,h1,h2⟩:=drossref01_sign.enter a b (fun r=>r=cmpI a b) (by
  unfold cmpI;repeat' split
  all_goals first | rfl | omega)
 rw [← h1];exact h2
def cmpL:List UInt8→List UInt8→Int
 | [],[]=>0
 | [],_::_=>-1
 | _::_,[]=>1
 | a::r,b::s=>if a=b then cmpL r s else cmpI (u8i a) (u8i b)
theorem cmpL_zero:∀ {a b:List UInt8},cmpL a b=0↔a=b
 | [],[]=>by simp [cmpL]
 | [],_::_=>by simp [cmpL]
 | _::_,[]=>by simp [cmpL]
 | a::r,b::s=>by
  simp only [cmpL]
  split
  ·rename_i h;subst h;rw [cmpL_zero];simp
  ·rename_i h
   rw [cmpI_zero,u8i_inj];simp [h]
def cmpS (a b:ByteArray):Int:=cmpL a.toList b.toList
theorem cmpL_len:∀ {a b:List UInt8},(a=[]∨b=[])→cmpI a.length b.length=cmpL a b
 | [],[],_=>rfl
 | [],_::r,_=>by
  simp only [cmpL,cmpI,List.length_cons,List.length_nil]
  rw [if_pos (by omega)]
 | _::r,[],_=>by
  simp only [cmpL,cmpI,List.length_cons,List.length_nil]
  rw [if_neg (by omega),if_pos (by omega)]
 | _::_,_::_,h=>by simp at h
namespace drossref01_strings
theorem loop {a b:ByteArray} {φ:Int→Prop} (hn:a.toList.length<Big):∀ (r s:List UInt8) (k:Nat),a.toList.drop k=r→b.toList.drop k=s→k≤a.toList.length→k≤b.toList.length→φ (cmpL r s)→L1 a b k φ:=by
 have fin:∀ (r s:List UInt8) (k:Nat),a.toList.drop k=r→b.toList.drop k=s→k≤a.toList.length→k≤b.toList.length→(r=[]∨s=[])→φ (cmpL r s)→L2 a b φ:=by
  intro r s k hr hs hk hk2 h0 h
  apply L2_step
  refine ⟨_,drossref01_sign.spec,?_⟩
  rw [bsize_eq,bsize_eq]
  have e:cmpI a.toList.length b.toList.length=cmpI r.length s.length:=by
   rw [← hr,← hs,List.length_drop,List.length_drop]
   unfold cmpI
   repeat' split
   all_goals omega
  rw [e,cmpL_len h0];exact h
 intro r
 induction r with
 | nil=>
  intro s k hr hs hk hk2 h
  apply L1_step
  have:=drop_ge hr
  rw [bsize_eq,if_neg (by omega)]
  exact fin _ _ k hr hs hk hk2 (.inl rfl) h
 | cons x r ih=>
  intro s k hr hs hk hk2 h
  apply L1_step
  have hlt:=drop_lt hr
  rw [bsize_eq,if_pos (by omega),bsize_eq]
  match s,hs,h with
  | [],hs,h=>
   have:=drop_ge hs
   rw [if_neg (by omega)]
   exact fin _ _ k hr hs hk hk2 (.inr rfl) h
  | y::s,hs,h=>
   have hlt2:=drop_lt hs
   rw [if_pos (by omega)]
   refine ⟨x,bget_of (drop_get hr),y,bget_of (drop_get hs),?_⟩
   simp only [cmpL] at h
   split
   ·rename_i he
    rw [if_pos (u8i_inj.1 he)] at h
    rw [wrap_succ (by unfold Big at hn;omega)]
    exact ih s (k+1) (drop_next hr) (drop_next hs) hlt hlt2 h
   ·rename_i he
    rw [if_neg (fun hh=>he (u8i_inj.2 hh))] at h
    refine ⟨x,bget_of (drop_get hr),y,bget_of (drop_get hs),_,drossref01_sign.spec,?_⟩
    have b1:=u8i_lt (b:=x);have b2:=u8i_lt (b:=y)
    rw [wrap_id (by omega) (by omega),wrap_id (by omega) (by omega)]
    exact h
theorem spec {a b:ByteArray} (hn:a.toList.length<Big):C a b (cmpS a b):=by
 obtain ⟨r,h1,h2⟩:=enter a b (fun r=>r=cmpS a b) (loop hn a.toList b.toList 0 rfl rfl (by omega) (by omega) rfl)
 rw [← h1];exact h2
end drossref01_strings
def cmpV (v w:api_Value):Int:=if cmpI v.Kind w.Kind=0 then (if cmpI v.Num w.Num=0 then cmpS v.Str w.Str else cmpI v.Num w.Num) else cmpI v.Kind w.Kind
theorem cmpV_zero {v w:api_Value}:cmpV v w=0↔v=w:=by
 obtain ⟨k,n,s⟩:=v
 obtain ⟨k',n',s'⟩:=w
 unfold cmpV cmpS
 simp only [api_Value.mk.injEq]
 split
 ·rename_i h1;rw [cmpI_zero] at h1
  split
  ·rename_i h2;rw [cmpI_zero] at h2
   rw [cmpL_zero,bl_inj];simp [h1,h2]
  ·rename_i h2
   have h3:=h2
   rw [cmpI_zero] at h3
   simp [h2,h3]
 ·rename_i h1
  have h3:=h1
  rw [cmpI_zero] at h3
  simp [h1,h3]
theorem drossref01_Compare.spec {v w:api_Value} (hn:v.Str.toList.length<Big):drossref01_Compare.C v w (cmpV v w):=by
 obtain ⟨r,h1,h2⟩:=drossref01_Compare.enter v w (fun r=>r=cmpV v w) (by
  refine ⟨_,drossref01_sign.spec,?_⟩
  unfold cmpV
  split
  ·refine ⟨_,drossref01_sign.spec,?_⟩
   split
   ·exact ⟨_,drossref01_strings.spec hn,rfl⟩
   ·rfl
  ·rfl)
 rw [← h1];exact h2
def StrOK (l:List api_Value):Prop:=l.length<Big∧∀ v∈l,v.Str.toList.length<Big
def cmpVs:List api_Value→List api_Value→Int
 | [],[]=>0
 | [],_::_=>-1
 | _::_,[]=>1
 | a::r,b::s=>if cmpV a b=0 then cmpVs r s else cmpV a b
theorem cmpVs_zero:∀ {a b:List api_Value},cmpVs a b=0↔a=b
 | [],[]=>by simp [cmpVs]
 | [],_::_=>by simp [cmpVs]
 | _::_,[]=>by simp [cmpVs]
 | a::r,b::s=>by
  simp only [cmpVs]
  split
  ·rename_i h;rw [cmpVs_zero];rw [cmpV_zero] at h;simp [h]
  ·rename_i h
   have h2:=h
   rw [cmpV_zero] at h2
   simp [h,h2]
theorem cmpVs_len:∀ {a b:List api_Value},(a=[]∨b=[])→cmpI a.length b.length=cmpVs a b
 | [],[],_=>rfl
 | [],_::r,_=>by
  simp only [cmpVs,cmpI,List.length_cons,List.length_nil]
  rw [if_pos (by omega)]
 | _::r,[],_=>by
  simp only [cmpVs,cmpI,List.length_cons,List.length_nil]
  rw [if_neg (by omega),if_pos (by omega)]
 | _::_,_::_,h=>by simp at h
namespace drossref01_Lists
theorem loop {a b:List api_Value} {φ:Int→Prop} (hn:StrOK a):∀ (r s:List api_Value) (k:Nat),a.drop k=r→b.drop k=s→k≤a.length→k≤b.length→φ (cmpVs r s)→L1 a b k φ:=by
 have fin:∀ (r s:List api_Value) (k:Nat),a.drop k=r→b.drop k=s→k≤a.length→k≤b.length→(r=[]∨s=[])→φ (cmpVs r s)→L2 a b φ:=by
  intro r s k hr hs hk hk2 h0 h
  apply L2_step
  refine ⟨_,drossref01_sign.spec,?_⟩
  have e:cmpI a.length b.length=cmpI r.length s.length:=by
   rw [← hr,← hs,List.length_drop,List.length_drop]
   unfold cmpI
   repeat' split
   all_goals omega
  rw [e,cmpVs_len h0];exact h
 intro r
 induction r with
 | nil=>
  intro s k hr hs hk hk2 h
  apply L1_step
  have:=drop_ge hr
  rw [if_neg (by omega)]
  exact fin _ _ k hr hs hk hk2 (.inl rfl) h
 | cons x r ih=>
  intro s k hr hs hk hk2 h
  apply L1_step
  have hlt:=drop_lt hr
  rw [if_pos (by omega)]
  match s,hs,h with
  | [],hs,h=>
   have:=drop_ge hs
   rw [if_neg (by omega)]
   exact fin _ _ k hr hs hk hk2 (.inr rfl) h
  | y::s,hs,h=>
   have hlt2:=drop_lt hs
   rw [if_pos (by omega)]
   refine ⟨x,lget_drop hr,y,lget_drop hs,_,drossref01_Compare.spec (hn.2 x (List.mem_of_getElem? (drop_get hr))),?_⟩
   simp only [cmpVs] at h
   split
   ·rename_i he
    rw [if_pos he] at h
    rw [wrap_succ (by have:=hn.1;unfold Big at this;omega)]
    exact ih s (k+1) (drop_next hr) (drop_next hs) hlt hlt2 h
   ·rename_i he
    rw [if_neg he] at h
    exact h
theorem spec {a b:List api_Value} (hn:StrOK a):C a b (cmpVs a b):=by
 obtain ⟨r,h1,h2⟩:=enter a b (fun r=>r=cmpVs a b) (loop hn a b 0 rfl rfl (by omega) (by omega) rfl)
 rw [← h1];exact h2
end drossref01_Lists
theorem drossref01_Same.spec {a b:List api_Value} (hn:StrOK a):drossref01_Same.C a b (decide (a=b)):=by
 obtain ⟨r,h1,h2⟩:=drossref01_Same.enter a b (fun r=>r=decide (a=b)) ⟨_,drossref01_Lists.spec hn,by
  by_cases h:a=b
  ·simp [h,cmpVs_zero.2 rfl]
  ·have:cmpVs a b≠0:=fun hh=>h (cmpVs_zero.1 hh)
   simp [h,this]⟩
 rw [← h1];exact h2
theorem validV_cases {v:api_Value} (h:validV v=true):v.Kind=0∧v.Num=0∧v.Str.toList=[]∨v.Kind=1∧v.Str.toList=[]∨v.Kind=2∧v.Num=0∧v.Str.toList.length≤200∨v.Kind=3∧1≤v.Num∧v.Str.toList=[]:=by
 simpa [validV] using h
def b8 (x:Int):UInt8:=UInt8.ofNat x.toNat
def pick (l:List api_Value) (n:Nat):List api_Value:=(bitsOf n).filterMap fun i=>l[i]?
theorem fm_congr {α β:Type} {f g:α→Option β}:∀ {l:List α},(∀ a∈l,f a=g a)→l.filterMap f=l.filterMap g
 | [],_=>rfl
 | a::l,h=>by
  have ih:=fm_congr (l:=l) fun b hb=>h b (by simp [hb])
  simp only [List.filterMap_cons,h a (by simp),ih]
theorem bits_upto {n k:Nat} (hn:n<2^32):(bitsOf n).filter (fun i=>decide (i<k+1))=(bitsOf n).filter (fun i=>decide (i<k))++if n.testBit k=true then [k] else []:=by
 refine sorted_ext (bitsOf_sorted.filter _) ?_ fun x=>?_
 ·rw [List.pairwise_append]
  refine ⟨bitsOf_sorted.filter _,by split<;>simp,fun a ha b hb=>?_⟩
  have ha:=(List.mem_filter.1 ha).2
  split at hb
  ·simp at hb ha;omega
  ·simp at hb
 ·simp only [List.mem_filter,List.mem_append,decide_eq_true_eq]
  split
  ·rename_i h
   rw [List.mem_singleton]
   constructor
   ·rintro ⟨h1,h2⟩
    by_cases hx:x<k
    ·exact .inl ⟨h1,hx⟩
    ·exact .inr (by omega)
   ·rintro (⟨h1,h2⟩ | rfl)
    ·exact ⟨h1,by omega⟩
    ·exact ⟨(bitsOf_mem hn).2 h,by omega⟩
  ·rename_i h
   constructor
   ·rintro ⟨h1,h2⟩
    have:x≠k:=fun e=>h (e ▸ (bitsOf_mem hn).1 h1)
    exact .inl ⟨h1,by omega⟩
   ·rintro (⟨h1,h2⟩ | h1)
    ·exact ⟨h1,by omega⟩
    ·simp at h1
namespace drossref03_Values
theorem spec {r:api_Row} {n:Nat} (hn:n<2^32) (hr:r.Values.length≤1000):C r n (pick r.Values n):=by
 obtain ⟨q,h1,h2⟩:=enter r n (fun q=>q=pick r.Values n) (by
  have loop:∀ k,k≤r.Values.length→L1 r n (((bitsOf n).filter fun i=>decide (i<k)).filterMap fun i=>r.Values[i]?) k fun q=>q=pick r.Values n:=by
   refine down ?_ ?_
   ·apply L1_step
    rw [if_neg (by omega)]
    unfold pick
    rw [List.filterMap_filter]
    refine fm_congr fun i hi=>?_
    by_cases h:i<r.Values.length
    ·simp [h]
    ·simp [h]
   ·intro k hk h
    apply L1_step
    rw [if_pos (by omega)]
    have hget:=List.getElem?_eq_getElem hk
    have hlen:(((bitsOf n).filter fun i=>decide (i<k)).filterMap fun i=>r.Values[i]?).length≤32:=
     Nat.le_trans (List.length_filterMap_le _ _) (Nat.le_trans (List.length_filter_le _ _) bitsOf_len)
    rw [bits_upto hn,List.filterMap_append] at h
    refine ⟨_,drossref02_Has.spec hn,?_⟩
    have next:∀ l,l=(((bitsOf n).filter fun i=>decide (i<k)).filterMap fun i=>r.Values[i]?)++((if n.testBit k=true then [k] else []).filterMap fun i=>r.Values[i]?)→L2 r n l k fun q=>q=pick r.Values n:=by
     rintro _ rfl
     apply L2_step
     rw [wrap_succ (by omega)]
     exact h
    split
    ·rename_i hb
     exact ⟨r.Values[k],lget_of hget,by omega,next _ (by simp [hb,hget])⟩
    ·rename_i hb
     exact next _ (by simp [hb])
  have:=loop 0 (Nat.zero_le _)
  have e:(bitsOf n).filter (fun i=>decide (i<0))=[]:=by rw [List.filter_eq_nil_iff];simp
  rw [e] at this
  exact this)
 rw [← h1];exact h2
end drossref03_Values
def agreeF (a b:List api_Value) (n:Nat):Bool:=decide (pick a n=pick b n)
theorem fm_eq {a b:List api_Value} (hl:a.length=b.length):∀ {l:List Nat},(l.filterMap fun i=>a[i]?)=(l.filterMap fun i=>b[i]?)↔∀ i∈l,a[i]? = b[i]?
 | []=>by simp
 | k::l=>by
  have ih:=fm_eq (a:=a) (b:=b) hl (l:=l)
  by_cases h:k<a.length
  ·have e1:=List.getElem?_eq_getElem h
   have e2:=List.getElem?_eq_getElem (l:=b) (i:=k) (by omega)
   simp only [List.filterMap_cons,e1,e2,List.cons.injEq,ih,List.forall_mem_cons,Option.some.injEq]
  ·have e1:a[k]? = none:=List.getElem?_eq_none (by omega)
   have e2:b[k]? = none:=List.getElem?_eq_none (by omega)
   simp only [List.filterMap_cons,e1,e2,ih,List.forall_mem_cons,true_and]
theorem agree_iff {a b:List api_Value} {n:Nat} (hn:n<2^32) (hl:a.length=b.length):agreeF a b n=true↔∀ i,n.testBit i=true→a[i]? = b[i]?:=by
 unfold agreeF pick
 rw [decide_eq_true_iff,fm_eq hl]
 constructor
 ·exact fun h i hi=>h i ((bitsOf_mem hn).2 hi)
 ·exact fun h i hi=>h i ((bitsOf_mem hn).1 hi)
theorem pick_sub {l:List api_Value} {n:Nat}:∀ v∈pick l n,v∈l:=by
 intro v hv
 obtain ⟨i,_,hi⟩:=List.mem_filterMap.1 hv
 exact List.mem_of_getElem? hi
theorem pick_len {l:List api_Value} {n:Nat}:(pick l n).length≤32:=Nat.le_trans (List.length_filterMap_le _ _) bitsOf_len
theorem drossref03_Agree.spec {a b:api_Row} {n:Nat} (hn:n<2^32) (ha:a.Values.length≤1000) (hb:b.Values.length≤1000) (hs:∀ v∈a.Values,v.Str.toList.length<Big):drossref03_Agree.C a b n (agreeF a.Values b.Values n):=by
 obtain ⟨q,h1,h2⟩:=drossref03_Agree.enter a b n (fun q=>q=agreeF a.Values b.Values n)
  ⟨_,drossref03_Values.spec hn ha,_,drossref03_Values.spec hn hb,_,drossref01_Same.spec ⟨by have:=pick_len (l:=a.Values) (n:=n);unfold Big;omega,fun v hv=>hs v (pick_sub v hv)⟩,rfl⟩
 rw [← h1];exact h2
structure TV (t:api_Table):Prop where
 name:nameF t.Name=true
 na:t.Attrs.length≤16
 nr:t.Rows.length≤1000
 names:namesF t.Attrs=true
 rows:rowsF t.Attrs.length 0 t.Rows=0
theorem tableF_iff {t:api_Table}:tableF t=0↔TV t:=by
 unfold tableF
 constructor
 ·intro h
  split at h
  ·split at h
   ·cases h
   ·split at h
    ·cases h
    ·split at h
     ·rename_i h1 h2 h3 h4
      exact ⟨h1,by omega,by omega,h4,h⟩
     ·cases h
  ·cases h
 ·intro h
  rw [if_pos h.name,if_neg (by have:=h.na;omega),if_neg (by have:=h.nr;omega),if_pos h.names]
  exact h.rows
theorem rowsF_row {n:Nat}:∀ {l:List api_Row} {last:Int},rowsF n last l=0→∀ r∈l,r.Values.length=n∧(∀ v∈r.Values,validV v=true)∧last<r.ID
 | [],_,_,r,hr=>by cases hr
 | a::l,last,h,r,hr=>by
  simp only [rowsF] at h
  split at h
  ·cases h
  ·split at h
   ·split at h
    ·rename_i h1 h2 h3
     unfold validsF at h3
     rw [List.all_eq_true] at h3
     rcases List.mem_cons.1 hr with rfl | hr
     ·exact ⟨h2,h3,by omega⟩
     ·obtain ⟨e1,e2,e3⟩:=rowsF_row h r hr
      exact ⟨e1,e2,by omega⟩
    ·cases h
   ·cases h
theorem TV.len {t:api_Table} (h:TV t) {r:api_Row} (hr:r∈t.Rows):r.Values.length=t.Attrs.length:=(rowsF_row h.rows r hr).1
theorem TV.val {t:api_Table} (h:TV t) {r:api_Row} (hr:r∈t.Rows):∀ v∈r.Values,validV v=true:=(rowsF_row h.rows r hr).2.1
theorem valid_str {v:api_Value} (h:validV v=true):v.Str.toList.length≤200:=by
 rcases validV_cases h with h | h | h | h
 ·rw [h.2.2];simp
 ·rw [h.2];simp
 ·exact h.2.2
 ·rw [h.2.2];simp
def picks (t:api_Table) (n:Nat):List (List api_Value):=t.Rows.map fun r=>pick r.Values n
theorem pick_iff {t:api_Table} (ht:TV t) {n i j:Nat} (hn:n<2^32) (hi:i<t.Rows.length) (hj:j<t.Rows.length):(picks t n)[i]? = (picks t n)[j]?↔∀ k,n.testBit k=true→(t.Rows[i]'hi).Values[k]? = (t.Rows[j]'hj).Values[k]?:=by
 unfold picks
 rw [List.getElem?_map,List.getElem?_map,List.getElem?_eq_getElem hi,List.getElem?_eq_getElem hj]
 simp only [Option.map_some,Option.some.injEq]
 rw [← agree_iff hn (by rw [ht.len (List.getElem_mem hi),ht.len (List.getElem_mem hj)])]
 unfold agreeF
 rw [decide_eq_true_iff]
def OkP (t:api_Table) (l r i k:Nat):Prop:=(picks t l)[i]? = (picks t l)[k]?→(picks t r)[i]? = (picks t r)[k]?
def SatP (t:api_Table) (l r:Nat):Prop:=∀ i k,i<t.Rows.length→k<i→OkP t l r i k
theorem agr {t:api_Table} {n i k:Nat} (hi:i<t.Rows.length) (hk:k<t.Rows.length):agreeF (t.Rows[i]).Values (t.Rows[k]).Values n=true↔(picks t n)[i]? = (picks t n)[k]?:=by
 unfold picks agreeF
 rw [List.getElem?_map,List.getElem?_map,List.getElem?_eq_getElem hi,List.getElem?_eq_getElem hk]
 simp
def EqA (t:api_Table) (i k a:Nat):Prop:=(t.Rows[i]?.map fun r=>r.Values[a]?)=(t.Rows[k]?.map fun r=>r.Values[a]?)
instance (t:api_Table) (i k a:Nat):Decidable (EqA t i k a):=by unfold EqA;infer_instance
theorem pick_eqA {t:api_Table} (ht:TV t) {n i j:Nat} (hn:n<2^32) (hi:i<t.Rows.length) (hj:j<t.Rows.length):(picks t n)[i]? = (picks t n)[j]?↔∀ k,n.testBit k=true→EqA t i j k:=by
 rw [pick_iff ht hn hi hj]
 unfold EqA
 rw [List.getElem?_eq_getElem hi,List.getElem?_eq_getElem hj]
 simp only [Option.map_some,Option.some.injEq]
theorem sat_iff {t:api_Table} (ht:TV t) {l r:Nat} (hl:l<2^32) (hr:r<2^32):SatP t l r↔∀ i k,i<t.Rows.length→k<i→(∀ a,l.testBit a=true→EqA t i k a)→∀ a,r.testBit a=true→EqA t i k a:=by
 unfold SatP OkP
 constructor
 ·intro h i k hi hk
  have:=h i k hi hk
  rw [pick_eqA ht hl hi (by omega),pick_eqA ht hr hi (by omega)] at this
  exact this
 ·intro h i k hi hk
  rw [pick_eqA ht hl hi (by omega),pick_eqA ht hr hi (by omega)]
  exact h i k hi hk
namespace drossref08_Satisfies
theorem inner {t:api_Table} {fd:api_FD} {l r:Nat} {φ:Bool→Prop} {i:Nat} (ht:TV t) (el:fd.Lhs=l) (er:fd.Rhs=r) (hl:l<2^32) (hr:r<2^32) (hi:i<t.Rows.length) (hf:¬ SatP t l r→φ false)
  (h:(∀ k,k<i→OkP t l r i k)→L1 t fd ((i+1:Nat):Int) φ):∀ k,k≤i→((∀ j,j<k→OkP t l r i j)→L2 t fd i k φ):=by
 have nr:=ht.nr
 have na:=ht.na
 refine down ?_ ?_
 ·intro hk
  apply L2_step
  rw [if_neg (by omega),wrap_succ (by omega)]
  exact h hk
 ·intro k hk ih hj
  apply L2_step
  rw [if_pos (by omega)]
  have mi:=List.getElem_mem hi
  have mk:=List.getElem_mem (l:=t.Rows) (n:=k) (by omega)
  have sv:∀ v∈(t.Rows[i]).Values,v.Str.toList.length<Big:=fun v hv=>by have:=valid_str (ht.val mi v hv);unfold Big;omega
  have la:=ht.len mi
  have lb:=ht.len mk
  have next:OkP t l r i k→L3 t fd i k φ:=fun ho=>by
   apply L3_step
   rw [wrap_succ (by omega)]
   refine ih fun j hjk=>?_
   by_cases hjj:j=k
   ·subst hjj;exact ho
   ·exact hj j (by omega)
  refine ⟨t.Rows[i],lget_of (List.getElem?_eq_getElem hi),t.Rows[k],lget_of (List.getElem?_eq_getElem (by omega)),_,by rw [el];exact drossref03_Agree.spec hl (by omega) (by omega) sv,?_⟩
  split
  ·rename_i h1
   refine ⟨_,by rw [er];exact drossref03_Agree.spec hr (by omega) (by omega) sv,?_⟩
   split
   ·rename_i h2
    exact next fun _=>(agr hi (by omega)).1 h2
   ·rename_i h2
    refine hf fun hs=>h2 ?_
    exact (agr hi (by omega)).2 (hs i k hi hk ((agr hi (by omega)).1 h1))
  ·rename_i h1
   exact next fun hh=>absurd ((agr hi (by omega)).2 hh) h1
theorem spec {t:api_Table} {fd:api_FD} {l r:Nat} (ht:TV t) (el:fd.Lhs=l) (er:fd.Rhs=r) (hl:l<2^32) (hr:r<2^32):∃ b,C t fd b∧(b=true↔SatP t l r):=by
 obtain ⟨b,h1,h2⟩:=enter t fd (fun b=>(b=true↔SatP t l r)) (by
  have nr:=ht.nr
  have hf:¬ SatP t l r→(false=true↔SatP t l r):=fun h=>by simp [h]
  have loop:∀ i,i≤t.Rows.length→((∀ a,a<i→∀ k,k<a→OkP t l r a k)→L1 t fd i fun b=>(b=true↔SatP t l r)):=by
   refine down ?_ ?_
   ·intro h
    apply L1_step
    rw [if_neg (by omega)]
    simp only [true_iff]
    exact fun i k hi hk=>h i hi k hk
   ·intro i hi ih hh
    apply L1_step
    rw [if_pos (by omega)]
    refine inner ht el er hl hr hi hf (fun hk=>ih fun a ha k hka=>?_) 0 (Nat.zero_le _) (fun j hj=>by omega)
    by_cases hai:a=i
    ·subst hai;exact hk k hka
    ·exact hh a (by omega) k hka
  exact loop 0 (Nat.zero_le _) (fun a ha=>by omega))
 exact ⟨b,h2,h1⟩
end drossref08_Satisfies
def MvdOK (l:List api_MVD):Prop:=∀ d∈l,U32 d.Lhs∧U32 d.Rhs
def basE (n:Int) (l:List api_FD) (m:List api_MVD):Int:=if fdsE n l=0 then (if 64<m.length then 3 else if (m.all fun d=>inU n.toNat d.Lhs d.Rhs)=true then 0 else 1) else fdsE n l
theorem basis_Valid.spec {n:Int} {l:List api_FD} {m:List api_MVD} (hl:FdOK l) (hm:MvdOK m):basis_Valid.C n l m (basE n l m):=by
 obtain ⟨r,h1,h2⟩:=basis_Valid.enter n l m (fun r=>r=basE n l m) (by
  refine ⟨_,closure_Valid.spec hl,?_⟩
  unfold basE
  split
  ·rename_i h0
   have hn:=fdsE_n h0
   split
   ·rw [if_pos (by omega)]
   ·rw [if_neg (by omega)]
    obtain ⟨q,rfl⟩:∃ q:Nat,n=q:=⟨n.toNat,by omega⟩
    refine all_goal (l:=m) (p:=fun d=>inU q d.Lhs d.Rhs) (L:=fun i=>basis_Valid.L1 q m i _) (φ:=fun r=>r=_) ?_ ?_ rfl
    ·intro h;apply basis_Valid.L1_step;rw [if_neg (by omega)];exact h
    ·intro k d hd hk h
     apply basis_Valid.L1_step
     rw [if_pos (by omega)]
     refine ⟨d,lget_of hd,by omega,?_⟩
     have hd':=hm d (List.mem_of_getElem? hd)
     have e:=in_or (n:=q) hd'.1 hd'.2
     rw [wrap_succ (by omega)]
     split
     ·rename_i hh;rw [if_pos (e.1 hh)] at h;exact h
     ·rename_i hh;rw [if_neg (fun h3=>hh (e.2 h3))] at h;exact h
  ·rfl)
 rw [← h1];exact h2
theorem drossref13_within.spec {n:Nat} {x:Int} (hn:n≤32) (hx:U32 x):drossref13_within.C n x (decide (sN x<2^n)):=by
 obtain ⟨r,h1,h2⟩:=drossref13_within.enter n x (fun r=>r=decide (sN x<2^n)) ⟨_,drossref02_Full.spec,_,sub_in hn hx,rfl⟩
 rw [← h1];exact h2
theorem agreeEq {t:api_Table} (ht:TV t) {n i k:Nat} (hn:n<2^32) (hi:i<t.Rows.length) (hk:k<t.Rows.length):agreeF (t.Rows[i]).Values (t.Rows[k]).Values n=true↔∀ a,n.testBit a=true→EqA t i k a:=(agr hi hk).trans (pick_eqA ht hn hi hk)
def MixP (t:api_Table) (left i k:Nat):Prop:=∃ j,j<t.Rows.length∧(∀ a,left.testBit a=true→EqA t j i a)∧∀ a,a<t.Attrs.length→left.testBit a=false→EqA t j k a
def MvP (t:api_Table) (l r:Nat):Prop:=∀ i k,i<t.Rows.length→k<t.Rows.length→(∀ a,l.testBit a=true→EqA t i k a)→MixP t (l ||| r) i k
theorem row_agree {t:api_Table} (ht:TV t) {n i k:Nat} (hn:n<2^32) (hi:i<t.Rows.length) (hk:k<t.Rows.length):drossref03_Agree.C (t.Rows[i]) (t.Rows[k]) n (agreeF (t.Rows[i]).Values (t.Rows[k]).Values n):=by
 have mi:=List.getElem_mem hi
 have mk:=List.getElem_mem hk
 have na:=ht.na
 have la:=ht.len mi
 have lb:=ht.len mk
 exact drossref03_Agree.spec hn (by omega) (by omega) fun v hv=>by have:=valid_str (ht.val mi v hv);unfold Big;omega
theorem rest_iff {n left:Nat} (hn:n≤16) {P:Nat→Prop}:(∀ a,(ndiff (fullN n) left).testBit a=true→P a)↔∀ a,a<n→left.testBit a=false→P a:=by
 constructor
 ·intro h a ha hl
  refine h a ?_
  rw [ndiff_bit,fullN_bit,hl,decide_eq_true (by omega)];rfl
 ·intro h a ha
  rw [ndiff_bit,fullN_bit,Bool.and_eq_true,Bool.not_eq_true',decide_eq_true_eq] at ha
  exact h a (by omega) ha.2
theorem drossref13_mixed.spec {t:api_Table} (ht:TV t) {left i k:Nat} (hl:left<2^32) (hi:i<t.Rows.length) (hk:k<t.Rows.length):∃ b,drossref13_mixed.C t (t.Rows[i]) (t.Rows[k]) left b∧(b=true↔MixP t left i k):=by
 have na:=ht.na
 have nr:=ht.nr
 have hf:fullN t.Attrs.length<2^32:=fullN_lt
 have hrest:ndiff (fullN t.Attrs.length) left<2^32:=Nat.lt_of_le_of_lt ndiff_le hf
 obtain ⟨b,h1,h2⟩:=drossref13_mixed.enter t (t.Rows[i]) (t.Rows[k]) left (fun b=>(b=true↔MixP t left i k)) (by
  have go:∀ (d j:Nat),d+j=t.Rows.length→(∀ q,q<j→¬ ((∀ a,left.testBit a=true→EqA t q i a)∧∀ a,a<t.Attrs.length→left.testBit a=false→EqA t q k a))→drossref13_mixed.L1 t (t.Rows[i]) (t.Rows[k]) left (j:Int) (fun b=>(b=true↔MixP t left i k)):=by
   intro d
   induction d with
   | zero=>
    intro j hd hno
    apply drossref13_mixed.L1_step
    rw [if_neg (by omega)]
    simp only [Bool.false_eq_true,false_iff]
    rintro ⟨q,hq,h⟩
    exact hno q (by omega) h
   | succ d ih=>
    intro j hd hno
    have hj:j<t.Rows.length:=by omega
    have next:¬ ((∀ a,left.testBit a=true→EqA t j i a)∧∀ a,a<t.Attrs.length→left.testBit a=false→EqA t j k a)→drossref13_mixed.L2 t (t.Rows[i]) (t.Rows[k]) left (j:Int) (fun b=>(b=true↔MixP t left i k)):=fun hn=>by
     apply drossref13_mixed.L2_step
     rw [wrap_succ (by omega)]
     refine ih (j+1) (by omega) fun q hq=>?_
     by_cases hqj:q=j
     ·subst hqj;exact hn
     ·exact hno q (by omega)
    apply drossref13_mixed.L1_step
    rw [if_pos (by omega)]
    refine ⟨t.Rows[j],lget_of (List.getElem?_eq_getElem hj),_,row_agree ht hl hj hi,?_⟩
    by_cases ha:agreeF (t.Rows[j]).Values (t.Rows[i]).Values left=true
    ·rw [if_pos ha]
     refine ⟨_,drossref02_Full.spec,?_⟩
     rw [bAndNot_nat (by simpa [top] using hf) (by simpa [top] using hl)]
     refine ⟨_,row_agree ht hrest hj hk,?_⟩
     by_cases hb:agreeF (t.Rows[j]).Values (t.Rows[k]).Values (ndiff (fullN t.Attrs.length) left)=true
     ·rw [if_pos hb]
      simp only [true_iff]
      exact ⟨j,hj,(agreeEq ht hl hj hi).1 ha,(rest_iff na).1 ((agreeEq ht hrest hj hk).1 hb)⟩
     ·rw [if_neg hb]
      exact next fun h=>hb ((agreeEq ht hrest hj hk).2 ((rest_iff na).2 h.2))
    ·rw [if_neg ha]
     exact next fun h=>ha ((agreeEq ht hl hj hi).2 h.1)
  exact go t.Rows.length 0 rfl fun q hq=>absurd hq (Nat.not_lt_zero q))
 exact ⟨b,h2,h1⟩
open Classical in
noncomputable def mvB (t:api_Table) (l r:Nat):Bool:=decide (MvP t l r)
theorem mvB_iff {t:api_Table} {l r:Nat}:mvB t l r=true↔MvP t l r:=by unfold mvB;exact @decide_eq_true_iff _ (Classical.propDecidable _)
theorem orI {l r:Int} (hl:U32 l) (hr:U32 r):bOr .u32 l r=((sN l ||| sN r:Nat):Int):=by
 conv=>lhs;rw [hl.eq,hr.eq]
 exact bOr_nat hl.top hr.top
theorem inU_or {n:Nat} {l r:Int}:inU n l r=true↔sN l ||| sN r<2^n:=by
 unfold inU
 rw [Bool.and_eq_true,decide_eq_true_eq,decide_eq_true_eq,or_lt]
noncomputable def holdsF (t:api_Table) (m:api_MVD):Bool×Int:=if inU t.Attrs.length m.Lhs m.Rhs=true then (mvB t (sN m.Lhs) (sN m.Rhs),0) else (false,1)
namespace drossref13_Holds
theorem loop {t:api_Table} (ht:TV t) {m:api_MVD} (hl:U32 m.Lhs) (hr:U32 m.Rhs) {φ:Bool×Int→Prop} (hf:¬ MvP t (sN m.Lhs) (sN m.Rhs)→φ (false,0)) (hp:MvP t (sN m.Lhs) (sN m.Rhs)→φ (true,0)) :
  ∀ (d i:Nat),d+i=t.Rows.length→(∀ q k,q<i→k<t.Rows.length→(∀ a,(sN m.Lhs).testBit a=true→EqA t q k a)→MixP t (sN m.Lhs ||| sN m.Rhs) q k)→L1 t m (i:Int) φ:=by
 have na:=ht.na
 have nr:=ht.nr
 have hor:sN m.Lhs ||| sN m.Rhs<2^32:=Nat.or_lt_two_pow hl.lt hr.lt
 intro d
 induction d with
 | zero=>
  intro i hd hdone
  apply L1_step
  rw [if_neg (by omega)]
  exact hp fun q k hq hk=>hdone q k (by omega) hk
 | succ d ih=>
  intro i hd hdone
  have hi:i<t.Rows.length:=by omega
  apply L1_step
  rw [if_pos (by omega)]
  have inner:∀ (c k:Nat),c+k=t.Rows.length→(∀ q,q<k→(∀ a,(sN m.Lhs).testBit a=true→EqA t i q a)→MixP t (sN m.Lhs ||| sN m.Rhs) i q)→L2 t m (i:Int) (k:Int) φ:=by
   intro c
   induction c with
   | zero=>
    intro k hc hk2
    apply L2_step
    rw [if_neg (by omega),wrap_succ (by omega)]
    refine ih (i+1) (by omega) fun q k' hq hk'=>?_
    by_cases hqi:q=i
    ·subst hqi;exact hk2 k' (by omega)
    ·exact hdone q k' (by omega) hk'
   | succ c ihc=>
    intro k hc hk2
    have hk:k<t.Rows.length:=by omega
    have next:((∀ a,(sN m.Lhs).testBit a=true→EqA t i k a)→MixP t (sN m.Lhs ||| sN m.Rhs) i k)→L3 t m (i:Int) (k:Int) φ:=fun hn=>by
     apply L3_step
     rw [wrap_succ (by omega)]
     refine ihc (k+1) (by omega) fun q hq=>?_
     by_cases hqk:q=k
     ·subst hqk;exact hn
     ·exact hk2 q (by omega)
    apply L2_step
    rw [if_pos (by omega)]
    have hag:=row_agree ht hl.lt hi hk
    rw [← hl.eq] at hag
    refine ⟨t.Rows[i],lget_of (List.getElem?_eq_getElem hi),t.Rows[k],lget_of (List.getElem?_eq_getElem hk),_,hag,?_⟩
    by_cases ha:agreeF (t.Rows[i]).Values (t.Rows[k]).Values (sN m.Lhs)=true
    ·rw [if_pos ha,orI hl hr]
     obtain ⟨b,hb,hbi⟩:=drossref13_mixed.spec ht hor hi hk
     refine ⟨b,hb,?_⟩
     by_cases hbt:b=true
     ·rw [if_pos hbt]
      exact next fun _=>hbi.1 hbt
     ·rw [if_neg hbt]
      exact hf fun h=>hbt (hbi.2 (h i k hi hk ((agreeEq ht hl.lt hi hk).1 ha)))
    ·rw [if_neg ha]
     exact next fun h=>absurd ((agreeEq ht hl.lt hi hk).2 h) ha
  exact inner t.Rows.length 0 rfl fun q hq=>absurd hq (Nat.not_lt_zero q)
theorem spec {t:api_Table} (ht:TV t) {m:api_MVD} (hl:U32 m.Lhs) (hr:U32 m.Rhs):C t m (holdsF t m):=by
 have na:=ht.na
 obtain ⟨r,h1,h2⟩:=enter t m (fun r=>r=holdsF t m) (by
  refine ⟨_,drossref03_Valid.spec,?_⟩
  rw [if_pos (tableF_iff.2 ht)]
  have hw:=drossref13_within.spec (n:=t.Attrs.length) (x:=bOr .u32 m.Lhs m.Rhs) (by omega) (by rw [orI hl hr];exact U32.of (Nat.or_lt_two_pow hl.lt hr.lt))
  refine ⟨_,hw,?_⟩
  unfold holdsF
  have e:sN (bOr .u32 m.Lhs m.Rhs)=sN m.Lhs ||| sN m.Rhs:=by rw [orI hl hr,sN_nat]
  by_cases hin:inU t.Attrs.length m.Lhs m.Rhs=true
  ·rw [if_pos (by rw [e,decide_eq_true_eq];exact inU_or.1 hin),if_pos hin]
   refine loop ht hl hr (fun hn=>?_) (fun hy=>by rw [mvB_iff.2 hy]) t.Rows.length 0 rfl fun q k hq=>absurd hq (Nat.not_lt_zero q)
   cases hb:mvB t (sN m.Lhs) (sN m.Rhs) with
   | false=>rfl
   | true=>exact absurd (mvB_iff.1 hb) hn
  ·rw [if_neg (by rw [e,decide_eq_true_eq];exact fun h=>hin (inU_or.2 h)),if_neg hin])
 rw [← h1];exact h2
end drossref13_Holds
theorem mem_contains {l:List Int} {x:Int} (hn:l.length<1000000000):slices_Contains_sapi_Set_api_Set.C l x (decide (x∈l)):=by
 have am:(l.any fun a=>decide (x=a))=decide (x∈l):=by
  rw [Bool.eq_iff_iff,List.any_eq_true,decide_eq_true_eq]
  constructor
  ·rintro ⟨a,ha,h⟩;rw [of_decide_eq_true h];exact ha
  ·intro h;exact ⟨x,h,decide_eq_true rfl⟩
 obtain ⟨q,g1,g2⟩:=slices_Index_sapi_Set_api_Set.enter l x (fun r=>r=ixI (fun a=>decide (x=a)) l) (by
  refine index_loop (l:=l) (p:=fun a=>decide (x=a)) (L:=fun i=>slices_Index_sapi_Set_api_Set.L1 l x i _) (φ:=fun r=>r=ixI (fun a=>decide (x=a)) l) ?_ ?_ rfl
  ·intro h;apply slices_Index_sapi_Set_api_Set.L1_step;rw [if_neg (by omega)];exact h
  ·intro k a ha hk h
   apply slices_Index_sapi_Set_api_Set.L1_step
   rw [if_pos (by omega)]
   refine ⟨a,lget_of ha,?_⟩
   rw [wrap_succ (by omega)]
   by_cases hx:x=a
   ·rw [if_pos hx];rw [if_pos (decide_eq_true hx)] at h;exact h
   ·rw [if_neg hx];rw [if_neg (by rw [decide_eq_false hx];decide)] at h;exact h)
 subst g1
 obtain ⟨r,h1,h2⟩:=slices_Contains_sapi_Set_api_Set.enter l x (fun r=>r=decide (x∈l)) ⟨_,g2,by rw [ixI_any,am]⟩
 rw [← h1];exact h2
end Go.Own
