/- What the functions that the law reaches answer. No conditions. -/
import Derived.Laws.Strings
import Derived.Test.YteenpfaegjdkoaaGreatAggregateExtremesLaw2
import Derived.Test.YteenpfaegjdkoaaGreatBase2
import Derived.Test.YteenpfaegjdkoaaGreatOwn25
import Derived.Test.YteenpfaegjdkoaaGreatAggregateExtremesLaw1
set_option linter.all false
namespace Go.Own
def cmpI (a b:Int):Int:=if a<b then -1 else if b<a then 1 else 0
theorem down {n : Nat} {P : Nat → Prop} (h0 : P n) (hs : ∀ k, k < n → P (k + 1) → P k) : ∀ k, k ≤ n → P k := by
  have : ∀ m k, k + m = n → P k := by
    intro m
    induction m with
    | zero => intro k hk; have : k = n := by omega
              subst this; exact h0
    | succ m ih => intro k hk; exact hs k (by omega) (ih (k + 1) (by omega))
  intro k hk
  exact this (n - k) k (by omega)
def ixFrom {α:Type} (p:α→Bool):List α→Nat→Int
 | [],_=>-1
 | a::r,k=>if p a=true then (k:Int) else ixFrom p r (k+1)
def ixI {α:Type} (p:α→Bool) (l:List α):Int:=ixFrom p l 0
theorem ixFrom_any {α:Type} {p:α→Bool}:∀ {l:List α} {k:Nat},decide (0≤ixFrom p l k)=l.any p
 | [],_=>rfl
 | a::r,k=>by
  simp only [ixFrom,List.any_cons]
  split
  ·rename_i h;simp [h]
  ·rename_i h
   rw [ixFrom_any,Bool.eq_false_iff.2 h];simp
theorem ixI_any {α:Type} {p:α→Bool} {l:List α}:decide (0≤ixI p l)=l.any p:=ixFrom_any
theorem ixFrom_spec {α:Type} {p:α→Bool}:∀ {l:List α} {k:Nat},(ixFrom p l k = -1∧∀ a∈l,p a=false)∨∃ (n:Nat) (a:α),ixFrom p l k=((k+n:Nat):Int)∧l[n]? = some a∧p a=true∧∀ b∈l.take n,p b=false
 | [],k=>.inl ⟨rfl,by simp⟩
 | a::r,k=>by
  simp only [ixFrom]
  split
  ·rename_i h;exact .inr ⟨0,a,rfl,rfl,h,by simp⟩
  ·rename_i h
   have h:p a=false:=by simpa using h
   rcases ixFrom_spec (p:=p) (l:=r) (k:=k+1) with ⟨h1,h2⟩ | ⟨n,b,h1,h2,h3,h4⟩
   ·exact .inl ⟨h1,fun b hb=>by rcases List.mem_cons.1 hb with rfl | hb;exact h;exact h2 b hb⟩
   ·refine .inr ⟨n+1,b,by rw [h1];omega,by simpa using h2,h3,fun c hc=>?_⟩
    simp only [List.take_succ_cons,List.mem_cons] at hc
    rcases hc with rfl | hc
    ·exact h
    ·exact h4 c hc
theorem ixI_spec {α:Type} {p:α→Bool} {l:List α}:(ixI p l = -1∧∀ a∈l,p a=false)∨∃ (n:Nat) (a:α),ixI p l=(n:Int)∧l[n]? = some a∧p a=true∧∀ b∈l.take n,p b=false:=by
 rcases ixFrom_spec (p:=p) (l:=l) (k:=0) with h | ⟨n,a,h1,h2⟩
 ·exact .inl h
 ·exact .inr ⟨n,a,by rw [show ixI p l=ixFrom p l 0 from rfl,h1,Nat.zero_add],h2⟩
theorem index_loop {α : Type} {l : List α} {p : α → Bool} {L : Int → Prop} {φ : Int → Prop} (stop : φ (-1) → L (l.length : Int))
    (step : ∀ (k : Nat) a, l[k]? = some a → k < l.length → (if p a = true then φ (k : Int) else L ((k + 1 : Nat) : Int)) → L k) (h : φ (ixI p l)) : L 0 := by
  have : ∀ (r : List α) (k : Nat), l.drop k = r → k ≤ l.length → φ (ixFrom p r k) → L k := by
    intro r
    induction r with
    | nil => intro k hd hk h; have : k = l.length := by have := drop_ge hd; omega
             subst this; exact stop h
    | cons a r ih =>
      intro k hd hk h
      have hlt := drop_lt hd
      refine step k a (drop_get hd) hlt ?_
      simp only [ixFrom] at h
      split
      · rename_i hp; rw [if_pos hp] at h; exact h
      · rename_i hp; rw [if_neg hp] at h; exact ih (k + 1) (drop_next hd) hlt h
  exact this l 0 rfl (Nat.zero_le _) h
theorem all_loop {α : Type} {l : List α} {p : α → Bool} {L : Int → Prop} {φ : Bool → Prop} (stop : φ true → L (l.length : Int))
    (step : ∀ (k : Nat) a, l[k]? = some a → k < l.length → (if p a = true then L ((k + 1 : Nat) : Int) else φ false) → L k) (h : φ (l.all p)) : L 0 := by
  have : ∀ (r : List α) (k : Nat), l.drop k = r → k ≤ l.length → φ (r.all p) → L k := by
    intro r
    induction r with
    | nil => intro k hd hk h; have : k = l.length := by have := drop_ge hd; omega
             subst this; exact stop h
    | cons a r ih =>
      intro k hd hk h
      have hlt := drop_lt hd
      refine step k a (drop_get hd) hlt ?_
      simp only [List.all_cons] at h
      split
      · rename_i hp; rw [hp, Bool.true_and] at h; exact ih (k + 1) (drop_next hd) hlt h
      · rename_i hp
        have hp : p a = false := by simpa using hp
        rw [hp, Bool.false_and] at h; exact h
  exact this l 0 rfl (Nat.zero_le _) h
theorem any_loop {α : Type} {l : List α} {p : α → Bool} {L : Int → Prop} {φ : Bool → Prop} (stop : φ false → L (l.length : Int))
    (step : ∀ (k : Nat) a, l[k]? = some a → k < l.length → (if p a = true then φ true else L ((k + 1 : Nat) : Int)) → L k) (h : φ (l.any p)) : L 0 := by
  have : ∀ (r : List α) (k : Nat), l.drop k = r → k ≤ l.length → φ (r.any p) → L k := by
    intro r
    induction r with
    | nil => intro k hd hk h; have : k = l.length := by have := drop_ge hd; omega
             subst this; exact stop h
    | cons a r ih =>
      intro k hd hk h
      have hlt := drop_lt hd
      refine step k a (drop_get hd) hlt ?_
      simp only [List.any_cons] at h
      split
      · rename_i hp; rw [hp, Bool.true_or] at h; exact h
      · rename_i hp
        have hp : p a = false := by simpa using hp
        rw [hp, Bool.false_or] at h; exact ih (k + 1) (drop_next hd) hlt h
  exact this l 0 rfl (Nat.zero_le _) h
theorem lget_of {α:Type} {l:List α} {k:Nat} {a:α} (h:l[k]? = some a):lget l (k:Int)=some a:=by rw [lget_nat];exact h
theorem bl_eq {s:ByteArray}:s.toList=s.data.toList:=ByteArray.toList_eq s
theorem bl_inj {a b:ByteArray}:a.toList=b.toList↔a=b:=by
 constructor
 ·intro h
  rw [bl_eq,bl_eq] at h
  obtain ⟨⟨a⟩⟩:=a
  obtain ⟨⟨b⟩⟩:=b
  simp only at h
  rw [h]
 ·rintro rfl;rfl
theorem bsize_eq {s:ByteArray}:bsize s=(s.toList.length:Int):=by
 rw [bl_eq];rfl
theorem bget {s:ByteArray} {i:Nat}:s[i]? = s.toList[i]?:=by
 rw [bl_eq]
 by_cases h:i<s.size
 ·rw [getElem?_pos s i h,List.getElem?_eq_getElem (by exact h)]
  rfl
 ·rw [getElem?_neg s i h,List.getElem?_eq_none (by simpa using h)]
theorem bget_of {s:ByteArray} {k:Nat} {b:UInt8} (h:s.toList[k]? = some b):(0:Int)≤(k:Int)∧s[((k:Nat):Int).toNat]? = some b:=⟨by omega,by rw [Int.toNat_natCast,bget];exact h⟩
theorem bl_mk {l:List UInt8}:(⟨l.toArray⟩:ByteArray).toList=l:=by rw [bl_eq]
theorem bl_bstr {l:List UInt8}:(bstr l).toList=l:=bl_mk
theorem u8i_lt {b:UInt8}:0≤u8i b∧u8i b<256:=by
 unfold u8i;have:=b.toNat_lt;omega
theorem u8i_inj {a b:UInt8}:u8i a=u8i b↔a=b:=by
 unfold u8i
 constructor
 ·intro h;exact UInt8.toNat_inj.1 (by omega)
 ·rintro rfl;rfl
theorem sorted_ext {l m:List Nat} (hl:l.Pairwise (·<·)) (hm:m.Pairwise (·<·)) (h:∀ x,x∈l↔x∈m):l=m:=by
 induction l generalizing m with
 | nil=>
  cases m with
  | nil=>rfl
  | cons b m=>have:=(h b).2 (by simp);simp at this
 | cons a l ih=>
  cases m with
  | nil=>have:=(h a).1 (by simp);simp at this
  | cons b m=>
   have ha:=List.pairwise_cons.1 hl
   have hb:=List.pairwise_cons.1 hm
   have e:a=b:=by
    rcases List.mem_cons.1 ((h a).1 (by simp)) with h1 | h1
    ·exact h1
    ·rcases List.mem_cons.1 ((h b).2 (by simp)) with h2 | h2
     ·exact h2.symm
     ·have:=hb.1 a h1;have:=ha.1 b h2;omega
   subst e
   rw [ih ha.2 hb.2]
   intro x
   constructor
   ·intro hx
    rcases List.mem_cons.1 ((h x).1 (by simp [hx])) with h1 | h1
    ·subst h1;have:=ha.1 x hx;omega
    ·exact h1
   ·intro hx
    rcases List.mem_cons.1 ((h x).2 (by simp [hx])) with h1 | h1
    ·subst h1;have:=hb.1 x hx;omega
    ·exact h1
end Go.Own
namespace Go.Own
def bitsOf (n:Nat):List Nat:=(List.range 32).filter fun i=>n.testBit i
theorem bitsOf_mem {n i:Nat} (h:n<2^32):i∈bitsOf n↔n.testBit i=true:=by
 unfold bitsOf
 simp only [List.mem_filter,List.mem_range]
 constructor
 ·exact fun h=>h.2
 ·intro hi
  refine ⟨?_,hi⟩
  false_or_by_contra
  rename_i hn
  rw [Nat.testBit_lt_two_pow (Nat.lt_of_lt_of_le h (Nat.pow_le_pow_right (by decide) (by omega)))] at hi
  cases hi
theorem bitsOf_sorted {n:Nat}:(bitsOf n).Pairwise (·<·):=List.pairwise_lt_range.filter _
theorem bitsOf_len {n:Nat}:(bitsOf n).length≤32:=Nat.le_trans (List.length_filter_le _ _) (by simp)
def fullN (k:Nat):Nat:=2^min k 32-1
theorem fullN_bit {k i:Nat}:(fullN k).testBit i=decide (i<min k 32):=by
 unfold fullN;rw [Nat.testBit_two_pow_sub_one]
theorem fullN_lt {k:Nat}:fullN k<2^32:=by
 unfold fullN
 have:2^min k 32≤2^32:=Nat.pow_le_pow_right (by decide) (Nat.min_le_right _ _)
 have h2:0<2^min k 32:=Nat.pos_of_ne_zero (by simp)
 omega
theorem out_iff {n k:Nat} (hk:k≤32):ndiff n (fullN k)=0↔n<2^k:=by
 constructor
 ·intro h
  apply Nat.lt_pow_two_of_testBit
  intro i hi
  have:=congrArg (·.testBit i) h
  simp only [ndiff_bit,fullN_bit,Nat.zero_testBit] at this
  rw [show decide (i<min k 32)=false from by simp;omega] at this
  simpa using this
 ·intro h
  apply Nat.eq_of_testBit_eq
  intro i
  rw [ndiff_bit,fullN_bit,Nat.zero_testBit]
  by_cases hi:i<k
  ·rw [show decide (i<min k 32)=true from by simp;omega];simp
  ·rw [Nat.testBit_lt_two_pow (Nat.lt_of_lt_of_le h (Nat.pow_le_pow_right (by decide) (by omega)))];rfl
end Go.Own
namespace Go.Own
end Go.Own
namespace Go.Own
section
variable {α κ β:Type} [DecidableEq κ] {f:α→κ} {l:List α} {x:α} {k:κ} {i:Nat}
def keysB (f:α→κ) (l:List α):List κ:=fsts (l.map f)
def clB (f:α→κ) (l:List α) (k:κ):List α:=l.filter fun x=>decide (f x=k)
def blk (f:α→κ) (l:List α):List (List α):=(keysB f l).map (clB f l)
theorem keysB_snoc:keysB f (l++[x])=if f x∈keysB f l then keysB f l else keysB f l++[f x]:=by
 unfold keysB;rw [List.map_append];exact fsts_snoc
theorem mem_keysB:k∈keysB f l↔∃ x∈l,f x=k:=by
 unfold keysB;rw [mem_fsts,List.mem_map]
theorem keysB_nodup:(keysB f l).Nodup:=fsts_nodup
theorem keysB_mono (h:(keysB f l)[i]? = some k):(keysB f (l++[x]))[i]? = some k:=by
 rw [keysB_snoc]
 split
 ·exact h
 ·rw [List.getElem?_append_left (by have:=(List.getElem?_eq_some_iff.1 h).1;exact this)];exact h
theorem clB_snoc:clB f (l++[x]) k=if f x=k then clB f l k++[x] else clB f l k:=by
 unfold clB
 rw [List.filter_append]
 by_cases h:f x=k
 ·rw [if_pos h,List.filter_cons,if_pos (decide_eq_true h)];rfl
 ·rw [if_neg h,List.filter_cons,if_neg (by rw [decide_eq_true_iff];exact h),List.filter_nil,List.append_nil]
theorem mem_clB {y:α}:y∈clB f l k↔y∈l∧f y=k:=by
 unfold clB;rw [List.mem_filter,decide_eq_true_iff]
theorem clB_ne (h:k∈keysB f l):clB f l k≠[]:=by
 obtain ⟨x,hx,hk⟩:=mem_keysB.1 h
 exact List.ne_nil_of_mem (mem_clB.2 ⟨hx,hk⟩)
theorem clB_out (h:k ∉ keysB f l):clB f l k=[]:=by
 unfold clB
 rw [List.filter_eq_nil_iff]
 intro y hy hk
 exact h (mem_keysB.2 ⟨y,hy,of_decide_eq_true hk⟩)
theorem clB_len:(clB f l k).length≤l.length:=List.length_filter_le _ _
theorem keysB_len:(keysB f l).length≤l.length:=by
 have hs:∀ y∈keysB f l,y∈l.map f:=fun y hy=>by obtain ⟨x,hx,h⟩:=mem_keysB.1 hy;exact List.mem_map.2 ⟨x,hx,h⟩
 have:=(keysB_nodup (f:=f) (l:=l)).length_le_of_subset hs
 rwa [List.length_map] at this
theorem blk_len:(blk f l).length=(keysB f l).length:=by unfold blk;rw [List.length_map]
def base (F:List α→β) (f:α→κ) (l:List α) (x:α):List β:=(keysB f (l++[x])).map fun k=>F (clB f l k)
theorem base_old {F:List α→β} (h:f x∈keysB f l):base F f l x=(blk f l).map F:=by
 unfold base blk
 rw [keysB_snoc,if_pos h,List.map_map];rfl
theorem base_new {F:List α→β} (h:f x ∉ keysB f l):base F f l x=(blk f l).map F++[F []]:=by
 unfold base blk
 rw [keysB_snoc,if_neg h,List.map_append,List.map_map,List.map_cons,clB_out h];rfl
theorem base_get {F:List α→β} (h:(keysB f (l++[x]))[i]? = some k):(base F f l x)[i]? = some (F (clB f l k)):=by
 unfold base;rw [List.getElem?_map,h];rfl
theorem keysB_at {j:Nat} (h:(keysB f l)[i]? = some k) (h2:(keysB f l)[j]? = some k):i=j:=by
 obtain ⟨hi,e1⟩:=List.getElem?_eq_some_iff.1 h
 obtain ⟨hj,e2⟩:=List.getElem?_eq_some_iff.1 h2
 have hn:=keysB_nodup (f:=f) (l:=l)
 rw [List.nodup_iff_pairwise_ne,List.pairwise_iff_getElem] at hn
 rcases Nat.lt_trichotomy i j with hij | hij | hij
 ·exact absurd (e1.trans e2.symm) (hn i j hi hj hij)
 ·exact hij
 ·exact absurd (e2.trans e1.symm) (hn j i hj hi hij)
theorem base_set {F0 F:List α→β} (h:(keysB f (l++[x]))[i]? = some (f x)) (hF:∀ k∈keysB f (l++[x]),k≠f x→F0 (clB f l k)=F (clB f l k)) :
  (base F0 f l x).set i (F (clB f l (f x)++[x]))=(blk f (l++[x])).map F:=by
 apply List.ext_getElem?
 intro n
 rw [List.getElem?_set]
 have er:((blk f (l++[x])).map F)[n]? = ((keysB f (l++[x]))[n]?).map fun k=>F (clB f (l++[x]) k):=by
  unfold blk
  rw [List.getElem?_map,List.getElem?_map,Option.map_map];rfl
 rw [er]
 by_cases hn:i=n
 ·subst hn
  have hlt:i<(base F0 f l x).length:=by unfold base;rw [List.length_map];exact (List.getElem?_eq_some_iff.1 h).1
  rw [if_pos rfl,if_pos hlt,h,Option.map_some,clB_snoc,if_pos rfl]
 ·rw [if_neg hn]
  have eb:(base F0 f l x)[n]? = ((keysB f (l++[x]))[n]?).map fun k=>F0 (clB f l k):=by unfold base;rw [List.getElem?_map]
  rw [eb]
  cases hk:(keysB f (l++[x]))[n]? with
  | none=>rfl
  | some k=>
   have hne:k≠f x:=fun e=>hn (keysB_at h (by rw [hk,e]))
   rw [Option.map_some,Option.map_some,hF k (List.mem_of_getElem? hk) hne,clB_snoc,if_neg (fun e=>hne e.symm)]
theorem blk_snoc:blk f (l++[x])=if f x∈keysB f l then (keysB f l).map (fun k=>if f x=k then clB f l k++[x] else clB f l k) else blk f l++[[x]]:=by
 unfold blk
 rw [keysB_snoc]
 split
 ·refine List.map_congr_left fun k _=>clB_snoc
 ·rename_i h
  rw [List.map_append,List.map_cons,List.map_nil,clB_snoc,if_pos rfl,clB_out h]
  refine congrArg (fun q=>q++_) (List.map_congr_left fun k hk=>?_)
  rw [clB_snoc,if_neg (fun e:f x=k=>h (by rw [e];exact hk))]
theorem mem_blk {b:List α} (h:b∈blk f l):b≠[]∧∀ y∈b,y∈l∧∀ z∈b,f y=f z:=by
 unfold blk at h
 obtain ⟨k,hk,rfl⟩:=List.mem_map.1 h
 exact ⟨clB_ne hk,fun y hy=>⟨(mem_clB.1 hy).1,fun z hz=>(mem_clB.1 hy).2.trans (mem_clB.1 hz).2.symm⟩⟩
theorem snocB_ind {p:List α→Prop} (h0:p []) (h1:∀ l a,p l→p (l++[a])):∀ l,p l:=by
 intro l
 have:∀ n (l:List α),l.length=n→p l:=by
  intro n
  induction n with
  | zero=>intro l hl;rw [List.length_eq_zero_iff.1 hl];exact h0
  | succ n ih=>
   intro l hl
   have hne:l≠[]:=fun h=>by rw [h] at hl;simp at hl
   rw [← List.dropLast_concat_getLast hne]
   exact h1 _ _ (ih _ (by simp [hl]))
 exact this _ l rfl
theorem blk_sum_len:((blk f l).map List.length).sum=l.length:=by
 refine snocB_ind (p:=fun l=>((blk f l).map List.length).sum=l.length) rfl (fun l x ih=>?_) l
 rw [blk_snoc]
 split
 ·rename_i h
  have:∀ ks:List κ,ks.Nodup→f x∈ks→((ks.map (fun k=>if f x=k then clB f l k++[x] else clB f l k)).map List.length).sum=((ks.map (clB f l)).map List.length).sum+1:=by
   intro ks
   induction ks with
   | nil=>intro _ h;cases h
   | cons a ks ih2=>
    intro hn hm
    rw [List.nodup_cons] at hn
    by_cases ha:f x=a
    ·have hrest:ks.map (fun k=>if f x=k then clB f l k++[x] else clB f l k)=ks.map (clB f l):=List.map_congr_left fun k hk=>by
      rw [if_neg (fun e=>hn.1 (by rw [← ha,e];exact hk))]
     simp only [List.map_cons,List.sum_cons,if_pos ha,hrest,List.length_append,List.length_singleton]
     omega
    ·rcases List.mem_cons.1 hm with e | hm
     ·exact absurd e ha
     ·have:=ih2 hn.2 hm
      simp only [List.map_cons,List.sum_cons,if_neg ha,this]
      omega
  rw [this _ keysB_nodup h,List.length_append,List.length_singleton]
  have:((keysB f l).map (clB f l))=blk f l:=rfl
  rw [this,ih]
 ·rw [List.map_append,List.sum_append,ih,List.length_append];rfl
end
end Go.Own
namespace Go.Own
def sN (x:Int):Nat:=x.toNat
def U32 (x:Int):Prop:=0≤x∧x<4294967296
theorem U32.eq {x:Int} (h:U32 x):x=(sN x:Int):=by have:=h.1;unfold sN;omega
theorem U32.lt {x:Int} (h:U32 x):sN x<2^32:=by have:=h.1;have:=h.2;unfold sN;omega
theorem U32.top {x:Int} (h:U32 x):sN x<2^top .u32:=by simpa [Go.Own.top] using h.lt
end Go.Own
