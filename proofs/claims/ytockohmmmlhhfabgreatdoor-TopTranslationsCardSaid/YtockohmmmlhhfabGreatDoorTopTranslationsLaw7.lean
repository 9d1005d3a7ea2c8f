/- What the functions answer. No conditions. -/
import Derived.Laws.Strings
import Derived.Test.YtockohmmmlhhfabGreatDoorTopTranslationsLaw4
import Derived.Test.YtockohmmmlhhfabGreatDoorTopTranslationsLaw2
import Derived.Test.YtockohmmmlhhfabGreatDoorBase2
set_option linter.all false
namespace Go.Own
def cmpI (a b:Int):Int:=if a<b then -1 else if b<a then 1 else 0
theorem down {n : Nat} {P : Nat -> Prop} (h0 : P n) (hs : ∀ k, k < n -> P (k + 1) -> P k) : ∀ k, k <= n -> P k := by
  have : ∀ m k, k + m = n -> P k := by
    intro m
    induction m with
    | zero => intro k hk; have : k = n := by omega
              subst this; exact h0
    | succ m ih => intro k hk; exact hs k (by omega) (ih (k + 1) (by omega))
  intro k hk;exact this (n - k) k (by omega)
def Aki {α:Type} (p:α->Bool):List α->Nat->Int
 | [],_=>-1
 | a::r,k=>if p a=true then (k:Int) else Aki p r (k+1)
def ixI {α:Type} (p:α->Bool) (l:List α):Int:=Aki p l 0
theorem Aqa {α:Type} {p:α->Bool}:∀ {l:List α} {k:Nat},decide (0<=Aki p l k)=l.any p
 | [],_=>rfl
 | a::r,k=>by
  simp only [Aki,List.any_cons]
  split
  ·rename_i h;simp [h]
  ·rename_i h;rw [Aqa,Bool.eq_false_iff.2 h];simp
theorem Arl {α:Type} {p:α->Bool} {l:List α}:decide (0<=ixI p l)=l.any p:=Aqa
theorem Alf {α : Type} {l : List α} {p : α -> Bool} {L : Int -> Prop} {φ : Int -> Prop} (stop : φ (-1) -> L (l.length : Int))
    (step : ∀ (k : Nat) a, l[k]? = some a -> k < l.length -> (if p a = true then φ (k : Int) else L ((k + 1 : Nat) : Int)) -> L k) (h : φ (ixI p l)) : L 0 := by
  have : ∀ (r : List α) (k : Nat), l.drop k = r -> k <= l.length -> φ (Aki p r k) -> L k := by
    intro r
    induction r with
    | nil => intro k hd hk h; have : k = l.length := by have := Abg hd; omega
             subst this; exact stop h
    | cons a r ih =>
      intro k hd hk h;have hlt := Abh hd;refine step k a (Aas hd) hlt ?_;simp only [Aki] at h
      split
      · rename_i hp; rw [if_pos hp] at h; exact h
      · rename_i hp; rw [if_neg hp] at h; exact ih (k + 1) (Aah hd) hlt h
  exact this l 0 rfl (Nat.zero_le _) h
theorem Aos {α : Type} {l : List α} {p : α -> Bool} {L : Int -> Prop} {φ : Bool -> Prop} (stop : φ true -> L (l.length : Int))
    (step : ∀ (k : Nat) a, l[k]? = some a -> k < l.length -> (if p a = true then L ((k + 1 : Nat) : Int) else φ false) -> L k) (h : φ (l.all p)) : L 0 := by
  have : ∀ (r : List α) (k : Nat), l.drop k = r -> k <= l.length -> φ (r.all p) -> L k := by
    intro r
    induction r with
    | nil => intro k hd hk h; have : k = l.length := by have := Abg hd; omega
             subst this; exact stop h
    | cons a r ih =>
      intro k hd hk h;have hlt := Abh hd;refine step k a (Aas hd) hlt ?_;simp only [List.all_cons] at h
      split
      · rename_i hp; rw [hp, Bool.true_and] at h; exact ih (k + 1) (Aah hd) hlt h
      · rename_i hp
        have hp : p a = false := by simpa using hp
        rw [hp, Bool.false_and] at h; exact h
  exact this l 0 rfl (Nat.zero_le _) h
theorem Aap {α:Type} {l:List α} {k:Nat} {a:α} (h:l[k]? = some a):lget l (k:Int)=some a:=by rw [Af1];exact h
theorem Al3 {s:ByteArray}:s.toList=s.data.toList:=ByteArray.toList_eq s
theorem Au4 {a b:ByteArray}:a.toList=b.toList↔a=b:=by
 constructor
 ·intro h;rw [Al3,Al3] at h;obtain ⟨⟨a⟩⟩:=a;obtain ⟨⟨b⟩⟩:=b;simp only at h;rw [h]
 ·rintro rfl;rfl
theorem Al4 {s:ByteArray}:Ajb s=(s.toList.length:Int):=by
 rw [Al3];rfl
theorem bget {s:ByteArray} {i:Nat}:s[i]? = s.toList[i]?:=by
 rw [Al3];by_cases h:i<s.size
 ·rw [getElem?_pos s i h,List.getElem?_eq_getElem (by exact h)];rfl
 ·rw [getElem?_neg s i h,List.getElem?_eq_none (by simpa using h)]
theorem Bbv {s:ByteArray} {k:Nat} {b:UInt8} (h:s.toList[k]? = some b):(0:Int)<=(k:Int)/\s[((k:Nat):Int).toNat]? = some b:=⟨by omega,by rw [Int.toNat_natCast,bget];exact h⟩
theorem Ank {l:List UInt8}:(⟨l.toArray⟩:ByteArray).toList=l:=by rw [Al3]
theorem Aww {a b:UInt8}:u8i a=u8i b↔a=b:=by
 unfold u8i;constructor
 ·intro h;exact UInt8.toNat_inj.1 (by omega)
 ·rintro rfl;rfl
def Bdy (n:Nat):List Nat:=(List.range 32).filter fun i=>n.testBit i
def sN (x:Int):Nat:=x.toNat
abbrev visG:Nat:=68
abbrev vioQ:VF:=⟨66,87,88,89,90,68,70,71⟩
abbrev vioS:Nat:=69
end Go.Own
