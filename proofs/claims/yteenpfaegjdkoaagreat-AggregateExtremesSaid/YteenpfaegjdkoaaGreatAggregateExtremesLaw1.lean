/- What the functions that the law reaches answer. No conditions. -/
import Derived.Test.YteenpfaegjdkoaaGreatOwn25
import Derived.Test.YteenpfaegjdkoaaGreatBase2
set_option linter.all false
namespace Go.Own
end Go.Own
namespace Go.Own
def free:List Bool→Nat
 | []=>0
 | b::l=>(if b then 0 else 1)+free l
def cnt:Nat→List Int→Int
 | _,[]=>0
 | k,x::l=>(if x=(k:Int) then 1 else 0)+cnt (k+1) l
end Go.Own
namespace Go.Own
structure CP (rows:Int) (cs:List (List Int)):Prop where
 two:∀ c∈cs,2≤c.length
 inc:∀ c∈cs,c.Pairwise (·<·)
 inn:∀ c∈cs,∀ i∈c,0≤i∧i<rows
 heads:cs.Pairwise fun c d=>c.headD 0<d.headD 0
 disj:cs.Pairwise fun c d=>∀ i∈c,i ∉ d
end Go.Own
namespace Go.Own
def idx:Nat→List (List Int)→List (Int×List Int)
 | _,[]=>[]
 | k,c::cs=>((k:Int),c)::idx (k+1) cs
end Go.Own
namespace Go.Own
def fsts {α:Type} [DecidableEq α] (l:List α):List α:=l.foldl (fun acc a=>if a∈acc then acc else acc++[a]) []
section
variable {α:Type} [DecidableEq α]
theorem fsts_snoc {l:List α} {a:α}:fsts (l++[a])=if a∈fsts l then fsts l else fsts l++[a]:=by
 unfold fsts
 rw [List.foldl_append]
 rfl
theorem list_snoc_ind {p:List α→Prop} (h0:p []) (h1:∀ l a,p l→p (l++[a])):∀ l,p l:=by
 intro l
 have:∀ n (l:List α),l.length=n→p l:=by
  intro n
  induction n with
  | zero=>intro l hl;rw [List.length_eq_zero_iff.1 hl];exact h0
  | succ n ih=>
   intro l hl
   have hne:l≠[]:=fun h=>by rw [h] at hl;simp at hl
   rw [← List.dropLast_concat_getLast hne]
   exact h1 _ _ (ih _ (by simp [hl]))
 exact this _ l rfl
theorem mem_fsts {l:List α} {a:α}:a∈fsts l↔a∈l:=by
 refine list_snoc_ind (p:=fun l=>a∈fsts l↔a∈l) (by simp [fsts]) (fun l b ih=>?_) l
 rw [fsts_snoc]
 split
 ·rename_i hb
  rw [ih]
  simp only [List.mem_append,List.mem_singleton]
  constructor
  ·exact .inl
  ·rintro (h | rfl)
   ·exact h
   ·have:a∈fsts l:=hb
    exact ih.1 this
 ·simp only [List.mem_append,List.mem_singleton,ih]
theorem fsts_nodup {l:List α}:(fsts l).Nodup:=by
 refine list_snoc_ind (p:=fun l=>(fsts l).Nodup) (by simp [fsts]) (fun l b ih=>?_) l
 rw [fsts_snoc]
 split
 ·exact ih
 ·rename_i hb
  rw [List.nodup_append]
  exact ⟨ih,by simp,fun x hx y hy=>by simp at hy;subst hy;exact fun h=>hb (h ▸ hx)⟩
end
end Go.Own
