/- An interpreter of function bodies without memory, proved sound for the model. No conditions. -/
import Derived.Test.YtjiphhbagdangaaGreatDoorOwn15
set_option linter.all false
namespace Go.Own
open D
section
variable {E : Env} {f : Nat} {V : List Nat} {F F' : Fr} {Q : Ex → Fr → Prop} {body : Code} {p p' : List Nat} {j : Nat} {s : St}
def ctl (E : Env) (f : Nat) (V : List Nat) : Nat → Code × List Kt → Fr → Option ((Code × List Kt) × Fr)
 | 0, c, F => some (c, F)
 | n + 1, (.skip, ks), F => match nextK ks with
  | some c => ctl E f V n c F
  | none => none
 | n + 1, (.cond y a b, ks), F => match opd E F y with
  | some (lit (.bool t)) => bif t then ctl E f V n (dn a ks) (trim E f V 1 (askKey y) F) else ctl E f V n (dn b ks) (trim E f V 2 (askKey y) F)
  | _ => none
 | n + 1, (.exit id, ks), F => match exitK id ks with
  | some ks' => match nextK ks' with
   | some c => ctl E f V n c (trim E f V 3 id F)
   | none => none
  | none => none
 | _ + 1, _, _ => none
theorem AtC_ctl : ∀ (n : Nat) {c c' : Code × List Kt} {F F' : Fr}, ctl E f V n c F = some (c', F') → AtC E f V c' F' Q → AtC E f V c F Q
 | 0, c, c', F, F', h, k => by
  simp only [ctl, Option.some.injEq, Prod.mk.injEq] at h
  obtain ⟨rfl, rfl⟩ := h
  exact k
 | n + 1, (c, ks), c', F, F', h, k => by
  cases c with
  | skip =>
   simp only [ctl] at h
   split at h
   ·rename_i d hd
    exact To.skip (kTo_next hd (AtC_ctl n h k))
   ·cases h
  | cond y a b =>
   simp only [ctl] at h
   split at h
   ·rename_i t ht
    cases t with
    | true =>
     simp only [cond_true] at h
     exact To.cond ht (fun _ => AtC_dn a ks (AtC_ctl n h k)) (fun h => by cases h)
    | false =>
     simp only [cond_false] at h
     exact To.cond ht (fun h => by cases h) (fun _ => AtC_dn b ks (AtC_ctl n h k))
   ·cases h
  | exit id =>
   simp only [ctl] at h
   split at h
   ·rename_i ks' hk
    split at h
    ·rename_i d hd
     exact To.exit (kTo_exit hk (kTo_next hd (AtC_ctl n h k)))
    ·cases h
   ·cases h
  | _ => simp [ctl] at h
theorem Pt.ctl (n : Nat) (h : Go.Own.ctl E f V n (go body p []) F = some (go body p' [], F')) (k : Pt E f V body p' F' Q) : Pt E f V body p F Q := AtC_ctl n h k
def behind (E : Env) (f : Nat) (V : List Nat) (body : Code) (p : List Nat) (n : Nat) (F : Fr) : Option ((Code × List Kt) × Fr) := match nextK (go body p []).2 with
 | some c => Go.Own.ctl E f V n c F
 | none => none
theorem AtO.go (n : Nat) (hj : (opsAt body p).size = j) (h : behind E f V body p n (trim E f V 0 (idAt body p) (norm V s.2)) = some (Go.Own.go body p' [], F')) (k : Pt E f V body p' F' Q) : AtO E f V body p j s Q := by
 refine ⟨s.2, ⟨0, fun n _ => ?_⟩, ?_⟩
 ·rw [List.drop_eq_nil_iff.2 (by simp [hj])]
  simp only [restS, drawC, opsC, ite_self]
 ·unfold behind at h
  split at h
  ·rename_i c hc
   exact kTo_next hc (AtC_ctl n h k)
  ·cases h
end
end Go.Own
