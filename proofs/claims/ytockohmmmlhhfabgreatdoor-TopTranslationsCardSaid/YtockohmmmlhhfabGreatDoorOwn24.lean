/- An interpreter of function bodies, sound. No conditions. -/
import Derived.Maps.RangeRun
import Derived.Test.YtockohmmmlhhfabGreatDoorOwn19
import Derived.Test.YtockohmmmlhhfabGreatDoorOwn20
set_option linter.all false
namespace Go.Own
open D
section
variable {E:Env} {n f:Nat} {V:List Nat} {F F':Fr} {X:List (Nat×Obj)} {Q:Ex->Fr->List (Nat×Obj)->Prop} {call:Nat->List D->Option (D×List D)}
def WX (E:Env) (n:Nat) (ops:Array Oper) (rest:List Nat) (F:Fr) (X:List (Nat×Obj)) (Q:Ex->Fr->List (Nat×Obj)->Prop):Prop:=
 ∀ (R:Nat->Value) (M:Mem) (B:List Nat) (w0:World) (a:Act) (w:World) (Qw:Exit->Act->World->Prop),Aeq n ops->Good E M->Aco n R M B w0 F X a w ->
  (∀ e F' X' a' w',Q e F' X'->Aco n R M B w0 F' X' a' w'->Qw (Apy e) a' w')->wpOps E.P ops Qw rest a w
theorem WX.region {id:Nat} {ops:Array Oper} (l:List Nat) (hl:List.range ops.size=l) (h:WX E n ops l F X Q):ToMX E n (.region id ops false) F X Q:=
 fun R M B w0 a w Qw hf hg hp hQ=>wp_region (by rw [hl];exact h R M B w0 a w Qw hf hg hp hQ)
theorem WX.nil {ops:Array Oper} (k:Q .normal F X):WX E n ops [] F X Q:=fun _ _ _ _ _ _ _ _ _ hp hQ=>hQ _ _ _ _ _ k hp
theorem WX.run {ops:Array Oper} {F1:Fr} (hcall:Abq E call) (f:Nat) (V l rest:List Nat) {l0:List Nat} (hl:l0=l++rest) (h:opsC E f V call ops l F=some F1) (k:WX E n ops rest F1 X Q):WX E n ops l0 F X Q:=by
 subst hl;intro R M B w0 a w Qw hfit hg ⟨M1,G1,i1,e1,ox⟩ hQ;refine Anv hcall (hg.mono e1.memle) hfit l (R:=R) (M:=M1) (B:=keys (Aa0 G1)) (w0:=w) ⟨M1,G1,i1,Evo.refl _ _ _⟩ h ?_;rintro a' w' ⟨M2,G2,i2,e2⟩;exact k R M B w0 a' w' Qw hfit hg ⟨M2,G2,i2,e1.trans e2,e2.keepX ox⟩ hQ
theorem Aco.norm {R:Nat->Value} {M:Mem} {B:List Nat} {w0:World} {a:Act} {w:World} (h:Aco n R M B w0 F X a w) (hV:V.Nodup):Aco n R M B w0 (Own.norm V F) X a w:=by
 obtain ⟨M1,G1,i1,e1,ox⟩:=h;obtain ⟨G2,i2,b2⟩:=Awp i1 hV;refine ⟨M1,G2,i2,e1.weaken b2,fun b hb=>?_⟩;obtain ⟨h1,h2,h3,h4⟩:=ox b hb;exact ⟨h1,h2,fun hq=>h3 (b2 _ hq),h4⟩
theorem WX.normed {ops:Array Oper} {rest:List Nat} (hV:V.Nodup) (F':Fr) (he:Own.norm V F=F') (k:WX E n ops rest F' X Q):WX E n ops rest F X Q:=
 fun R M B w0 a w Qw hfit hg hp hQ=>k R M B w0 a w Qw hfit hg (by rw [← he];exact hp.norm hV) hQ
section
variable {R:Nat->Value} {M:Mem} {B:List Nat} {w0:World} {a:Act} {w:World}
theorem Aco.put (h:Aco n R M B w0 F X a w) {t:T} (ht:t.tidy) (hs:∀ M G,Aao M G t) (hb:t.blocks=[]) (dst:Option Nat) (hd:∀ d,dst=some d->d<n):Aco n R M B w0 (fin F dst t.erase) X (a.put dst t.val) w:=by
 obtain ⟨M1,G1,i1,e1,ox⟩:=h;have h0:Inv n R M1 F G1 (t.blocks++[]) a w:=by rw [hb];exact i1
 obtain ⟨G',p1,p2⟩:=Inv.put h0 ht (hs M1 G1) dst hd;have hk:∀ g∈keys (Aa0 G'),g∈keys (Aa0 G1):=fun g hg=>by
  have:=p2 g (by simpa [keys] using hg);rw [hb] at this;simpa [keys] using this
 refine ⟨M1,G',p1,e1.weaken hk,fun b hb=>?_⟩;obtain ⟨h1,h2,h3,h4⟩:=ox b hb;exact ⟨h1,h2,fun hq=>h3 (hk _ hq),h4⟩
theorem Aco.putLit (h:Aco n R M B w0 F X a w) {v:Value} (hv:v.oneCell'=true) (dst:Option Nat) (hd:∀ d,dst=some d->d<n):Aco n R M B w0 (fin F dst (.lit v)) X (a.put dst v) w:=
 h.put (t:=.leaf (.lit v) v) (by simp [T.tidy]) (fun M G=>by simp only [Aao,LOK,L1,RI];exact ⟨trivial,hv⟩) (by simp [T.blocks]) dst hd
theorem Aco.act (h:Aco n R M B w0 F X a w) {a':Act} (hs:a'.tmps.size=a.tmps.size) (hd:a'.defers=a.defers) (ho:∀ s∈F.map Prod.fst,a'.tmps[s]? = a.tmps[s]?):Aco n R M B w0 F X a' w:=by
 obtain ⟨M1,G1,i1,e1,ox⟩:=h;refine ⟨M1,G1,{ i1 with size:=hs.trans i1.size,defers:=hd.trans i1.defers,vals:=fun s t hf=>?_ },e1,ox⟩;have hm:s∈F.map Prod.fst:=by
  rw [← i1.er];unfold Acd;rw [List.map_map];clear i1 e1 ox
  induction G1 with
  | nil=>cases hf
  | cons y r ih=>
   simp only [Aaa] at hf
   split at hf
   ·rename_i hk;simp [← hk]
   ·have:=ih hf;rw [List.map_cons];exact List.mem_cons_of_mem _ this
 have:=i1.vals s t hf;rw [ho s hm];exact this
end
def gEnt (gs:List (ByteArray×Value)):List (Value×Nat×D×Value):=gs.zipIdx.map fun x=>(.string x.1.1,x.2,.undef,x.1.2)
def gMap (gs:List (ByteArray×Value)):Obj:=.map (T.entries (gEnt gs)) gs.length
section
variable {P:Program} {t kt e:Nat} {w:World} {r:Nat} {gs:List (ByteArray×Value)}
end
end
end Go.Own
