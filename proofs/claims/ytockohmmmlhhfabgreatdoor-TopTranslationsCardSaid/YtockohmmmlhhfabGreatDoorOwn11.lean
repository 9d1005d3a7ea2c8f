/- An interpreter of function bodies, sound. No conditions. -/
import Derived.Laws.Tables
import Derived.Test.YtockohmmmlhhfabGreatDoorOwn10
set_option linter.all false
namespace Go.Own
open D
section
variable {n:Nat} {R:Nat->Value} {M:Mem} {F F':Fr} {G:FT} {H:Blks} {a:Act} {w:World}
theorem Aog {P:Program}:∀ {fs:List Field},(fs.all fun f=>(P.info? f.type).isSome)=true->fs.mapM (fun f=>(P.info? f.type).map fun i=>(f.offset,i.size))=some (fs.map fun f=>(f.offset,sizeT P f.type))
 | [],_=>rfl
 | f::fs,h=>by
  simp only [List.all_cons,Bool.and_eq_true] at h;obtain ⟨i,hi⟩:=Option.isSome_iff_exists.1 h.1;simp [List.mapM_cons,hi,Aog h.2,sizeT]
theorem Post.of_sub {B:List Nat} {F1:Fr} {G1:FT} {t:T} (h:Inv n R M F1 G1 (t.blocks++[]) a w) (ht:t.tidy) (hs:Aao M G1 t) (dst:Option Nat) (hd:∀ d,dst=some d->d<n)
  (e:∀ g∈keys (Aa0 G1++(t.blocks++[])),g∈B):Post n R M B w (fin F1 dst t.erase) (a.put dst t.val) w:=
 Ace h ht hs dst hd (Evo.refl' M w e)
theorem Inv.less (h:Inv n R M F G H a w) {H':Blks} {rest:Blks} (p:(H'++rest).Perm H):Inv n R M F G H' a w:=
 {h with blk:=h.blk.sub_perm (B:=rest) (by rw [List.append_assoc];exact List.Perm.append_left _ p) }
theorem Sub.less {A B C rest:Blks} (p:(B++rest).Perm C):Sub (A++B) (A++C):=by
 intro g hg;simp only [List.map_append,List.mem_append] at hg ⊢;rcases hg with hg | hg
 ·exact .inl hg
 ·right;refine (p.map Prod.fst).mem_iff.1 ?_;rw [List.map_append];exact List.mem_append_left _ hg
theorem Au7 {E:Env} (h:Inv n R M F G [] a w) {t:Nat} {parts:Array (Nat×Operand)} (hx:∀ p∈parts.toList,Fits n p.2) {z:D} (hz:zeroT E.P t=some z) {ds:List (Nat×D)} {F1:Fr} (ht:takeParts E F parts.toList=some (ds,F1))
  {place:Nat->Option (Nat×Nat)} (hb:∀ (cells:List (Nat×Value)) (zc:Value),(E.P.info? t).bind (·.zero)=some zc->E.P.built t cells=Instr.fill place zc.cells cells) {cs:List D} (hf:fillD place z.cells ds=some cs) (dst:Option Nat) (hd:∀ d,dst=some d->d<n) :
  ∃ v,(Instr.build t (parts.map fun x=>(x.1,a.eval x.2))).run E.P w=.ok v w/\Post n R M (keys (Aa0 G)) w (fin F1 dst (.agg cs)) (a.put dst v) w:=by
 obtain ⟨i,zv,u,h1,h2,rfl,rfl,h5,h6,h7⟩:=Ag1 (M:=M) hz;obtain ⟨ts,G1,b1,b2,b3,b4,b5⟩:=Aj2 _ h hx ht;obtain ⟨c1,c2,c3,c4,c5⟩:=Aci h6 h5;rw [← c1,← b1] at hf;obtain ⟨ts',e1,e2,e3,e4,rest,e5⟩:=Aug ts b3 c3 c4 hf;rw [c5,h7,List.nil_append] at e5;have hi:Inv n R M F1 G1 ((T.agg ts').blocks++[]) a w:=by
  refine b4.less (rest:=rest) ?_;simpa [T.blocks] using e5
 have:=Post.of_sub (B:=keys (Aa0 G)) hi e3 (Abj (show Giv M (.agg ts') from e4)) dst hd (fun g hg=>by
  have h1:=Sub.less (A:=Aa0 G1) (B:=(T.agg ts').blocks++[]) (C:=T.blocksC (ts.map Prod.snd)++[]) (rest:=rest) (by simpa [T.blocks] using e5) g hg;have h2:=b5 g h1
  simpa [keys] using h2)
 simp only [T.erase,T.eraseC_eq,e1] at this;refine ⟨_,?_,this⟩;rw [T.val];refine run_build w t _ _ ?_;have hl:(parts.map fun x=>(x.1,a.eval x.2)).toList=ts.map fun x=>(x.1,x.2.val):=by
  rw [Array.toList_map,b2]
 rw [hl,hb _ u.val (by simp [h1,h2])];have:u.val.cells=(T.vals u.cells).toArray:=by rw [c2]
 rw [this];exact e2
end
end Go.Own
