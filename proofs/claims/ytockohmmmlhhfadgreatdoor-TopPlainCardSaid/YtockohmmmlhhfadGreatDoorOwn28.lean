/- An interpreter of function bodies, sound. No conditions. -/
import Derived.Lib.LaidTab
import Derived.Test.YtockohmmmlhhfadGreatDoorOwn25
import Derived.Test.YtockohmmmlhhfadGreatDoorOwn13
import Derived.Test.YtockohmmmlhhfadGreatDoorOwn18
import Derived.Test.YtockohmmmlhhfadGreatDoorOwn7
set_option linter.all false
namespace Go.Own
open D Go.Lib
theorem good_of_tab {E:Env} {P:Program} {W:World} {name:String} {g:Nat} (hE:E.good=Avg g) (hg:P.globalNamed name=some g) (h:TabIs P W name .u8 (zeroTab.map fun (x:Nat)=>(x:Int))):Good E (fun g=>W.heap[g]?):=by
 intro M' hM;rw [hE];have hc:∀ i,i<zeroTab.length->W.cell? ⟨g,i,none⟩=some (.int .u8 ((zeroTab.map fun (x:Nat)=>(x:Int)).getD i 0)):=fun i hi=>h.cell hg i (by simpa using hi);have h0:=hc 0 (by decide);unfold World.cell? at h0;cases ho:W.heap[g]? with
 | none=>rw [ho] at h0;cases h0
 | some o=>
  cases o with
  | cells cs e fr=>
   refine ⟨cs,e,fr,hM g _ ho,fun i x hx=>?_⟩;have hi:i<zeroTab.length:=(List.getElem?_eq_some_iff.1 hx).1;have:=hc i hi;unfold World.cell? at this;rw [ho] at this;simp only [Option.isSome_none,Bool.false_eq_true,if_false] at this;rw [this];simp [List.getD,hx]
  | _=>rw [ho] at h0;simp at h0
end Go.Own

namespace Go.Own
open D Go.Lib
def Ayk (P:Program) (f t e:Nat):Prop:=∀ (b:Nat) (w:World) (p v:Value) (n:Nat) (xs:List Value) (s:ByteArray),w.heap[b]? = some (.cells #[p,v] t (0,0))->(p=.pointer none∨p=.pointer (some ⟨b,0,none⟩)) ->
 w.ownsRow 0 e 1 v n xs->v.ownBlock≠some b->n+s.size<=140737488355328 ->
 Calls P f #[.pointer (some ⟨b,0,none⟩),.string s] w fun en w'=>en=.returned (.tuple #[.int .i64 s.size,.nilIface]) /\
  ∃ v',w'.heap[b]? = some (.cells #[.pointer (some ⟨b,0,none⟩),v'] t (0,0))/\w'.ownsRow 0 e 1 v' (n+s.size) (xs++strCells s)/\(∀ k,v'.ownBlock=some k->v.ownBlock=some k∨w.heap.size<=k) /\
   w'.os=w.os/\w'.tape=w.tape/\w'.output=w.output/\w.heap.size<=w'.heap.size/\∀ k,k<w.heap.size->k≠b->v.ownBlock≠some k->w'.heap[k]? = w.heap[k]?
def Avw (P:Program) (f t e:Nat):Prop:=∀ (b:Nat) (w:World) (p v:Value) (l:List UInt8),w.heap[b]? = some (.cells #[p,v] t (0,0)) ->
 w.ownsRow 0 e 1 v l.length (l.map fun c=>Value.int .u8 c.toNat) ->
 Calls P f #[.pointer (some ⟨b,0,none⟩)] w fun en w'=>en=.returned (.string ⟨l.toArray⟩)/\w.grownBy w' v.ownBlock
theorem Ah2 {M:Mem} {w:World} {B:List (Nat×Obj)} (h:BlkOK M w B) {k:Nat} (hk:k∈keys B):M k=none:=by
 obtain ⟨x,hx,rfl⟩:=List.mem_map.1 hk;exact h.apart x hx
theorem Atr {M:Mem} {w:World} {v:Value} {bs:List (Nat×Obj)} {t e:Nat} {l:List UInt8} (h:T.BldOK v bs t e l) (hb:BlkOK M w bs) :
  ∃ g p h,v=.pointer (some ⟨g,0,none⟩)/\(p=.pointer none∨p=.pointer (some ⟨g,0,none⟩))/\w.heap[g]? = some (.cells #[p,h] t (0,0))/\w.ownsRow 0 e 1 h l.length (l.map fun c=>Value.int .u8 c.toNat)/\h.ownBlock≠some g /\
   ∀ k,k∈keys bs↔k=g∨h.ownBlock=some k:=by
 obtain ⟨g,p,rfl,hp,⟨rfl,rfl⟩ | ⟨b,cap,cur,rfl,h1,h2,h3,h4⟩⟩:=h
 ·refine ⟨g,p,_,rfl,hp,hb.heap (g,_) List.mem_cons_self,⟨by simp,.inl ⟨rfl,rfl⟩⟩,by simp [Value.ownBlock],fun k=>by simp [keys,Value.ownBlock]⟩
 ·have hn:=hb.nodup;simp only [List.map_cons,List.map_nil,List.nodup_cons,List.mem_singleton,List.not_mem_nil,not_false_eq_true,List.nodup_nil,and_true] at hn;refine ⟨g,p,_,rfl,hp,hb.heap (g,_) List.mem_cons_self,⟨by simp,.inr ⟨b,cap,cur,rfl,Nat.zero_le _,hb.heap (b,_) (List.mem_cons_of_mem _ List.mem_cons_self),h1,h2,by omega,by simpa using h4⟩⟩,?_,fun k=>?_⟩
  ·intro e;have e2:some b=some g:=e;exact hn (Option.some.inj e2).symm
  ·simp only [keys,List.map_cons,List.map_nil,List.mem_cons,List.not_mem_nil,or_false,Value.ownBlock,zJ];constructor<;>rintro (h | h)<;>simp [h]
theorem Au4 {t:T} (ht:t.tidy) {a b:Nat} {l:List UInt8} (h:t.erase=.bld a b l):∃ v bs,t=.bld v bs a b l:=by
 cases t with
 | leaf d v=>simp only [T.erase] at h;subst h;simp [T.tidy] at ht
 | bld v bs t e l'=>simp only [T.erase,D.bld.injEq] at h;obtain ⟨rfl,rfl,rfl⟩:=h;exact ⟨v,bs,rfl⟩
 | _=>simp [T.erase] at h
theorem Ans {M:Mem} {t:T} (hg:Giv M t) {u:Value} (h:t.erase=.lit u):t=.leaf (.lit u) u:=by
 cases t with
 | leaf d v=>
  simp only [T.erase] at h;subst h;have hg:RI M (.lit u) v:=hg;simp only [RI] at hg;rw [hg.1]
 | _=>simp [T.erase] at h
theorem Azy {E:Env} {f t e:Nat} (hm0:E.mode f 0=.inout) (hm1:E.mode f 1≠.inout) (hrun:∀ args w,(callFunc f args).run E.P w=.ok (.enter f args) w) (hw:Ayk E.P f t e) {ds:List D} {r:D} {outs:List D} (h:Aid t e ds=some (r,outs)) :
  FnOK E f ds r outs:=by
 unfold Aid at h
 split at h
 ·rename_i t' e' l s
  split at h
  ·rename_i hc;obtain ⟨rfl,rfl,hlen⟩:=hc;simp only [zJ,Prod.mk.injEq] at h;obtain ⟨rfl,rfl⟩:=h;intro M w ts hts htg hln hblk hmem hgd;rcases ts with _ | ⟨t1,_ | ⟨t2,_ | ⟨t3,rs⟩⟩⟩
   case nil=>simp at hts
   case cons.nil=>simp at hts
   case cons.cons.cons=>simp at hts
   ·simp only [List.map_cons,List.map_nil,List.cons.injEq,and_true] at hts;obtain ⟨v,bs,rfl⟩:=Au4 (htg t1 (by simp)).1 hts.1;obtain rfl:=Ans (htg t2 (by simp)).2 hts.2;have hb:T.BldOK v bs t' e' l:=(htg (T.bld v bs t' e' l) List.mem_cons_self).2;simp only [T.blocksC,T.blocks,List.append_nil] at hblk ⊢;obtain ⟨g,p,hd,rfl,hp,hg,hown,hne,hkeys⟩:=Atr hb hblk;have hlents:Aat E f 0 [T.bld (.pointer (some ⟨g,0,none⟩)) bs t' e' l,T.leaf (.lit (.string s)) (.string s)]=[T.bld (.pointer (some ⟨g,0,none⟩)) bs t' e' l]:=by simp [Aat,hm0,hm1]
    rw [hlents];unfold Does;rw [hrun];refine (hw g w p hd l.length _ s hg hp hown hne hlen).mono ?_;rintro en w' ⟨rfl,v',hg',hown',hnew,ho,htp,hout,hsz,hrest⟩;have hlt:g<w.heap.size:=(Array.getElem?_eq_some_iff.1 hg).1;have hMg:M g=none:=Ah2 hblk ((hkeys g).2 (.inl rfl));have hMk:∀ k,v'.ownBlock=some k->M k=none:=fun k hk=>by
     rcases hnew k hk with h | h
     ·exact Ah2 hblk ((hkeys k).2 (.inr h))
     ·cases hM:M k with
      | none=>rfl
      | some o=>have:=hmem.lt hM;omega
    have hgk:∀ k,v'.ownBlock=some k->k≠g:=fun k hk e=>by
     rcases hnew k hk with h | h
     ·exact hne (by rw [h,e])
     ·omega
    have hmem':Aao M w':=fun k o hk=>by
     have hk1:=hmem k o hk;rw [hrest k (hmem.lt hk) (fun e=>by rw [e,hMg] at hk;cases hk) (fun e=>by rw [Ah2 hblk ((hkeys k).2 (.inr e))] at hk;cases hk)];exact hk1
    have hcells:(l++s.data.toList).map (fun c=>Value.int .u8 c.toNat)=l.map (fun c=>Value.int .u8 c.toNat)++strCells s:=by simp [strCells]
    have hsl:(l++s.data.toList).length=l.length+s.size:=by rw [List.length_append,Array.length_toList];rfl
    rw [← hcells,← hsl] at hown';have build:∀ bs':List (Nat×Obj),T.BldOK (.pointer (some ⟨g,0,none⟩)) bs' t' e' (l++s.data.toList)->BlkOK M w' bs'->(∀ k∈keys bs',k=g∨v'.ownBlock=some k) ->
      ∃ M' tr touts,Ending.returned (.tuple #[.int .i64 s.size,.nilIface])=.returned (T.val tr)/\tr.erase=D.tup [D.lit (.int .i64 s.size),D.lit .nilIface]/\tr.tidy/\Aco M' tr/\touts.map T.erase=[D.bld t' e' (l++s.data.toList)]/\(∀ o∈touts,o.tidy/\T.wf M' o) /\
       T.vals touts=T.vals [T.bld (.pointer (some ⟨g,0,none⟩)) bs t' e' l]/\BlkOK M' w' (tr.blocks++T.blocksC touts)/\Aao M' w'/\Evo M (keys bs) w M' (keys (tr.blocks++T.blocksC touts)) w':=by
     intro bs' h1 h2 h3;refine ⟨M,.tup [.leaf (.lit (.int .i64 s.size)) (.int .i64 s.size),.leaf (.lit .nilIface) .nilIface],[.bld (.pointer (some ⟨g,0,none⟩)) bs' t' e' (l++s.data.toList)],rfl,rfl,⟨trivial,trivial,trivial⟩,?_,rfl,?_,rfl,?_,hmem',?_⟩
     ·intro c hc;simp only [List.mem_cons,List.not_mem_nil,or_false] at hc;rcases hc with rfl | rfl
      ·exact ⟨rfl,rfl⟩
      ·exact ⟨rfl,rfl⟩
     ·intro o ho;obtain rfl:=List.mem_singleton.1 ho;exact ⟨trivial,h1⟩
     ·simpa [T.blocks,T.blocksC] using h2
     ·have hkk:keys ((T.tup [T.leaf (.lit (.int .i64 s.size)) (.int .i64 s.size),T.leaf (.lit .nilIface) .nilIface]).blocks++T.blocksC [T.bld (.pointer (some ⟨g,0,none⟩)) bs' t' e' (l++s.data.toList)])=keys bs':=by simp [T.blocks,T.blocksC]
      rw [hkk];refine ⟨ho,htp,hout,hsz,fun k hk hnk=>?_,Mem.le_refl M,fun _ _ h=>.inl h,fun k hk=>?_⟩
      ·have:=mt (hkeys k).2 hnk;exact hrest k hk (fun e=>this (.inl e)) (fun e=>this (.inr e))
      ·rcases h3 k hk with rfl | h
       ·exact .inl ((hkeys k).2 (.inl rfl))
       ·rcases hnew k h with h | h
        ·exact .inl ((hkeys k).2 (.inr h))
        ·exact .inr h
    rcases hown'.2 with ⟨rfl,hn0⟩ | ⟨k,cap,cur,rfl,_,hk,hnc,hcm,hcs,htake⟩
    ·have hl0:l++s.data.toList=[]:=List.eq_nil_of_length_eq_zero hn0;refine build [(g,.cells #[.pointer (some ⟨g,0,none⟩),.slice none 0 0] t' (0,0))] ⟨g,_,rfl,.inr rfl,.inl ⟨hl0,rfl⟩⟩ ⟨by simp,?_,?_⟩ (by simp [keys])
     ·intro x hx;obtain rfl:=List.mem_singleton.1 hx;exact hg'
     ·intro x hx;obtain rfl:=List.mem_singleton.1 hx;exact hMg
    ·have hkg:=hgk k rfl;refine build [(g,.cells #[.pointer (some ⟨g,0,none⟩),.slice (some ⟨k,0,none⟩) (l++s.data.toList).length cap] t' (0,0)),(k,.cells cur e' (0,0))]
      ⟨g,_,rfl,.inr rfl,.inr ⟨k,cap,cur,rfl,hnc,hcm,by omega,by simpa using htake⟩⟩ ⟨by simpa using fun e=>hkg e.symm,?_,?_⟩ (by simp [keys,Value.ownBlock])
     ·intro x hx;simp only [List.mem_cons,List.not_mem_nil,or_false] at hx;rcases hx with rfl | rfl
      ·exact hg'
      ·exact hk
     ·intro x hx;simp only [List.mem_cons,List.not_mem_nil,or_false] at hx;rcases hx with rfl | rfl
      ·exact hMg
      ·exact hMk k rfl
  ·cases h
 ·cases h
theorem Ay2 {E:Env} {f t e:Nat} (hm0:E.mode f 0=.inout) (hrun:∀ args w,(callFunc f args).run E.P w=.ok (.enter f args) w) (hw:Avw E.P f t e) {ds:List D} {r:D} {outs:List D} (h:Ah8 t e ds=some (r,outs)) :
  FnOK E f ds r outs:=by
 unfold Ah8 at h
 split at h
 ·rename_i t' e' l
  split at h
  ·rename_i hc;obtain ⟨rfl,rfl⟩:=hc;simp only [zJ,Prod.mk.injEq] at h;obtain ⟨rfl,rfl⟩:=h;intro M w ts hts htg hln hblk hmem hgd;rcases ts with _ | ⟨t1,_ | ⟨t2,rs⟩⟩
   case nil=>simp at hts
   case cons.cons=>simp at hts
   ·simp only [List.map_cons,List.map_nil,List.cons.injEq,and_true] at hts;obtain ⟨v,bs,rfl⟩:=Au4 (htg t1 (by simp)).1 hts;have hb:T.BldOK v bs t' e' l:=(htg (T.bld v bs t' e' l) List.mem_cons_self).2;simp only [T.blocksC,T.blocks,List.append_nil] at hblk ⊢;obtain ⟨g,p,hd,rfl,hp,hg,hown,hne,hkeys⟩:=Atr hb hblk;have hlents:Aat E f 0 [T.bld (.pointer (some ⟨g,0,none⟩)) bs t' e' l]=[T.bld (.pointer (some ⟨g,0,none⟩)) bs t' e' l]:=by simp [Aat,hm0]
    rw [hlents];unfold Does;rw [hrun];refine (hw g w p hd l hg hown).mono ?_;rintro en w' ⟨rfl,hgr⟩;have hlt:g<w.heap.size:=(Array.getElem?_eq_some_iff.1 hg).1;have hMg:M g=none:=Ah2 hblk ((hkeys g).2 (.inl rfl));have hg':w'.heap[g]? = some (.cells #[p,hd] t' (0,0)):=(hgr.block g hlt fun e=>hne e.symm).trans hg;have hmem':Aao M w':=fun k o hk=>by
     have hk1:=hmem k o hk;rw [hgr.block k (hmem.lt hk) (fun e=>by rw [Ah2 hblk ((hkeys k).2 (.inr e.symm))] at hk;cases hk)];exact hk1
    have op:p.oneCell'=true:=by rcases hp with rfl | rfl<;>rfl
    have oh:hd.oneCell'=true:=by
     rcases hown.2 with ⟨rfl,_⟩ | ⟨k,cap,cur,rfl,_⟩<;>rfl
    refine ⟨M,.leaf (.lit (.string ⟨l.toArray⟩)) (.string ⟨l.toArray⟩),[.box g t' [.leaf .undef p,.leaf .undef hd]],rfl,rfl,trivial,⟨rfl,rfl⟩,rfl,?_,rfl,?_,hmem',?_⟩
    ·intro o ho;obtain rfl:=List.mem_singleton.1 ho;exact ⟨⟨trivial,trivial,trivial⟩,.inl ⟨rfl,op⟩,.inl ⟨rfl,oh⟩,trivial⟩
    ·simp only [T.blocks,T.blocksC,T.vals,T.val,List.nil_append,List.append_nil];refine ⟨by simp,?_,?_⟩
     ·intro x hx;obtain rfl:=List.mem_singleton.1 hx;exact hg'
     ·intro x hx;obtain rfl:=List.mem_singleton.1 hx;exact hMg
    ·refine ⟨hgr.os,hgr.tape,hgr.output,hgr.size,fun k hk hnk=>?_,Mem.le_refl M,fun _ _ h=>.inl h,fun k hk=>?_⟩
     ·exact hgr.block k hk fun e=>hnk ((hkeys k).2 (.inr e.symm))
     ·simp only [T.blocks,T.blocksC,keys,List.nil_append,List.append_nil,List.map_cons,List.map_nil,List.mem_singleton] at hk;exact .inl ((hkeys k).2 (.inl hk))
  ·cases h
 ·cases h
end Go.Own
