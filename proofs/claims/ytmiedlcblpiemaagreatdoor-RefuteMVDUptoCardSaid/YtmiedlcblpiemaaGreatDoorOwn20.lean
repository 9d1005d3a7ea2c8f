/- An interpreter of function bodies, sound. No conditions. -/
import Derived.Test.YtmiedlcblpiemaaGreatDoorOwn18
set_option linter.all false
open List renaming getElem?_zipIdx->zA,getElem?_map->zB
open Option renaming map_some->zC
namespace Go.Own
open D
def OutX(X:List (Nat×Obj))(M:Mem)(G:FT)(w0 w:World):Prop:=∀b∈X,w.heap[b.1]?=some b.2/\M b.1=none/\b.1 ∉ keys (Aa0 G)/\w0.heap.size<=b.1
def Aav(n:Nat)(R:Nat->Value)(M:Mem)(B:List Nat)(w0:World)(F:Fr)(X:List (Nat×Obj))(a:Act)(w:World):Prop:=∃M1 G1,Inv n R M1 F G1 [] a w/\Evo M B w0 M1 (keys (Aa0 G1)) w/\OutX X M1 G1 w0 w
def ToMX(E:Env)(n:Nat)(cd:Code)(F:Fr)(X:List (Nat×Obj))(Q:Ex->Fr->List (Nat×Obj)->Prop):Prop:=
 ∀(R:Nat->Value)(M:Mem)(B:List Nat)(w0:World)(a:Act)(w:World)(Qw:Exit->Act->World->Prop),Adb n cd->Good E M->Aav n R M B w0 F X a w ->
  (∀e F' X' a' w',Q e F' X'->Aav n R M B w0 F' X' a' w'->Qw (Atn e) a' w')->cd.wp E.P Qw a w
section
variable{E:Env}{n f:Nat}{V:List Nat}{F F':Fr}{X:List (Nat×Obj)}{Q:Ex->Fr->List (Nat×Obj)->Prop}{call:Nat->List D->Option (D×List D)}
theorem Evo.keepX{M M2:Mem}{G G2:FT}{w0 w w':World}(e2:Evo M (keys (Aa0 G)) w M2 (keys (Aa0 G2)) w')(h:OutX X M G w0 w):OutX X M2 G2 w0 w':=by
 intro b hb;obtain⟨h1,h2,h3,h4⟩:=h b hb;have hlt:b.1<w.heap.size:=(Array.getElem?_eq_some_iff.1 h1).1;refine⟨(e2.out b.1 hlt h3).trans h1,?_,fun hk=>?_,h4⟩
 .cases hq:M2 b.1 with
  |none=>rfl
  |some o=>
   rcases e2.memnew b.1 o hq with h|h|h
   .rw [h2]at h;cases h
   .exact absurd h h3
   .omega
 .rcases e2.own b.1 hk with h|h
  .exact h3 h
  .omega
theorem ToMX.of{cd:Code}{Q':Ex->Fr->Prop}(h:ToM E n cd F Q')(k:∀e F',Q' e F'->Q e F' X):ToMX E n cd F X Q:=by
 intro R M B w0 a w Qw hf hg ⟨M1,G1,i1,e1,ox⟩ hQ;refine h R M1 (keys (Aa0 G1)) w a w Qw hf (hg.mono e1.memle) ⟨M1,G1,i1,Evo.refl M1 _ w⟩ ?_;rintro e F' a' w' q ⟨M2,G2,i2,e2⟩;exact hQ e F' X a' w' (k e F' q) ⟨M2,G2,i2,e1.trans e2,e2.keepX ox⟩
theorem ToM.ofX{cd:Code}{Q':Ex->Fr->Prop}(h:ToMX E n cd F [] fun e F' _=>Q' e F'):ToM E n cd F Q':=by
 intro R M B w0 a w Qw hf hg ⟨M1,G1,i1,e1⟩ hQ;refine h R M B w0 a w Qw hf hg ⟨M1,G1,i1,e1,fun b hb=>by cases hb⟩ ?_;rintro e F' X' a' w' q ⟨M2,G2,i2,e2,_⟩;exact hQ e F' a' w' q ⟨M2,G2,i2,e2⟩
theorem ToMX.mono{Q':Ex->Fr->List (Nat×Obj)->Prop}{cd:Code}(h:ToMX E n cd F X Q)(k:∀e F X,Q e F X->Q' e F X):ToMX E n cd F X Q':=
 fun R M B w0 a w Qw hf hg hp hQ=>h R M B w0 a w Qw hf hg hp fun e F' X' a' w' q=>hQ e F' X' a' w' (k e F' X' q)
def Boh(E:Env)(n:Nat)(b:Code)(Q:Ex->Fr->List (Nat×Obj)->Prop):Ex->Fr->List (Nat×Obj)->Prop
 | .normal,F,X=>ToMX E n b F X Q
 |e,F,X=>Q e F X
theorem ToMX.seq{a b:Code}(h:ToMX E n a F X (Boh E n b Q)):ToMX E n (.seq a b) F X Q:=by
 intro R M B w0 x w Qw hf hg hp hQ;refine wp_seq (h R M B w0 x w _ hf.1 hg hp ?_);intro e F' X' a' w' q hp';cases e with
 |normal=>exact q R M B w0 a' w' Qw hf.2 hg hp' hQ
 |exit id=>exact hQ _ _ _ _ _ q hp'
 |ret=>exact hQ _ _ _ _ _ q hp'
theorem ToMX.cond{y:Operand}{a b:Code}{t:Bool}(hy:opd E F y=some (.lit (.bool t)))(h1:t=true->ToMX E n a F X Q)(h2:t=false->ToMX E n b F X Q):ToMX E n (.cond y a b) F X Q:=by
 intro R M B w0 x w Qw hf hg hp hQ;obtain⟨M1,G1,i1,e1,ox⟩:=hp;have hb:=Abi (i1.opd hf.1 hy);refine wp_cond hb ?_;cases t with
 |true=>exact h1 rfl R M B w0 x w Qw hf.2.1 hg ⟨M1,G1,i1,e1,ox⟩ hQ
 |false=>exact h2 rfl R M B w0 x w Qw hf.2.2 hg ⟨M1,G1,i1,e1,ox⟩ hQ
def Bcc(id:Nat)(Q:Ex->Fr->List (Nat×Obj)->Prop):Ex->Fr->List (Nat×Obj)->Prop
 | .exit i,F,X=>if i=id then Q .normal F X else Q (.exit i) F X
 |e,F,X=>Q e F X
theorem ToMX.block{id:Nat}{b:Code}(h:ToMX E n b F X (Bcc id Q)):ToMX E n (.block id b) F X Q:=by
 intro R M B w0 x w Qw hf hg hp hQ;refine wp_block (h R M B w0 x w _ hf hg hp ?_);intro e F' X' a' w' q hp';cases e with
 |normal=>exact hQ _ _ _ _ _ q hp'
 |ret=>exact hQ _ _ _ _ _ q hp'
 |exit i=>
  show(if i=id then Qw .normal a' w' else Qw (.exit i) a' w');simp only[Bcc]at q
  split at q
  .rename_i hi;rw[if_pos hi];exact hQ _ _ _ _ _ q hp'
  .rename_i hi;rw[if_neg hi];exact hQ _ _ _ _ _ q hp'
def At9(E:Env)(n:Nat)(b:Code)(Q:Ex->Fr->List (Nat×Obj)->Prop):Nat->Fr->List (Nat×Obj)->Prop
 |0,_,_=>False
 |k+1,F,X=>ToMX E n b F X fun e F1 X1=>match e with
  | .normal=>At9 E n b Q k F1 X1
  |e=>Q e F1 X1
theorem ToMX.loop{b:Code}(k:Nat)(h:At9 E n b Q k F X):ToMX E n (.loop b) F X Q:=by
 intro R M B w0 x w Qw hf hg hp hQ;refine wp_loop_rounds k ?_;have key:∀(k:Nat){F:Fr}{X:List (Nat×Obj)}{a:Act}{w:World},At9 E n b Q k F X->Aav n R M B w0 F X a w->Code.rounds E.P b Qw k a w:=by
  intro k
  induction k with
  |zero=>intro F X a w h _;exact h.elim
  |succ k ih=>
   intro F X a w h hp;rw[rounds_succ];refine h R M B w0 a w _ hf hg hp ?_;intro e F' X' a' w' q hp';cases e with
   |normal=>exact ih q hp'
   |exit id=>exact hQ _ _ _ _ _ q hp'
   |ret=>exact hQ _ _ _ _ _ q hp'
 exact key k h hp
theorem ToMX.loopInd{b:Code}(P:Nat->Fr->List (Nat×Obj)->Prop)(h0:∀F X,¬P 0 F X)(hs:∀k F X,P (k+1) F X->ToMX E n b F X fun e F1 X1=>match e with
  | .normal=>P k F1 X1
  |e=>Q e F1 X1) (k:Nat) (h:P k F X):ToMX E n (.loop b) F X Q:=by
 refine ToMX.loop k ?_;have key:∀(k:Nat)(F:Fr)(X:List (Nat×Obj)),P k F X->At9 E n b Q k F X:=by
  intro k
  induction k with
  |zero=>intro F X h;exact absurd h (h0 F X)
  |succ k ih=>
   intro F X h;refine ToMX.mono (hs k F X h) fun e F1 X1 q=>?_;cases e with
   |normal=>exact ih F1 X1 q
   |exit i=>exact q
   |ret=>exact q
 exact key k F X h
theorem ToMX.region(hcall:Acr E call)(hm:E.P.follows .mixedOrders=true)(f:Nat)(V:List Nat)(hV:V.Nodup){id:Nat}{ops:Array Oper}{d:Bool}(F':Fr)(h:regC E f V call ops d F=some F')(k:Q .normal F' X):ToMX E n (.region id ops d) F X Q:=
 ToMX.of (ToM.region hcall hm f V hV F' h (Q:=fun e F1=>e=.normal/\F1=F') ⟨rfl,rfl⟩) (by rintro _ _ ⟨rfl,rfl⟩;exact k)
theorem ToMX.skip(k:Q .normal F X):ToMX E n .skip F X Q:=ToMX.of (ToM.skip (Q:=fun e F'=>e=.normal/\F'=F) ⟨rfl,rfl⟩) (by rintro _ _ ⟨rfl,rfl⟩;exact k)
theorem ToMX.ret(k:Q .ret F X):ToMX E n .ret F X Q:=ToMX.of (ToM.ret (Q:=fun e F'=>e=.ret/\F'=F) ⟨rfl,rfl⟩) (by rintro _ _ ⟨rfl,rfl⟩;exact k)
theorem ToMX.exit{id:Nat}(k:Q (.exit id) F X):ToMX E n (.exit id) F X Q:=ToMX.of (ToM.exit (Q:=fun e F'=>e=.exit id/\F'=F) ⟨rfl,rfl⟩) (by rintro _ _ ⟨rfl,rfl⟩;exact k)
theorem ToMX.normed{cd:Code}{V:List Nat}(hV:V.Nodup)(F':Fr)(he:Own.norm V F=F')(h:ToMX E n cd F' X Q):ToMX E n cd F X Q:=by
 intro R M B w0 a w Qw hf hg ⟨M1,G1,i1,e1,ox⟩ hQ;obtain⟨G2,i2,b2⟩:=An6 i1 hV;rw[he]at i2;refine h R M B w0 a w Qw hf hg ⟨M1,G2,i2,e1.weaken b2,fun b hb=>?_⟩ hQ;obtain⟨h1,h2,h3,h4⟩:=ox b hb;exact⟨h1,h2,fun hq=>h3 (b2 _ hq),h4⟩
end
end Go.Own
namespace Go.Own
open D
def sEnt(ks:List ByteArray):List (Value×Nat×D×Value):=ks.zipIdx.map fun x=>(.string x.1,x.2,.lit (.bool true),.bool true)
def sMap(ks:List ByteArray):Obj:=.map (T.entries (sEnt ks)) ks.length
def sIns(k:ByteArray)(ks:List ByteArray):List ByteArray:=if(ks.any fun a=>k==a)=true then ks else ks++[k]
theorem sAny{k:ByteArray}{ks:List ByteArray}:(ks.any fun a=>k==a)=true↔k∈ks:=by
 rw[List.any_eq_true];constructor
 .rintro ⟨a,ha,h⟩;rw[(Adl k a).1 h];exact ha
 .intro h;exact⟨k,h,(Adl k k).2 rfl⟩
def dd(l:List ByteArray):List ByteArray:=l.foldl (fun acc k=>sIns k acc) []
theorem Bip{ks:List ByteArray}{j:Nat}{x:Value×Nat×D×Value}(h:(sEnt ks)[j]?=some x):∃k,ks[j]?=some k/\x=(.string k,j,.lit (.bool true),.bool true):=by
 unfold sEnt at h;rw[zB,zA]at h;cases hk:ks[j]? with
 |none=>rw[hk]at h;cases h
 |some k=>
  rw[hk]at h;simp only[zC,Nat.zero_add,zJ]at h;exact⟨k,rfl,h.symm⟩
theorem Bgj{ks:List ByteArray}{k:ByteArray}:sEnt (ks++[k])=sEnt ks++[(.string k,ks.length,.lit (.bool true),.bool true)]:=by
 unfold sEnt;rw[List.zipIdx_append,List.map_append];simp
theorem Bcg{k:ByteArray}:∀(ks:List ByteArray)(m i:Nat),(Ac5 (.string k) ((ks.zipIdx m).map fun x=>((.string x.1:Value),x.2,D.lit (.bool true),Value.bool true)) i=none/\k ∉ ks)∨(∃j,Ac5 (.string k) ((ks.zipIdx m).map fun x=>((.string x.1:Value),x.2,D.lit (.bool true),Value.bool true)) i=some (i+j,.lit (.bool true),.bool true)/\ks[j]?=some k)
 |[],m,i=>.inl ⟨rfl,by simp⟩
 |a::ks,m,i=>by
  simp only[List.zipIdx_cons,List.map_cons,Ac5];by_cases h:keyBeq (.string k) (.string a)=true
  .rw [if_pos h];exact .inr ⟨0,by rw[Nat.add_zero],by rw[(Adl k a).1 (show(k==a)=true from h)];rfl⟩
  .rw [if_neg h];have hne:k≠a:=fun he=>h ((Adl k a).2 he);rcases Bcg ks (m+1) (i+1)with⟨h1,h2⟩|⟨j,h1,h2⟩
   .exact .inl ⟨h1,by simp[hne,h2]⟩
   .exact .inr ⟨j+1,by rw[h1,show i+1+j=i+(j+1) by omega],by simpa using h2⟩
theorem Aik{P:Program}{t kt e:Nat}(hut:P.underlying t=some (.map kt e))(hkt:P.underlying kt=some .string){w:World}{r:Nat}{ks:List ByteArray}(hh:w.heap[r]?=some (sMap ks))(k:ByteArray):
  (Instr.mapUpdate t (.map (some r)) (.string k) (.bool true)).run P w=.ok () { w with heap:=w.heap.setIfInBounds r (sMap (sIns k ks)) }:=by
 have kT:∀s:ByteArray,keyT P kt (.string s)=true:=fun s=>by simp[keyT,hkt]
 have hes:∀x∈sEnt ks,keyT P kt x.1=true:=fun x hx=>by
  obtain⟨j,hj⟩:=List.getElem?_of_mem hx;obtain⟨s,_,rfl⟩:=Bip hj;exact kT s
 have hblk:w.heap[r]?=some (.map (T.entries (sEnt ks)) ks.length):=hh;have hfind:=Ahc (P:=P) (kT k) hes w;have hset:∀o,(setObj r o).run P w=.ok () { w with heap:=w.heap.setIfInBounds r o }:=fun o=>by simp[setObj,Sem.run,hblk]
 unfold Instr.mapUpdate;rcases Bcg (k:=k) ks 0 0 with⟨h1,h2⟩|⟨j,h1,h2⟩
 .have h1:Ac5 (.string k) (sEnt ks) 0=none:=h1;rw[h1]at hfind;have e:sMap (sIns k ks)=.map ((T.entries (sEnt ks)).push { key:=.string k,val:=.bool true,born:=ks.length }) (ks.length+1):=by
   unfold sIns sMap;rw[if_neg (fun h=>h2 (sAny.1 h)),Bgj,List.length_append,List.length_singleton];congr 1;apply Array.ext';simp[T.entries]
  rw[e];simp only[Sem.run_bind,run_underlying hut,Result.andThen_ok,Adi hblk,Aec (kT k),hfind,Option.map_none,hset]
 .have h1:Ac5 (.string k) (sEnt ks) 0=some (j,.lit (.bool true),.bool true):=by
   have:=h1;rw[Nat.zero_add]at this;exact this
  rw[h1]at hfind;have hge:(sEnt ks)[j]?=some (.string k,j,.lit (.bool true),.bool true):=by
   unfold sEnt;rw[zB,zA,h2];simp
  have hent:(T.entries (sEnt ks))[j]?=some { key:=.string k,val:=.bool true,born:=j }:=by simp[T.entries,hge]
  have hsb:=Aqg (kT k);have e:sMap (sIns k ks)=.map ((T.entries (sEnt ks)).modify j fun e=>{ e with key:=.string k,val:=.bool true }) ks.length:=by
   unfold sIns sMap;rw[if_pos (sAny.2 (List.mem_of_getElem? h2))];congr 1;apply Array.ext_getElem?;intro q;rw[Array.getElem?_modify];by_cases hq:j=q
   .subst hq;rw[if_pos rfl,hent];rfl
   .rw [if_neg hq]
  rw[e];simp only[Sem.run_bind,run_underlying hut,Result.andThen_ok,Adi hblk,Aec (kT k),hfind,zC,Instr.keyThatStays,hent,Option.getD_some,hsb,if_true,Sem.run_pure,hset]
end Go.Own
