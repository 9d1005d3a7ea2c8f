/- An interpreter of function bodies, sound. No conditions. -/
import Derived.Orders
import Derived.Test.YtockohmmmlhhfabGreatDoorOwn13
import Derived.Test.YtockohmmmlhhfabGreatDoorOwn6
set_option linter.all false
namespace Go.Own
open D
section
variable {n:Nat} {R:Nat->Value} {M:Mem} {F F':Fr} {G:FT} {H:Blks} {a:Act} {w w0:World} {B:List Nat}
theorem Post.trans {M1:Mem} {B1:List Nat} {w1:World} (e:Evo M B w0 M1 B1 w1) (h:Post n R M1 B1 w1 F' a w):Post n R M B w0 F' a w:=by
 obtain ⟨M2,G2,h1,h2⟩:=h;exact ⟨M2,G2,h1,e.trans h2⟩
theorem Inv.slot_lit (h:Inv n R M F G H a w) {t:Nat} (ht:t<n) {d:D} (hg:Own.get F t=d) (hd:d≠.undef):a.tmps[t]? = some (getT G t).val:=by
 rw [h.get] at hg;have hne:getT G t≠noT:=by intro hz;rw [hz] at hg;simp [noT,T.erase] at hg;exact hd hg.symm
 have:=h.vals t _ (Acl hne)
 rwa [if_pos ht] at this
theorem Ai4 (h:Inv n R M F G H a w) {ops:Array Oper} {o:Oper} (hfit:∀ j b t,o.guard=some (j,b)->(ops[j]?).bind (·.dst)=some t->t<n) {x:Bool} (hw:wantedD ops F o=some x):Region.wanted o (yielded ops a.tmps)=x:=by
 unfold wantedD at hw;unfold Region.wanted
 split at hw
 ·rename_i hg;simp only [zJ] at hw;subst hw;simp [hg]
 ·rename_i j b hg;simp only [hg]
  split at hw
  ·rename_i t ht;have htn:=hfit j b t hg ht;have hy:yielded ops a.tmps j=(match a.tmps[t]? with | some (.bool b)=>some b | _=>none):=by
    unfold yielded;rw [ht];rfl
   have hval:∀ d,Own.get F t=d->d≠.undef->a.tmps[t]? = some (getT G t).val:=fun d=>h.slot_lit htn
   split at hw
   ·rename_i b' hgt;simp only [zJ] at hw;subst hw;have hv:=hval _ hgt (by simp);have e:=Afr (d:=.lit (.bool b')) (by rw [← h.get];exact hgt) rfl (by simp) (by simp);have hok:=h.okG t;rw [e] at hok;have hvv:(getT G t).val=.bool b':=by
     have:RI M (.lit (.bool b')) (getT G t).val:=hok;simp only [RI] at this;exact this.1
    rw [hy,hv,hvv];cases b<;>cases b'<;>rfl
   ·rename_i ds hgt;simp only [zJ] at hw;subst hw;have hv:=hval _ hgt (by simp);rw [h.get] at hgt;have:∃ ts,getT G t=.tup ts:=by
     cases ht':getT G t with
     | tup ts=>exact ⟨ts,rfl⟩
     | leaf d v=>
      have htd:=h.tidyG t;rw [ht'] at hgt htd;simp only [T.erase] at hgt;subst hgt;simp [T.tidy] at htd
     | _=>rw [ht'] at hgt;simp [T.erase] at hgt
    obtain ⟨ts,hts⟩:=this;rw [hy,hv,hts];rfl
   ·rename_i v hnb hgt;simp only [zJ] at hw;subst hw;have hv:=hval _ hgt (by simp);have e:=Afr (d:=.lit v) (by rw [← h.get];exact hgt) rfl (by simp) (by simp);have hok:=h.okG t;rw [e] at hok;have hvv:(getT G t).val=v:=by
     have:RI M (.lit v) (getT G t).val:=hok;simp only [RI] at this;exact this.1
    rw [hy,hv,hvv];cases v<;>first | rfl | (exfalso;exact hnb _ rfl)
   ·cases hw
  ·rename_i ht;simp only [zJ] at hw;subst hw;have:yielded ops a.tmps j=none:=by unfold yielded;rw [ht];rfl
   rw [this];rfl
def Aeq (n:Nat) (ops:Array Oper):Prop:=∀ (i:Nat) (o:Oper),ops[i]? = some o->Atw n o
theorem Aeq.guard {ops:Array Oper} (h:Aeq n ops) {o:Oper}:∀ j b t,o.guard=some (j,b)->(ops[j]?).bind (·.dst)=some t->t<n:=fun j b t _ ht=>by
 simp only [Option.bind_eq_some_iff] at ht;obtain ⟨o',ho',hd⟩:=ht;exact (h j o' ho').2 t hd
theorem Amt {E:Env} {f:Nat} {V:List Nat} {call:Nat->List D->Option (D×List D)} (hcall:Abq E call) (hgd:Good E M) {ops:Array Oper} (hfit:Aeq n ops) {Q:Exit->Act->World->Prop}:∀ (l:List Nat) {F:Fr} {a:Act} {w:World},Post n R M B w0 F a w->opsC E f V call ops l F=some F' ->
  (∀ a' w',Post n R M B w0 F' a' w'->Q .normal a' w')->wpOps E.P ops Q l a w
 | [],F,a,w,h,hop,hQ=>by
  simp only [opsC,zJ] at hop;subst hop;exact hQ _ _ h
 | i::l,F,a,w,h,hop,hQ=>by
  simp only [opsC] at hop;rw [wpOps_cons];unfold wpOp;cases ho:ops[i]? with
  | none=>simp only [ho] at hop ⊢;exact Amt hcall hgd hfit l h hop hQ
  | some o=>
   simp only [ho] at hop ⊢;obtain ⟨M1,G1,h1,e1⟩:=h;cases hw:wantedD ops F o with
   | none=>simp [hw] at hop
   | some x=>
    rw [Ai4 h1 hfit.guard hw];cases x with
    | true=>
     simp only [hw] at hop;cases hc:opC E f V call F o with
     | none=>simp [hc] at hop
     | some F1=>
      simp only [hc] at hop;simp only [if_true];exact .inl (Av0 hcall (hgd.mono e1.memle) h1 (hfit i o ho) hc fun a' w' hp=>Amt hcall hgd hfit l (hp.trans e1) hop hQ)
    | false=>
     simp only [hw] at hop;simp only [Bool.false_eq_true,if_false];exact Amt hcall hgd hfit l ((Ad1 h1 o.dst (hfit i o ho).2 (Evo.refl M1 _ w)).trans e1) hop hQ
theorem flatMap_congr' {α β:Type} {l:List α} {f g:α->List β} (h:∀ x∈l,f x=g x):l.flatMap f=l.flatMap g:=by
 rw [List.flatMap_def,List.flatMap_def,List.map_congr_left h]
def Afv (G:FT) (a:Act) (n:Nat) (R:Nat->Value) (s:Nat):T:=match Aaa G s with
 | some t=>t
 | none=>.leaf .undef (if s<n then a.tmps.getD s undef else R s)
theorem Av8 (G:FT) (a:Act) (n:Nat) (R:Nat->Value) (s:Nat):(Afv G a n R s).blocks=(getT G s).blocks:=by
 unfold Afv getT;cases Aaa G s<;>simp [noT,T.blocks]
theorem Aw5 (G:FT) (a:Act) (n:Nat) (R:Nat->Value) (s:Nat):(Afv G a n R s).erase=(getT G s).erase:=by
 unfold Afv getT;cases Aaa G s<;>simp [noT,T.erase]
theorem Af4:∀ (V:List Nat) (G:FT),V.Nodup->∃ rest,(V.flatMap (fun s=>(getT G s).blocks)++rest).Perm (Aa0 G)
 | [],G,_=>⟨Aa0 G,by simp⟩
 | s::V,G,hV=>by
  obtain ⟨r,p1,p2⟩:=Ad6 G s;have hq:=p2 noT;obtain ⟨rest,p3⟩:=Af4 V (Aa7 G s noT) (List.nodup_cons.1 hV).2;have he:V.flatMap (fun s=>(getT G s).blocks)=V.flatMap (fun s'=>(getT (Aa7 G s noT) s').blocks):=by
   refine flatMap_congr' fun s' hs'=>?_;rw [Aaq G noT];rintro rfl;exact (List.nodup_cons.1 hV).1 hs'
  refine ⟨rest,?_⟩;simp only [List.flatMap_cons,List.append_assoc];refine List.Perm.trans (List.Perm.append_left _ ?_) p1;rw [he];refine p3.trans (hq.symm.trans ?_);simp [noT,T.blocks]
theorem Axh (g:Nat->T) (V:List Nat) (s:Nat):Aaa (V.map fun s=>(s,g s)) s=if s∈V then some (g s) else none:=by
 induction V with
 | nil=>simp [Aaa]
 | cons x V ih=>
  simp only [List.map_cons,Aaa,List.mem_cons];by_cases h:x=s
  ·subst h;simp
  ·simp only [h,if_false,ih];by_cases hs:s∈V
   ·simp [hs]
   ·simp [hs,Ne.symm h]
theorem Awp (h:Inv n R M F G [] a w) {V:List Nat} (hV:V.Nodup):∃ G',Inv n R M (norm V F) G' [] a w/\∀ g∈keys (Aa0 G'),g∈keys (Aa0 G):=by
 let G0:FT:=V.map fun s=>(s,Afv G a n R s)
 have hf0:∀ s,Aaa G0 s=if s∈V then some (Afv G a n R s) else none:=Axh _ V
 have hk:Adi G G0 (outside V):=by
  intro s p x hx hn;have hcase:∀ b,outside V b s p=false->(getT G0 s).getP p=some x:=fun b hb=>by
   have hs:s∈V:=by simpa [outside] using hb
   have hf:=Aaz hx hn;have:getT G0 s=getT G s:=by
    unfold getT;rw [hf0 s,if_pos hs];simp only [Afv,hf]
   rw [this];exact hx
  exact ⟨fun hb=>⟨x,hcase _ hb,hn,rfl⟩,fun hb=>⟨x,hcase _ hb,T.like_refl hn⟩⟩
 have hk':=Ak0 hk;have hb0:Aa0 G0=V.flatMap fun s=>(getT G s).blocks:=by
  simp only [Aa0,G0,List.flatMap_map];exact flatMap_congr' fun s _=>Av8 G a n R s
 obtain ⟨rest,hp⟩:=Af4 V G hV;have hslot:∀ s,(Afv G a n R s).tidy/\Aao M G (Afv G a n R s)/\(if s<n then a.tmps[s]? = some (Afv G a n R s).val else R s=(Afv G a n R s).val):=fun s=>by
  unfold Afv;cases hf:Aaa G s with
  | some t=>exact ⟨h.tidy s t hf,h.ok s t hf,h.vals s t hf⟩
  | none=>
   refine ⟨by simp [T.tidy],by simp [Aao,LOK,L1],?_⟩
   split
   ·rename_i hs;have:s<a.tmps.size:=by rw [h.size];exact hs
    simp [T.val,hs,Array.getD_eq_getD_getElem?,Array.getElem?_eq_getElem this]
   ·rename_i hs;simp [T.val,hs]
 refine ⟨Aed (outside V) G0,?_,?_⟩
 ·constructor
  ·rw [Ajw];simp only [norm,Acd,G0,List.map_map,killF];refine List.map_congr_left fun s _=>?_;simp only [Function.comp,Aw5,h.get]
  ·exact h.size
  ·exact h.defers
  ·intro s t hf;rw [Adt,hf0] at hf
   split at hf
   ·simp only [Option.map_some,zJ] at hf;subst hf;rw [T.val_kill2];exact (hslot s).2.2
   ·cases hf
  ·intro s t hf;rw [Adt,hf0] at hf
   split at hf
   ·simp only [Option.map_some,zJ] at hf;subst hf;exact T.tidy_kill2 _ _ (hslot s).1
   ·cases hf
  ·intro s t hf;rw [Adt,hf0] at hf
   split at hf
   ·simp only [Option.map_some,zJ] at hf;subst hf;exact SlotOK_kill (Mem.le_refl M) hk' (hslot s).2.1
   ·cases hf
  ·rw [Aay,hb0,List.append_nil];have:=h.blk;rw [List.append_nil] at this;exact this.sub_perm hp
  ·exact h.mem
 ·intro g hg;rw [Aay,hb0] at hg;exact (hp.map Prod.fst).mem_iff.1 (by rw [List.map_append];exact List.mem_append_left _ hg)
theorem Post.norm (h:Post n R M B w0 F a w) {V:List Nat} (hV:V.Nodup):Post n R M B w0 (norm V F) a w:=by
 obtain ⟨M1,G1,h1,e1⟩:=h;obtain ⟨G2,h2,e2⟩:=Awp h1 hV;exact ⟨M1,G2,h2,e1.weaken e2⟩
end
end Go.Own
namespace Go.Own
open D
theorem Aqq {F:Fr} {c:D} (h:Att c=true):takeCell F c=some (c,F)/\c.ex1=false:=by
 cases c<;>simp [Att] at h<;>simp [takeCell,D.ex1]
theorem Akr {F:Fr} {t:Nat} {cs:List D} (hg:Own.get F t=.agg cs) (hc:cs.all Att=true):∀ (k o:Nat),o+k<=cs.length->takeCells F t o k=some ((cs.drop o).take k,F)
 | 0,o,_=>by simp [takeCells]
 | k+1,o,h=>by
  have ho:o<cs.length:=by omega
  have hp:=(Aqq (F:=F) (List.all_eq_true.1 hc _ (List.getElem_mem ho))).1;simp only [takeCells,hg,List.getElem?_eq_getElem ho,hp,Akr hg hc k (o+1) (by omega)];rw [List.drop_eq_getElem_cons ho,List.take_succ_cons]
theorem Ah7 {E:Env} {F:Fr} {x:Operand} {d:D} (h:Adk E F x=some d):takeOp E F x=some (d,F):=by
 cases x with
 | tmp t=>
  simp only [Adk] at h;simp only [takeOp]
  split at h
  ·rename_i v hg;simp only [zJ] at h;subst h;simp [hg,takeSlot]
  ·rename_i v hg;simp only [zJ] at h;subst h;simp [hg,takeSlot]
  ·rename_i v hg;simp only [zJ] at h;subst h;simp [hg,takeSlot]
  ·rename_i f cs hg
   split at h
   ·cases h
   ·rename_i hb;simp only [zJ] at h;subst h;simp only [hg,takeSlot];rw [if_neg hb]
  ·rename_i cs hg
   split at h
   ·rename_i hp;simp only [zJ] at h;subst h;have hex:cs.any ex1=false:=by
     rw [List.any_eq_false];intro c hc;have:=(Aqq (F:=F) (List.all_eq_true.1 hp c hc)).2;simp [this]
    simp only [hg,takeSlot,hex,Bool.false_eq_true,if_false,Akr hg hp cs.length 0 (by omega)];simp
   ·cases h
  ·rename_i s ps hg
   split at h
   ·rename_i es ha;simp only [zJ] at h;subst h;simp [hg,takeSlot,takeAt,ha,D.ex1]
   ·rename_i es ha;simp only [zJ] at h;subst h;simp [hg,takeSlot,takeAt,ha,D.ex1]
   ·cases h
  ·cases h
 | const v=>
  simp only [Adk] at h;simp only [takeOp]
  split at h
  ·rename_i hc;simp only [zJ] at h;subst h;simp [hc]
  ·cases h
 | func f=>simp only [Adk,zJ] at h;subst h;rfl
 | global g=>simp [Adk] at h
theorem Age {E:Env} {F:Fr}:∀ {ps:List (Nat×Operand)} {ds:List (Nat×D)},Abv E F ps=some ds->takeParts E F ps=some (ds,F)
 | [],ds,h=>by simp only [Abv,zJ] at h;subst h;rfl
 | (i,x)::ps,ds,h=>by
  simp only [Abv] at h
  split at h
  ·rename_i d ds' h1 h2;simp only [zJ] at h;subst h;simp only [takeParts,Ah7 h1,Age h2]
  ·cases h
theorem Atf {E:Env} {f n:Nat} (h:Aiz E f n=true):∀ i,i<n->E.mode f i=.snap:=fun i hi=>by
 have:=List.all_eq_true.1 h i (List.mem_range.2 hi);simpa using this
theorem Akm {E:Env} {f:Nat} {F:Fr}:∀ (bs:List Arg) (i:Nat),(∀ k,k<bs.length->E.mode f (i+k)=.snap)->passMoves E f i F bs=some (bs.map fun _=>none,F)
 | [],_,_=>rfl
 | b::bs,i,h=>by
  have h0:E.mode f i=.snap:=h 0 (by simp);have ih:=Akm (F:=F) bs (i+1) (fun k hk=>by have:=h (k+1) (by simpa using hk);rwa [show i+1+k=i+(k+1) by omega]);simp only [passMoves,h0,ih,List.map_cons]
theorem Alz {E:Env} {f:Nat} {F:Fr} {c:Operand}:∀ (bs:List Arg) (i:Nat),(∀ k,k<bs.length->E.mode f (i+k)=.snap)->lentFrom E f F c i bs=some none
 | [],_,_=>rfl
 | b::bs,i,h=>by
  have h0:E.mode f i=.snap:=h 0 (by simp);have ih:=Alz (F:=F) (c:=c) bs (i+1) (fun k hk=>by have:=h (k+1) (by simpa using hk);rwa [show i+1+k=i+(k+1) by omega]);simp only [lentFrom,h0,ih]
theorem Auk {F:Fr} {d:D} (h:imm1 F d=true):frz1 F d=some F:=by
 cases d with
 | alias s ps=>
  simp only [imm1] at h
  split at h
  ·rename_i ha;simp [frz1,frzAt,ha,D.ex1,D.node1]
  ·rename_i ha;simp [frz1,frzAt,ha,D.ex1,D.node1]
  ·cases h
 | sub s ps i k=>
  simp only [imm1] at h
  split at h
  ·rename_i ha;simp [frz1,frzAt,ha,D.ex1,D.node1]
  ·rename_i ha;simp [frz1,frzAt,ha,D.ex1,D.node1]
  ·cases h
 | place=>simp [imm1] at h
 | _=>rfl
theorem Ap1 {F:Fr}:∀ {cs:List D},cs.all (imm1 F)=true->frzs F cs=some F
 | [],_=>rfl
 | c::cs,h=>by
  simp only [List.all_cons,Bool.and_eq_true] at h;simp only [frzs,Auk h.1,Ap1 h.2]
theorem Aq5 {F:Fr}:∀ {ds:List D},ds.all (immD F)=true->frzAll F ds=some F
 | [],_=>rfl
 | d::ds,h=>by
  simp only [List.all_cons,Bool.and_eq_true] at h;have:frzD F d=some F:=by
   have h1:=h.1;have one:∀ c,immD F c=imm1 F c->frzD F c=frz1 F c->immD F c=true->frzD F c=some F:=fun c e1 e2 hh=>by
    rw [e2];exact Auk (by rw [← e1];exact hh)
   cases d with
   | agg cs=>exact Ap1 h1
   | fn f cs=>exact Ap1 h1
   | _=>exact one _ rfl rfl h1
  simp only [frzAll,this,Aq5 h.2]
theorem Aph {E:Env} {f:Nat} {V:List Nat} {call:Nat->List D->Option (D×List D)} {F:Fr} {o:Oper} {d:D} (h:valC E f call F o=some d):opC E f V call F o=some (fin F o.dst d):=by
 unfold valC at h;unfold opC;cases hq:o.op with
 | move x=>
  rw [hq] at h;simp only at h ⊢;unfold moveC;cases x with
  | tmp t=>
   simp only at h ⊢
   split at h
   ·rename_i ds hg
    split at h
    ·rename_i hez;simp only [zJ] at h;subst h
     try simp only [hg]
     rw [if_pos hez]
    ·cases h
   ·rename_i hnt
    split
    ·rename_i ds hg;exact absurd hg (hnt ds)
    ·rw [h];rfl
  | _=>simp only at h ⊢;rw [h];rfl
 | assign x=>
  rw [hq] at h;simp only at h ⊢;cases x with
  | tmp t=>
   simp only at h
   split at h
   ·rename_i v hg;simp only [zJ] at h;subst h;simp [assignC,hg,D.excl,takeOp,takeSlot]
   ·rename_i es hg;simp only [zJ] at h;subst h;simp [assignC,hg,D.excl,takeOp,takeSlot]
   ·cases h
  | const v=>
   simp only at h
   split at h
   ·rename_i hv;simp only [zJ] at h;subst h;simp [assignC,takeOp,hv]
   ·cases h
  | func g=>cases h
  | global g=>cases h
 | pick c x y=>
  rw [hq] at h;simp only at h ⊢;cases ho:opd E F c with
  | none=>simp [ho] at h
  | some dc=>
   simp only [ho] at h ⊢
   split at h
   ·rename_i hdc;cases hdc;simp [h]
   ·cases h
 | alloc t=>
  rw [hq] at h;simp only at h ⊢;cases hb:bldT E t with
  | some e=>simp only [hb,zJ] at h ⊢;rw [← h]
  | none=>simp only [hb,Option.map_eq_some_iff] at h ⊢;obtain ⟨z,hz,rfl⟩:=h;exact ⟨z,hz,rfl⟩
 | box t x=>
  rw [hq] at h;simp only at h ⊢;cases hg:Adk E F x with
  | none=>simp [hg] at h
  | some d'=>
   simp only [hg] at h
   split at h
   ·rename_i hl;simp only [zJ] at h;subst h;simp [Ah7 hg,hl]
   ·cases h
 | build t ps=>
  rw [hq] at h;simp only at h ⊢;cases hz:zeroT E.P t with
  | none=>simp [hz] at h
  | some z=>
   cases hp:Abv E F ps.toList with
   | none=>simp [hz,hp] at h
   | some ds=>
    simp only [hz,hp,Age hp] at h ⊢
    split at h
    ·rename_i hu
     split at h
     ·rename_i hi;simp only [Option.map_eq_some_iff] at h;obtain ⟨cs,hf,rfl⟩:=h;simp [hu,hi,hf]
     ·cases h
    ·rename_i hu
     split at h
     ·rename_i hi;simp only [Option.map_eq_some_iff] at h;obtain ⟨cs,hf,rfl⟩:=h;simp only [hu,hi,if_true,hf,Option.map_some]
     ·cases h
    ·cases h
 | buildSlice t m ps=>
  rw [hq] at h;simp only at h ⊢;cases hs:sliceT E.P t with
  | none=>simp [hs] at h
  | some e=>
   simp only [hs] at h ⊢;cases hz:zeroT E.P e with
   | none=>simp [hz] at h
   | some z=>
    cases hp:Abv E F ps.toList with
    | none=>simp [hz,hp] at h
    | some ds=>
     simp only [hz,hp,Age hp] at h ⊢
     split at h
     ·rename_i hi;simp only [Option.map_eq_some_iff] at h;obtain ⟨cs,hf,rfl⟩:=h;simp [hi,hf]
     ·cases h
 | load t x=>rw [hq] at h;simp only at h ⊢;cases ho:opd E F x<;>simp [ho] at h ⊢;exact ⟨d,h,rfl⟩
 | nilCheck x=>
  rw [hq] at h;simp only at h ⊢;cases ho:opd E F x with
  | none=>simp [ho] at h
  | some dx=>
   simp only [ho] at h ⊢
   split at h
   ·rename_i s ps hdx;cases hdx;simp only
    split at h
    ·rename_i hg;simp only [zJ] at h;subst h;simp [hg]
    ·rename_i hg;simp only [zJ] at h;subst h;simp [hg]
    ·cases h
   ·rename_i hdx;cases hdx;simp only [zJ] at h;subst h;rfl
   ·rename_i hdx;cases hdx;simp only [zJ] at h;subst h;rfl
   ·cases h
 | binOp op t x y yt=>
  rw [hq] at h;simp only at h ⊢;cases ho:opd E F x with
  | none=>simp [ho] at h
  | some d1=>
   cases ho2:opd E F y with
   | none=>simp [ho,ho2] at h
   | some d2=>simp only [ho,ho2] at h ⊢;rw [h];rfl
 | unOp op t x=>
  rw [hq] at h;simp only at h ⊢;cases ho:opd E F x with
  | none=>simp [ho] at h
  | some d1=>
   cases d1 with
   | lit v=>
    simp only [ho,Option.map_eq_some_iff] at h ⊢;obtain ⟨u,hu,rfl⟩:=h;exact ⟨u,hu,rfl⟩
   | _=>simp [ho] at h
 | convert s t x=>rw [hq] at h;simp only at h ⊢;cases ho:opd E F x<;>simp [ho] at h ⊢;exact ⟨d,h,rfl⟩
 | makeFunc fn first caps=>
  rw [hq] at h;cases fn with
  | func g=>
   simp only at h ⊢
   split at h
   ·rename_i he;simp only [he,if_true,Option.map_eq_some_iff] at h ⊢;obtain ⟨cs,hc,rfl⟩:=h;exact ⟨cs,hc,rfl⟩
   ·cases h
  | _=>cases h
 | makeMap t r=>
  rw [hq] at h;cases r with
  | none=>simp only [zJ] at h ⊢;rw [h]
  | some r=>cases h
 | makeSlice t l c=>
  rw [hq] at h;simp only at h ⊢;cases hol:opd E F l with
  | none=>simp [hol] at h
  | some dl=>
   cases hoc:opd E F c with
   | none=>simp [hol,hoc] at h
   | some dc=>
    cases hs:sliceT E.P t with
    | none=>simp [hol,hoc,hs] at h
    | some e=>
     simp only [hol,hoc,hs] at h ⊢
     split at h
     ·rename_i k m z hk hm hz
      split at h
      ·rename_i hc;simp only [zJ] at h;subst h;simp [hk,hm,hz,hc]
      ·cases h
     ·cases h
 | slice t x lo hi mx=>
  rw [hq] at h;cases mx with
  | some m=>cases h
  | none=>
   simp only at h ⊢;cases ho:opd E F x with
   | none=>simp [ho] at h
   | some dx=>
    cases hl:optNat E F lo with
    | none=>simp [ho,hl] at h
    | some l=>
     cases hh:optNat E F hi with
     | none=>simp [ho,hl,hh] at h
     | some hi'=>simp only [ho,hl,hh] at h ⊢;rw [h];rfl
 | fieldAddr t x j=>
  rw [hq] at h;simp only at h ⊢;cases hf:fieldT E.P t j with
  | none=>simp [hf] at h
  | some fd=>
   cases hp:(opd E F x).bind (ptrOf F) with
   | none=>simp [hf,hp] at h
   | some p=>
    cases p with
    | imm cs=>
     simp only [hf,hp] at h ⊢
     split at h
     ·rename_i hs;simp only [zJ] at h;subst h;simp [hs]
     ·cases h
    | loc s ps i c=>
     simp only [hf,hp] at h ⊢
     split at h
     ·rename_i hs;simp only [zJ] at h;subst h;simp [hs]
     ·cases h
 | field t x j=>
  rw [hq] at h;simp only at h ⊢;cases hf:fieldT E.P t j with
  | none=>simp [hf] at h
  | some fd=>
   cases ho:opd E F x with
   | none=>simp [hf,ho] at h
   | some dx=>
    cases dx with
    | agg cs=>simp only [hf,ho] at h ⊢;rw [h];rfl
    | _=>simp [hf,ho] at h
 | indexAddr t x ix=>
  rw [hq] at h;simp only at h ⊢;cases ho:opd E F x with
  | none=>simp [ho] at h
  | some d1=>
   cases ho2:opd E F ix with
   | none=>simp [ho,ho2] at h
   | some d2=>simp only [ho,ho2] at h ⊢;rw [h];rfl
 | index t x ix=>
  rw [hq] at h;simp only at h ⊢;cases ho:opd E F x with
  | none=>simp [ho] at h
  | some d1=>
   cases hi:(opd E F ix).bind asNat with
   | none=>simp [ho,hi] at h
   | some i=>
    simp only [ho,hi] at h ⊢
    split at h
    ·rename_i s j hs hj;cases hs;cases hj;simp only
     split at h
     ·rename_i hu;simp only [Option.map_eq_some_iff] at h;obtain ⟨b,hb,rfl⟩:=h;simp [hu,hb]
     ·cases h
    ·rename_i cs j hs hj;cases hs;cases hj;simp only
     split at h
     ·rename_i ha
      split at h
      ·rename_i hil;simp only [ha,hil,if_true];rw [h];rfl
      ·cases h
     ·cases h
    ·cases h
 | lookup t x k ok=>
  rw [hq] at h;simp only at h ⊢;cases ho:opd E F x with
  | none=>simp [ho] at h
  | some d1=>
   cases ho2:opd E F k with
   | none=>simp [ho,ho2] at h
   | some d2=>simp only [ho,ho2] at h ⊢;rw [h];rfl
 | extract x i=>
  rw [hq] at h;cases x with
  | tmp t=>
   simp only at h ⊢
   split at h
   ·rename_i ds hg;simp only [Option.map_eq_some_iff] at h;obtain ⟨d',hd,rfl⟩:=h;simp only [hg,hd,Option.map_some]
   ·cases h
  | _=>cases h
 | call c=>
  rw [hq] at h;simp only at h ⊢;cases hc:c.callee with
  | invoke=>rw [hc] at h;cases h
  | value x=>
   rw [hc] at h;simp only at h ⊢;cases ho:opd E F x with
   | none=>simp [ho] at h
   | some dx=>
    cases dx with
    | fn g caps=>
     simp only [ho] at h ⊢
     split at h
     case isFalse=>cases h
     rename_i hso;have hsn:=Atf hso;have h0:∀ k,k<(argsOf c.args.toList caps.length).length->E.mode g (0+k)=.snap:=fun k hk=>by rw [Nat.zero_add];exact hsn k hk
     cases hp:passRest E g F F x none 0 (argsOf c.args.toList caps.length) ((argsOf c.args.toList caps.length).map fun _=>none) with
     | none=>simp [hp] at h
     | some ds=>
      simp only [hp] at h
      split at h
      ·rename_i r hcl
       split at h
       ·rename_i hfl;simp only [callC,Akm _ 0 h0,Alz _ 0 h0,holeC,hp,hcl,List.all_nil,Bool.and_true,giveBack];by_cases hf:r.flatR=true
        ·simp [hf,giveBack,h]
        ·have hf':r.flatR=false:=by simpa using hf
         simp only [hf',Bool.false_or] at hfl;simp [hf',Aq5 hfl,giveBack,h]
       ·cases h
      ·cases h
    | _=>simp [ho] at h
  | builtin b=>
   rw [hc] at h;simp only at h ⊢;cases b with
   | len=>
    simp only at h
    split at h
    ·rename_i x t ts hb2 hb3;rw [hb2,hb3];simp only [builtinC];cases ho:opd E F x with
     | none=>simp [ho] at h
     | some d1=>simp only [ho] at h ⊢;rw [h];rfl
    ·cases h
   | max=>
    simp only at h
    split at h
    ·rename_i x y hb2;rw [hb2];simp only [builtinC];cases ho:opd E F x with
     | none=>simp [ho] at h
     | some d1=>
      cases ho2:opd E F y with
      | none=>simp [ho,ho2] at h
      | some d2=>simp only [ho,ho2] at h ⊢;rw [h];rfl
    ·cases h
   | min=>
    simp only at h
    split at h
    ·rename_i x y hb2;rw [hb2];simp only [builtinC];cases ho:opd E F x with
     | none=>simp [ho] at h
     | some d1=>
      cases ho2:opd E F y with
      | none=>simp [ho,ho2] at h
      | some d2=>simp only [ho,ho2] at h ⊢;rw [h];rfl
    ·cases h
   | _=>cases h
 | _=>rw [hq] at h;cases h
end Go.Own
namespace Go.Own
open D
section
variable {E:Env} {f:Nat} {V:List Nat} {F F':Fr} {Q:Ex->Fr->Prop} {body:Code} {p p':List Nat} {j:Nat} {s s':St} {o:Oper} {d:D} {call:Aam}
def Awr:Op->Bool
 | .move _=>true
 | .pick ..=>true
 | .load ..=>true
 | .binOp ..=>true
 | .unOp ..=>true
 | .convert ..=>true
 | .makeSlice ..=>true
 | .slice _ _ _ _ none=>true
 | .fieldAddr ..=>true
 | .field ..=>true
 | .indexAddr ..=>true
 | .index ..=>true
 | .lookup ..=>true
 | .extract (.tmp _) _=>true
 | .makeMap _ none=>true
 | .call c=>match c.callee with
  | .builtin .len=>true
  | .builtin .max=>true
  | .builtin .min=>true
  | _=>false
 | _=>false
theorem Aqo (_:Awr o.op=true) (h:valC E f call F o=some d):opC E f V call F o=some (fin F o.dst d):=Aph h
def Akh:Option Bool->Bool
 | some true=>true
 | _=>false
theorem Ajh {x:Option Bool} (h:Akh x=true):x=some true:=by
 cases x with
 | none=>cases h
 | some b=>cases b<;>simp_all [Akh]
def Aid:Op->Option Operand
 | .call c=>match c.callee with
  | .value x=>some x
  | _=>none
 | _=>none
def Ak9:Op->List Operand
 | .call c=>c.args.toList
 | _=>[]
def pmF (E:Env) (g:Nat) (F:Fr) (agl:List Arg):Fr:=match passMoves E g 0 F agl with
 | some (_,F1)=>F1
 | none=>[]
def hoF (F:Fr) (l:Option (Nat×Path)):Fr:=match holeC F l with
 | some (_,F1)=>F1
 | none=>[]
def gbF (F:Fr) (l:Option (Nat×Path)) (outs:List D):Fr:=(giveBack F l outs).getD []
theorem Azq {x:Operand} {g i:Nat} {F F2:Fr} {l:Option D} {a:Arg} {agl:List Arg} {ms:List (Option D)} {d0 d:D} {ds:List D} (hm:E.mode g i=.snap) (ha:argD E F x a=some d0) (hs:snapD F2 d0=some d) (h:passRest E g F F2 x l (i+1) agl ms=some ds) :
  passRest E g F F2 x l i (a::agl) (none::ms)=some (d::ds):=by
 simp only [passRest,hm,ha,Option.bind_some,hs,restOne,h]
def Lv (E:Env) (f:Nat) (fd:Func) (n:Nat) {ρ:Type} (res:ρ->D×List D) (φ:ρ->Prop):Ex->Fr->Prop
 | .exit _,_=>False
 | _,F=>∃ r,Af0 E f fd n F=some (res r)/\φ r
theorem Aax {a b:Int} (h:(a == b)=true):a=b:=by simpa using h
theorem Aaw {a b:Int} (h:(a == b)=false):¬ a=b:=by simpa using h
theorem Acz {a b:Int} (h:(a != b)=true):¬ a=b:=by simpa using h
theorem Acy {a b:Int} (h:(a != b)=false):a=b:=by simpa using h
theorem Ay7 {a b:ByteArray} (h:(a.toList == b.toList)=true):a.toList=b.toList:=by simpa using h
theorem Ay6 {a b:ByteArray} (h:(a.toList == b.toList)=false):¬ a.toList=b.toList:=by simpa using h
theorem Atr {b:Bool} (h:(!b)=true):b=false:=by simpa using h
theorem Atq {b:Bool} (h:(!b)=false):b=true:=by simpa using h
theorem fls {b:Bool} (h:b=false):¬ b=true:=by simp [h]
end
end Go.Own
namespace Go.Own
open D
abbrev Enc (α:Type):=α->List D
def eI (k:IntKind):Enc Int:=fun x=>[.lit (.int k x)]
def eS:Enc ByteArray:=fun b=>[.lit (.string b)]
def eSl {α:Type} (e:Enc α):Enc (List α):=fun l=>[.sl (l.map e)]
def eOw {α:Type} (e:Enc α):Enc (List α):=fun l=>[.own (l.map e)]
def lget {α:Type} (l:List α) (i:Int):Option α:=if 0<=i then l[i.toNat]? else none
def lset {α:Type} (l:List α) (i:Int) (a:α):List α:=l.set i.toNat a
theorem Apq {a b:Nat} (h:Nat.blt a b=true):a<b:=Nat.le_of_ble_eq_true h
theorem Adm {α:Type} {l:List α} {i:Int} {a:α} (h:lget l i=some a):0<=i/\l[i.toNat]? = some a:=by
 unfold lget at h
 split at h
 ·exact ⟨by assumption,h⟩
 ·cases h
theorem Aib {α:Type} {e:Enc α} {l:List α} {n:Nat} {a:α} (h:l[n]? = some a):(l.map e)[n]? = some (e a):=by simp [h]
section
variable {E:Env} {f:Nat} {V:List Nat} {F F1 F2:Fr} {o:Oper} {call:Aam} {α β:Type} {e:Enc α} {l m:List α} {i:Int} {a b:α} {t u et k s n c:Nat} {ps:Path} {x ix y:Operand} {q:IntKind} {d:D} {ts:List Nat}
theorem Ag4 {q:IntKind} {i:Int} (h:0<=i):asNat (.lit (.int q i))=some i.toNat:=by simp [asNat,asInt,h]
theorem Aye (ho:o.op=.indexAddr t x ix) (hx:opd E F x=some (.sl (l.map e))) (hix:opd E F ix=some (.lit (.int q i))) (ht:sliceT E.P t=some et) (hs:sizeT E.P et=k) (h:lget l i=some a) (hk:(e a).length=k) :
  valC E f call F o=some (.ref (e a)):=by
 obtain ⟨h0,h1⟩:=Adm h;unfold valC;simp only [ho,hx,hix,indexAddrD,Ag4 h0,ht,Aib h1,hs,hk,if_true]
theorem Avb (ho:o.op=.indexAddr t x ix) (hx:opd E F x=some (.alias s ps)) (hg:getAt F s ps=some (.sl (l.map e))) (hix:opd E F ix=some (.lit (.int q i))) (ht:sliceT E.P t=some et) (hs:sizeT E.P et=k) (h:lget l i=some a) (hk:(e a).length=k) :
  valC E f call F o=some (.ref (e a)):=by
 obtain ⟨h0,h1⟩:=Adm h;unfold valC;simp only [ho,hx,hix,indexAddrD,Ag4 h0,ht,hg,Aib h1,hs,hk,if_true]
theorem Ayd (ho:o.op=.indexAddr t x ix) (hx:opd E F x=some (.alias s ps)) (hg:getAt F s ps=some (.own (l.map e))) (hix:opd E F ix=some (.lit (.int q i))) (ht:sliceT E.P t=some et) (hs:sizeT E.P et=k) (h:lget l i=some a) (hk:(e a).length=k) :
  valC E f call F o=some (.place s ps i.toNat 0):=by
 obtain ⟨h0,h1⟩:=Adm h;unfold valC;simp only [ho,hx,hix,indexAddrD,Ag4 h0,ht,hg,Aib h1,hs,hk,if_true]
theorem Atg {off len:Nat} (ho:o.op=.indexAddr t x ix) (hx:opd E F x=some (.sub s ps off len)) (hg:getAt F s ps=some (.own (l.map e))) (hix:opd E F ix=some (.lit (.int q i))) (ht:sliceT E.P t=some et) (hs:sizeT E.P et=k) (hl:off+len<=l.length) (h:lget ((l.drop off).take len) i=some a) (hk:(e a).length=k) :
  valC E f call F o=some (.place s ps (off+i.toNat) 0):=by
 obtain ⟨h0,h1⟩:=Adm h;have hi:i.toNat<len:=by
  have:=(List.getElem?_eq_some_iff.1 h1).1;simp at this;omega
 have h2:l[off+i.toNat]? = some a:=by
  rw [List.getElem?_take_of_lt hi,List.getElem?_drop] at h1;exact h1
 unfold valC;simp only [ho,hx,hix,indexAddrD,Ag4 h0,ht,hg,Aib h2,hs,hk,if_true,if_pos hi,List.length_map,hl,and_self]
theorem Aht {off len:Nat} (ho:o.op=.indexAddr t x ix) (hx:opd E F x=some (.sub s ps off len)) (hg:getAt F s ps=some (.own (l.map e))) (hix:opd E F ix=some (.lit (.int q i))) (ht:sliceT E.P t=some et) (hs:sizeT E.P et=k) (hl:off+len<=l.length) (hb:0<=i/\i<len) (h:lget l ((off:Int)+i)=some a) (hk:(e a).length=k) :
  valC E f call F o=some (.place s ps ((off:Int)+i).toNat 0):=by
 have e1:((off:Int)+i).toNat=off+i.toNat:=by omega
 rw [e1];refine Atg (l:=l) (a:=a) ho hx hg hix ht hs hl ?_ hk;obtain ⟨h0,h1⟩:=Adm h;rw [e1] at h1;unfold lget;rw [if_pos hb.1,List.getElem?_take_of_lt (by omega),List.getElem?_drop];exact h1
theorem Awb {d:D} (ho:o.op=.load t x) (hx:opd E F x=some (.place s ps n c)) (hg:getAt F s ps=some (.own (l.map e))) (hu:(E.P.underlying t).isNone=false) (h:l[n]? = some a)
  (hd:(if c+sizeT E.P t<=(e a).length then ofCells (isAggT E.P t) (viewCells s ps n c (((e a).drop c).take (sizeT E.P t))) else none)=some d):valC E f call F o=some d:=by
 unfold valC;simp only [ho,hx,loadD,hu,ptrOf,hg,D.elem,Aib h,hd,Bool.false_eq_true,if_false]
theorem Ao1 (ho:o.op=.call { callee:=.builtin .len,args:=#[x],argTypes:=#[t] }) (hx:opd E F x=some d) (hd:elemsOf F d=some (l.map e)) (ht:sliceT E.P t=some et):valC E f call F o=some (.lit (.int .i64 l.length)):=by
 have hu:E.P.underlying t=some (.slice et):=by
  unfold sliceT at ht
  split at ht
  ·rename_i h;simp only [zJ] at ht;rw [h,ht]
  ·cases ht
 unfold valC;simp only [ho,hx];have:lenD E F t d=some (.lit (.int .i64 l.length)):=by
  unfold lenD;rw [hu];cases d with
  | own es=>simp [elemsOf] at hd
  | _=>simp only [hd,Option.map_some,List.length_map]
 simp only [this]
theorem Ahv (hg:getAt F s ps=some (.own (l.map e))):elemsOf F (.alias s ps)=some (l.map e):=by simp [elemsOf,hg]
theorem Afq {off len:Nat} (hg:getAt F s ps=some (.own (l.map e))) (hl:off+len<=l.length):elemsOf F (.sub s ps off len)=some (((l.drop off).take len).map e):=by simp [elemsOf,hg,hl]
theorem Ael (hx:opd E F x=some (.lit (.int q i))) (h:0<=i):optNat E F (some x)=some (some i.toNat):=by simp [optNat,hx,Ag4 h]
theorem Aek:optNat E F none=some none:=rfl
theorem Ave (hk:∀ x,(e x).length=k):wide k (l.map e)=true:=by
 cases l with
 | nil=>rfl
 | cons a l=>simp [wide,hk]
theorem An9 {lo hi:Option Operand} {lo' hi':Option Nat} (ho:o.op=.slice t x lo hi none) (hx:opd E F x=some (.sl (l.map e))) (h1:optNat E F lo=some lo') (h2:optNat E F hi=some hi') (ht:sliceT E.P t=some et) (hs:sizeT E.P et=k) (hk:∀ x,(e x).length=k) (hp:Nat.blt 0 k=true)
  (h3:lo'.getD 0<=hi'.getD l.length) (h4:hi'.getD l.length<=l.length):valC E f call F o=some (.sl (((l.drop (lo'.getD 0)).take (hi'.getD l.length-lo'.getD 0)).map e)):=by
 have hp:0<k:=Apq hp;unfold valC;simp only [ho,hx,h1,h2,sliceD,ht,List.length_map,hs,Ave hk];simp [h3,h4,hp]
theorem Agq {lo hi:Option Operand} {lo' hi':Option Nat} (ho:o.op=.slice t x lo hi none) (hx:opd E F x=some (.alias s ps)) (hg:elemsOf F (.alias s ps)=some (l.map e)) (h1:optNat E F lo=some lo') (h2:optNat E F hi=some hi') (ht:sliceT E.P t=some et) (hs:sizeT E.P et=k) (hk:∀ x,(e x).length=k) (hp:Nat.blt 0 k=true)
  (h3:lo'.getD 0<=hi'.getD l.length) (h4:hi'.getD l.length<=l.length):valC E f call F o=some (.sub s ps (lo'.getD 0) (hi'.getD l.length-lo'.getD 0)):=by
 have hp:0<k:=Apq hp;unfold valC;simp only [ho,hx,h1,h2,sliceD,ht,hg,List.length_map,hs,Ave hk];simp [h3,h4,hp]
theorem Amr {z:D} (ho:o.op=.call { callee:=.builtin .append,args:=#[x,y],argTypes:=#[t,u] }) (hu:rowT E.P u=true) (ht:sliceT E.P t=some et) (hz:zeroT E.P et=some z) (hzl:z.cells.length=k) (hx:takeOp E F x=some (.own (l.map e),F1)) (hy:newElems E F1 y=some (m.map e,F2)) (hs:sizeT E.P et=k) (hp:Nat.blt 0 k=true) (hb:bytesT E.P et=c) (hbp:Nat.blt 0 c=true) (hk:∀ x,(e x).length=k)
  (hl:(l.length+m.length)*c<=140737488355328):opC E f V call F o=some (fin F2 o.dst (.own ((l++m).map e))):=by
 have hp:0<k:=Apq hp;have hbp:0<c:=Apq hbp;have h2:l.length+m.length<=9223372036854775807:=Nat.le_trans (Nat.le_mul_of_pos_right _ hbp) (Nat.le_trans hl (by decide));unfold opC;simp only [ho,builtinC,hu,if_true,appendC,ht,hz,hx,hy,hb,hs,hzl,List.length_map,List.map_append];have h3:∀ (l:List α),((l.map e).all fun c=>c.length == k)=true:=by intro l;simp [List.all_eq_true,hk]
 rw [if_pos ⟨hl,h2,trivial,hp,h3 l,h3 m⟩]
theorem Avy {t:Nat} (hx:opd E F (.tmp t)=some (.alias s ps)) (hg:getAt F s ps=some (.own (l.map e))) (hn:∀ x,(e x).any ex1=false):newElems E F (.tmp t)=some (l.map e,F):=by
 unfold newElems;have:((l.map e).any fun c=>c.any ex1)=false:=by simp [List.any_eq_false,hn]
 simp only [hx,hg,this,Bool.false_eq_true,if_false]
theorem Aux {y:Operand} {off len:Nat} (hx:opd E F y=some (.sub s ps off len)) (hg:elemsOf F (.sub s ps off len)=some (l.map e)) (hn:∀ x,(e x).any ex1=false):newElems E F y=some (l.map e,F):=by
 unfold newElems;have:((l.map e).any fun c=>c.any ex1)=false:=by simp [List.any_eq_false,hn]
 simp only [hx,hg,this,Bool.false_eq_true,if_false]
theorem map_set {α:Type} {e:Enc α} {l:List α} {n:Nat} {a:α}:(l.set n a).map e=(l.map e).set n (e a):=by simp [List.map_set]
theorem Bb7 (ho:o.op=.store t x y) (hy:takeOp E F y=some (d,F1)) (hx:opd E F1 x=some (.place s ps n c)) (hg:getAt F1 s ps=some (.own (l.map e))) (h:l[n]? = some a) (hi:(E.P.info? t).isSome=true) (hs:sizeT E.P t=k) (hl:d.cells.length=k) (hk:Nat.ble (c+k) (e a).length=true)
  (hb:(e a).take c++d.cells++(e a).drop (c+k)=e b) (hset:setAt F1 s ps (.own ((l.set n b).map e))=some F2) :
  opC E f V call F o=some (fin (if (((e a).drop c).take k).any node1 then killF (deadCells s ps n c k) F2 else F2) o.dst (.tup [])):=by
 have hk:c+k<=(e a).length:=Nat.le_of_ble_eq_true hk;unfold opC;simp only [ho,hi,if_true,hy,hx,storeD,ptrOf,hg,D.elem,Aib h,hs,hl,hk,and_self,D.setElem,hb,← map_set,hset,Option.map_some]
def Atu (E:Env) (F:Fr) (y:Operand):Fr:=match takeOp E F y with
 | some (_,F1)=>F1
 | none=>[]
def newF (E:Env) (F:Fr) (y:Operand):Fr:=match newElems E F y with
 | some (_,F1)=>F1
 | none=>[]
theorem app3 {z:D} (ho:o.op=.call { callee:=.builtin .append,args:=#[x,y],argTypes:=#[t,u] }) (hu:rowT E.P u=true) (ht:sliceT E.P t=some et) (hz:zeroT E.P et=some z) (hzl:z.cells.length=k) (hx:takeOp E F x=some (.own (l.map e),Atu E F x)) (hy:newElems E (Atu E F x) y=some (m.map e,Atu E F x)) (hs:sizeT E.P et=k) (hp:Nat.blt 0 k=true) (hb:bytesT E.P et=c) (hbp:Nat.blt 0 c=true) (hk:∀ x,(e x).length=k)
  (hl:(l.length+m.length)*c<=140737488355328):opC E f V call F o=some (fin (Atu E F x) o.dst (.own ((l++m).map e))):=
 Amr ho hu ht hz hzl hx hy hs hp hb hbp hk hl
def Fzn {α β:Type} (e:Enc α) (g:α->β) (e':Enc β):Prop:=∀ x,freezeCs (e x)=some (e' (g x))
theorem Amk {e:Enc α} {g:α->β} {e':Enc β} (h:Fzn e g e'):∀ (l:List α),freezeEs (l.map e)=some ((l.map g).map e')
 | []=>rfl
 | a::l=>by simp only [List.map_cons,freezeEs,h a,Amk h l]
theorem Ab6 {e:Enc α} {e':Enc α} (h:Fzn e id e') (l:List α):(D.own (l.map e)).freeze=some (.sl (l.map e')):=by
 simp only [D.freeze,Amk h,Option.map_some,List.map_id]
theorem Fzn.ow {e e':Enc α} (h:Fzn e id e'):Fzn (eOw e) id (eSl e'):=fun l=>by
 simp only [eOw,freezeCs,Ab6 h l,eSl,id]
theorem Anz {e e':Enc α} (h:Fzn e id e') (hg:getAt F s ps=some (.own (l.map e))):snapD F (.alias s ps)=some (.sl (l.map e')):=by
 simp only [snapD,snap1,freezeAt,hg,Ab6 h]
def Flt {α:Type} (e:Enc α):Prop:=∀ x,flatCs (e x)=true
theorem Aq1 {e:Enc α} (h:Flt e):∀ (l:List α),flatEs (l.map e)=true
 | []=>rfl
 | a::l=>by simp only [List.map_cons,flatEs,h a,Aq1 h l,Bool.and_self]
theorem Ab9 {e:Enc α} (h:Flt e):(D.own (l.map e)).flat=true:=by simp only [D.flat,Aq1 h]
theorem Flt.ow {e:Enc α} (h:Flt e):Flt (eOw e):=fun l=>by simp only [eOw,flatCs,Ab9 h,Bool.and_self]
def eMap {κ ν:Type} (ek:κ->Value) (ev:ν->D) (l:List (κ×ν)):D:=.map (l.map fun x=>(ek x.1,ev x.2))
def mget {κ ν:Type} [DecidableEq κ] (k:κ):List (κ×ν)->Option ν
 | []=>none
 | (k',v)::r=>if k=k' then some v else mget k r
def mset {κ ν:Type} [DecidableEq κ] (k:κ) (v:ν):List (κ×ν)->List (κ×ν)
 | []=>[(k,v)]
 | (k',v')::r=>if k=k' then (k',v)::r else (k',v')::mset k v r
section maps
variable {κ ν:Type} [DecidableEq κ] {ek:κ->Value} {ev:ν->D}
theorem Aut (hb:∀ a b,keyBeq (ek a) (ek b)=decide (a=b)) (k:κ):∀ (l:List (κ×ν)),look (ek k) (l.map fun x=>(ek x.1,ev x.2))=(mget k l).map ev
 | []=>rfl
 | (k',v)::r=>by
  simp only [List.map_cons,look,hb,mget,decide_eq_true_eq]
  split
  ·rfl
  ·exact Aut hb k r
theorem Awx (hb:∀ a b,keyBeq (ek a) (ek b)=decide (a=b)) (k:κ) (v:ν):∀ (l:List (κ×ν)),upd (ek k) (ev v) (l.map fun x=>(ek x.1,ev x.2))=(mset k v l).map fun x=>(ek x.1,ev x.2)
 | []=>rfl
 | (k',v')::r=>by
  simp only [List.map_cons,upd,hb,mset,decide_eq_true_eq]
  split
  ·rfl
  ·simp only [List.map_cons,Awx hb k v r]
omit [DecidableEq κ] in
theorem Asr {P:Program} {kt:Nat} (hk:∀ a,keyT P kt (ek a)=true) (l:List (κ×ν)):keysT P kt (l.map fun x=>(ek x.1,ev x.2))=true:=by
 simp [keysT,List.all_eq_true,hk]
variable {l:List (κ×ν)} {kv:κ} {v:ν} {kt vt:Nat} {z kd:D} {kx vx mx:Operand} {v0:ν}
theorem Avc (hb:∀ a b,keyBeq (ek a) (ek b)=decide (a=b)) (hk:∀ a,keyT E.P kt (ek a)=true) (ho:o.op=.lookup t x kx false) (hx:opd E F x=some (.alias s ps)) (hg:getAt F s ps=some (eMap ek ev l)) (hkx:opd E F kx=some kd) (hkd:keyOf kd=some (ek kv)) (ht:mapT E.P t=some (kt,vt)) (hz:zeroT E.P vt=some (ev v0)) (hze:(ev v0).excl=false) :
  valC E f call F o=some (ev ((mget kv l).getD v0)):=by
 unfold valC;simp only [ho,hx,hkx,lookupD,ht,hkd,hg,eMap,hz,hk,Asr hk,Aut hb,Bool.and_self,if_true,hze];cases mget kv l<;>rfl
theorem Av1 (hb:∀ a b,keyBeq (ek a) (ek b)=decide (a=b)) (hk:∀ a,keyT E.P kt (ek a)=true) (ho:o.op=.mapUpdate t mx kx vx) (hx:opd E F mx=some (.alias s ps)) (hg:getAt F s ps=some (eMap ek ev l)) (hkx:opd E F kx=some kd) (hkd:keyOf kd=some (ek kv)) (ht:mapT E.P t=some (kt,vt)) (hv:opd E F vx=some d) (hs:snapD F d=some (ev v)) (hf:(ev v).flat=true) (hset:setAt F s ps (eMap ek ev (mset kv v l))=some F1) :
  opC E f V call F o=some (fin F1 o.dst (.tup [])):=by
 unfold opC;simp only [ho,mapUpdateC,ht,hx,hkx,hv,hg,eMap,hkd,hs,hf,hk,Asr hk,Awx hb,Bool.and_self,if_true];simp only [eMap] at hset;rw [hset];rfl
end maps
def Ajl {κ ν:Type} [DecidableEq κ] (k:κ) (l:List (κ×ν)) (z:ν):ν:=(mget k l).getD z
def bAnd (k:IntKind) (a b:Int):Int:=k.wrap (BitVec.ofInt k.bits a &&& BitVec.ofInt k.bits b).toNat
def bXor (k:IntKind) (a b:Int):Int:=k.wrap (BitVec.ofInt k.bits a ^^^ BitVec.ofInt k.bits b).toNat
def shlw (k:IntKind) (a b:Int):Int:=k.wrap (a*2^(min b.toNat k.bits))
def shrw (k:IntKind) (a b:Int):Int:=a.fdiv (2^(min b.toNat k.bits))
def Ajb (b:ByteArray):Int:=b.size
def u8i (b:UInt8):Int:=b.toNat
theorem Bdt {op:BinOp} {tx ty:Nat} {d1 d2:D} (ho:o.op=.binOp op tx x y ty) (hx:opd E F x=some d1) (hy:opd E F y=some d2) (h:binD E op tx d1 d2=some d):valC E f call F o=some d:=by
 unfold valC;simp only [ho,hx,hy,h]
theorem Awd {i1 i2:Int} (h:i2≠0):binD E .rem t (.lit (.int q i1)) (.lit (.int q i2))=some (.lit (.int q (i1.tmod i2))):=by
 simp [binD,binV,h]
theorem Bby {q':IntKind} {i1 i2:Int} (h:0<=i2):binD E .shl t (.lit (.int q i1)) (.lit (.int q' i2))=some (.lit (.int q (q.wrap (i1*2^(min i2.toNat q.bits))))):=by
 have:¬ i2<0:=by omega
 simp [binD,binV,this]
theorem Bbz {q':IntKind} {i1 i2:Int} (h:0<=i2):binD E .shr t (.lit (.int q i1)) (.lit (.int q' i2))=some (.lit (.int q (i1.fdiv (2^(min i2.toNat q.bits))))):=by
 have:¬ i2<0:=by omega
 simp [binD,binV,this]
theorem Ba5 {s1:ByteArray} {b1:UInt8} (ho:o.op=.index t x ix) (hx:opd E F x=some (.lit (.string s1))) (hix:opd E F ix=some (.lit (.int q i))) (ht:E.P.underlying t=some .string) (h0:0<=i) (h:s1[i.toNat]? = some b1):valC E f call F o=some (.lit (.int .u8 b1.toNat)):=by
 unfold valC;simp only [ho,hx,hix,Option.bind_some,Ag4 h0,ht,h,Option.map_some]
end
end Go.Own
