/- An interpreter of function bodies, sound. No conditions. -/
import Derived.Test.YtockohmmmlhhfabGreatDoorOwn14
set_option linter.all false
namespace Go.Own
open D
def Less (A B:Fr):Prop:=∀ s,Abt (get A s)=true∨get B s=get A s
def Seen (A:Fr) (x:Operand):Prop:=∀ t,x=.tmp t->Abt (get A t)=false
theorem Ac7 {d:D}:Abt d=true↔d=.undef:=by cases d<;>simp [Abt]
section
variable {E:Env} {A B:Fr}
theorem Less.seen (h:Less A B) {x:Operand} (hx:Seen A x) {t:Nat} (ht:x=.tmp t):get B t=get A t:=by
 rcases h t with h | h
 ·rw [hx t ht] at h;cases h
 ·exact h
theorem Aaf (h:Less A B) {x:Operand} (hx:Seen A x):opd E B x=opd E A x:=by
 cases x with
 | tmp t=>simp only [opd,h.seen hx rfl]
 | _=>rfl
theorem Aal (h:Less A B) {s:Nat} {ps:Path} {c:D} (hc:getAt A s ps=some c) (hn:c≠.undef):getAt B s ps=some c:=by
 unfold getAt at hc ⊢;rcases h s with h | h
 ·rw [Ac7] at h;rw [h] at hc;cases ps with
  | nil=>simp only [D.getP,zJ] at hc;exact absurd hc.symm hn
  | cons p ps=>obtain ⟨i,o⟩:=p;simp [D.getP,D.elem] at hc
 ·rw [h];exact hc
theorem Agj (h:Less A B) {d:D} {p:Ptr} (hp:ptrOf A d=some p):ptrOf B d=some p:=by
 cases d with
 | alias s ps=>
  simp only [ptrOf] at hp ⊢
  split at hp
  ·rename_i hg;rw [Aal h hg (by simp)];exact hp
  ·rename_i hg;rw [Aal h hg (by simp)];exact hp
  ·cases hp
 | _=>exact hp
theorem Aev (h:Less A B) {d:D} {es:List (List D)} (hp:elemsOf A d=some es):elemsOf B d=some es:=by
 cases d with
 | alias s ps=>
  simp only [elemsOf] at hp ⊢
  split at hp
  ·rename_i hg;rw [Aal h hg (by simp)];exact hp
  ·rename_i hg;rw [Aal h hg (by simp)];exact hp
  ·cases hp
 | sub s ps i k=>
  simp only [elemsOf] at hp ⊢
  split at hp
  ·rename_i hg;rw [Aal h hg (by simp)];exact hp
  ·rename_i hg;rw [Aal h hg (by simp)];exact hp
  ·cases hp
 | _=>exact hp
theorem Axq (h:Less A B) {t:Nat} {x d:D} (hp:loadD E A t x=some d):loadD E B t x=some d:=by
 unfold loadD at hp ⊢
 split at hp
 ·cases hp
 ·rename_i hu;rw [if_neg hu]
  split at hp
  ·rename_i cs hq;rw [Agj h hq];exact hp
  ·rename_i s ps i o hq;rw [Agj h hq]
   try simp only
   split at hp
   ·rename_i nd hg;rw [Aal h hg (by rintro rfl;simp [D.elem] at hp)];exact hp
   ·cases hp
  ·cases hp
theorem Aq8 (h:Less A B) {t:Nat} {x i d:D} (hp:indexAddrD E A t x i=some d):indexAddrD E B t x i=some d:=by
 unfold indexAddrD at hp ⊢
 split at hp
 ·cases hp
 ·rename_i k hk
  try simp only
  split at hp
  ·rename_i e he
   try simp only
   split at hp
   ·exact hp
   ·rename_i s ps
    try simp only
    split at hp
    ·rename_i es hg;rw [Aal h hg (by simp)];exact hp
    ·rename_i es hg;rw [Aal h hg (by simp)];exact hp
    ·cases hp
   ·rename_i s ps off len
    try simp only
    split at hp
    ·rename_i hl;rw [if_pos hl]
     split at hp
     ·rename_i es hg;rw [Aal h hg (by simp)];exact hp
     ·rename_i es hg;rw [Aal h hg (by simp)];exact hp
     ·cases hp
    ·cases hp
   ·cases hp
  ·rename_i he
   try simp only
   split at hp
   ·rename_i m e ha
    try simp only
    split at hp
    ·rename_i hm;rw [if_pos hm]
     split at hp
     ·cases hp
     ·rename_i hz;rw [if_neg hz]
      split at hp
      ·rename_i hq;rw [Agj h hq];exact hp
      ·rename_i hq;rw [Agj h hq];exact hp
      ·cases hp
    ·cases hp
   ·cases hp
theorem Aze (h:Less A B) {t:Nat} {x d:D} (hp:lenD E A t x=some d):lenD E B t x=some d:=by
 unfold lenD at hp ⊢
 split at hp
 ·exact hp
 ·exact hp
 ·simp only [Option.map_eq_some_iff] at hp ⊢;obtain ⟨es,he,hh⟩:=hp;exact ⟨es,Aev h he,hh⟩
 ·rename_i s ps
  try simp only
  split at hp
  ·rename_i hg;rw [Aal h hg (by simp)];exact hp
  ·cases hp
 ·cases hp
theorem Atd (h:Less A B) {s t:Nat} {x d:D} (hp:convertD E A s t x=some d):convertD E B s t x=some d:=by
 unfold convertD at hp ⊢
 split at hp
 ·exact hp
 ·exact hp
 ·exact hp
 ·exact hp
 ·rename_i e _ _
  try simp only
  split at hp
  ·rename_i es he hes;rw [Aev h hes,he];exact hp
  ·cases hp
 ·cases hp
theorem Aw4 (h:Less A B) {t:Nat} {x d:D} {l hh:Option Nat} (hp:sliceD E A t x l hh=some d):sliceD E B t x l hh=some d:=by
 unfold sliceD at hp ⊢
 split at hp
 ·exact hp
 ·exact hp
 ·try simp only
  split at hp
  ·rename_i e es he hes;rw [Aev h hes,he];exact hp
  ·cases hp
 ·try simp only
  split at hp
  ·rename_i e es he hes;rw [Aev h hes,he];exact hp
  ·cases hp
 ·cases hp
theorem Auu (h:Less A B) {t:Nat} {x k d:D} {ok:Bool} (hp:lookupD E A t x k ok=some d):lookupD E B t x k ok=some d:=by
 unfold lookupD at hp ⊢
 split at hp
 ·try simp only
  split at hp
  ·rename_i es z hg hz;rw [Aal h hg (by simp),hz];exact hp
  ·cases hp
 ·cases hp
theorem Apr (h:Less A B):∀ {xs:List Operand},(∀ x∈xs,Seen A x)->capsD E B xs=capsD E A xs
 | [],_=>rfl
 | x::xs,hs=>by
  simp only [capsD];rw [Aaf h (hs x (by simp)),Apr h (fun y hy=>hs y (by simp [hy]))]
theorem Ahr (h:Less A B) {s:Nat} {ps:Path} {d:D} (hp:freezeAt A s ps=some d):freezeAt B s ps=some d:=by
 unfold freezeAt at hp ⊢
 split at hp
 ·rename_i c hg;rw [Aal h hg (by rintro rfl;simp [D.freeze] at hp)];exact hp
 ·cases hp
theorem Aqz (h:Less A B) {d d':D} (hp:snap1 A d=some d'):snap1 B d=some d':=by
 cases d with
 | alias s ps=>exact Ahr h hp
 | sub s ps i k=>
  simp only [snap1] at hp ⊢;cases hf:freezeAt A s ps with
  | none=>simp [hf] at hp
  | some x=>rw [hf] at hp;rw [Ahr h hf];exact hp
 | place s ps i k=>
  simp only [snap1] at hp ⊢;cases hf:freezeAt A s ps with
  | none=>simp [hf] at hp
  | some x=>rw [hf] at hp;rw [Ahr h hf];exact hp
 | _=>exact hp
theorem Ak4 (h:Less A B):∀ {cs ds:List D},snaps1 A cs=some ds->snaps1 B cs=some ds
 | [],_,hp=>hp
 | c::cs,ds,hp=>by
  simp only [snaps1] at hp ⊢
  split at hp
  ·rename_i c' cs' h1 h2;rw [Aqz h h1,Ak4 h h2];exact hp
  ·cases hp
theorem Ay8 (h:Less A B) {d d':D} (hp:snapD A d=some d'):snapD B d=some d':=by
 have one:∀ c,(∀ F,snapD F c=snap1 F c)->snapD A c=some d'->snapD B c=some d':=fun c e hc=>by
  rw [e] at hc ⊢;exact Aqz h hc
 cases d with
 | agg cs=>
  simp only [snapD,Option.map_eq_some_iff] at hp ⊢;obtain ⟨cs',h1,h2⟩:=hp;exact ⟨cs',Ak4 h h1,h2⟩
 | fn f cs=>
  simp only [snapD,Option.map_eq_some_iff] at hp ⊢;obtain ⟨cs',h1,h2⟩:=hp;exact ⟨cs',Ak4 h h1,h2⟩
 | _=>exact one _ (fun _=>rfl) hp
theorem Asp (h:Less A B) {d:D} (hp:imm1 A d=true):imm1 B d=true:=by
 cases d with
 | alias s ps=>
  simp only [imm1] at hp ⊢
  split at hp
  ·rename_i hg;rw [Aal h hg (by simp)]
  ·rename_i hg;rw [Aal h hg (by simp)]
  ·cases hp
 | sub s ps i k=>
  simp only [imm1] at hp ⊢
  split at hp
  ·rename_i hg;rw [Aal h hg (by simp)]
  ·rename_i hg;rw [Aal h hg (by simp)]
  ·cases hp
 | _=>exact hp
theorem Aza (h:Less A B) {d:D} (hp:immD A d=true):immD B d=true:=by
 have l:∀ {cs:List D},cs.all (imm1 A)=true->cs.all (imm1 B)=true:=fun hc=>by
  rw [List.all_eq_true] at hc ⊢;exact fun x hx=>Asp h (hc x hx)
 have one:∀ c,(∀ F,immD F c=imm1 F c)->immD A c=true->immD B c=true:=fun c e hc=>by
  rw [e] at hc ⊢;exact Asp h hc
 cases d with
 | agg cs=>exact l hp
 | fn f cs=>exact l hp
 | _=>exact one _ (fun _=>rfl) hp
theorem Ajy (h:Less A B) {x:Operand} (hx:Seen A x) {d:D} (hp:Adk E A x=some d):Adk E B x=some d:=by
 cases x with
 | tmp t=>
  simp only [Adk,h.seen hx rfl] at hp ⊢
  split at hp
  ·exact hp
  ·exact hp
  ·exact hp
  ·exact hp
  ·exact hp
  ·rename_i s ps hg
   try simp only
   split at hp
   ·rename_i hg;rw [Aal h hg (by simp)];exact hp
   ·rename_i hg;rw [Aal h hg (by simp)];exact hp
   ·cases hp
  ·cases hp
 | _=>exact hp
theorem Agd (h:Less A B):∀ {ps:List (Nat×Operand)} {ds:List (Nat×D)},(∀ p∈ps,Seen A p.2)->Abv E A ps=some ds->Abv E B ps=some ds
 | [],_,_,hp=>hp
 | (i,x)::ps,ds,hs,hp=>by
  simp only [Abv] at hp ⊢
  split at hp
  ·rename_i d ds' h1 h2;rw [Ajy h (hs (i,x) (by simp)) h1,Agd h (fun p hp=>hs p (by simp [hp])) h2];exact hp
  ·cases hp
theorem As1 (h:Less A B) {c:Operand} (hc:Seen A c) {b:Arg} (hb:∀ x,b=.opn x->Seen A x):argD E B c b=argD E A c b:=by
 cases b with
 | opn x=>exact Aaf (E:=E) h (hb x rfl)
 | cap j=>simp only [argD,capsOf,Aaf h hc]
theorem Am1 (h:Less A B) {f:Nat} {c:Operand} (hc:Seen A c) {l:Option D}:∀ {bs:List Arg} {i:Nat} {ms:List (Option D)} {ds:List D},(∀ b∈bs,∀ x,b=.opn x->Seen A x)->passRest E f A A c l i bs ms=some ds->passRest E f B B c l i bs ms=some ds
 | [],i,ms,ds,_,hp=>by cases ms<;>exact hp
 | b::bs,i,[],ds,_,hp=>by simp [passRest] at hp
 | b::bs,i,m::ms,ds,hb,hp=>by
  simp only [passRest] at hp ⊢;rw [As1 h hc (hb b (by simp))]
  split at hp
  ·rename_i d ds' h1 h2;rw [Am1 h hc (fun y hy=>hb y (by simp [hy])) h2];have:restOne m (E.mode f i) l ((argD E A c b).bind (snapD B))=some d:=by
    cases m with
    | some x=>exact h1
    | none=>
     cases hm:E.mode f i with
     | inout=>rw [hm] at h1;exact h1
     | move=>rw [hm] at h1;exact h1
     | snap=>
      rw [hm] at h1;simp only [restOne] at h1 ⊢;cases ha:argD E A c b with
      | none=>simp [ha] at h1
      | some x=>rw [ha] at h1;exact Ay8 h h1
   rw [this];exact hp
  ·cases hp
theorem Am3 (h:Less A B) {f:Nat} {c:Operand} (hc:Seen A c):∀ {bs:List Arg} {i:Nat},(∀ b∈bs,∀ x,b=.opn x->Seen A x)->snapSrcs E f B c i bs=snapSrcs E f A c i bs
 | [],_,_=>rfl
 | b::bs,i,hb=>by
  simp only [snapSrcs];rw [As1 h hc (hb b (by simp)),Am3 h hc (fun y hy=>hb y (by simp [hy]))]
theorem Ba4 {f:Nat} {call:Nat->List D->Option (D×List D)} (h:Less A B) {o:Oper} (hs:∀ x∈o.op.operands.toList,Seen A x) {d:D} (hv:valC E f call A o=some d):valC E f call B o=some d:=by
 unfold valC at hv ⊢;cases hq:o.op with
 | move x=>
  rw [hq] at hv hs;have hx:=hs x (by simp [Op.operands]);simp only at hv ⊢;cases x with
  | tmp t=>simp only [h.seen hx rfl,opd] at hv ⊢;exact hv
  | _=>exact hv
 | assign x=>
  rw [hq] at hv hs;have hx:=hs x (by simp [Op.operands]);simp only at hv ⊢;cases x with
  | tmp t=>simp only [h.seen hx rfl] at hv ⊢;exact hv
  | _=>exact hv
 | pick c x y=>
  rw [hq] at hv hs;simp only [Aaf h (hs c (by simp [Op.operands])),Aaf h (hs x (by simp [Op.operands])),Aaf h (hs y (by simp [Op.operands]))] at hv ⊢
  split at hv
  ·rename_i t ht;cases t
   ·simp only [Bool.false_eq_true,if_false] at hv ⊢;rw [Aaf h (hs y (by simp [Op.operands]))];exact hv
   ·simp only [if_true] at hv ⊢;rw [Aaf h (hs x (by simp [Op.operands]))];exact hv
  ·cases hv
 | alloc t=>rw [hq] at hv;exact hv
 | box t x=>
  rw [hq] at hv hs;simp only at hv ⊢;cases hg:Adk E A x with
  | none=>simp [hg] at hv
  | some d'=>rw [hg] at hv;rw [Ajy h (hs x (by simp [Op.operands])) hg];exact hv
 | build t ps=>
  rw [hq] at hv hs;simp only at hv ⊢;have hsp:∀ p∈ps.toList,Seen A p.2:=fun p hp=>hs p.2 (by simp only [Op.operands,List.toList_toArray];exact List.mem_map.2 ⟨p,hp,rfl⟩);cases hz:zeroT E.P t with
  | none=>simp [hz] at hv
  | some z=>
   cases hp:Abv E A ps.toList with
   | none=>simp [hz,hp] at hv
   | some ds=>rw [hz,hp] at hv;rw [Agd h hsp hp];exact hv
 | buildSlice t m ps=>
  rw [hq] at hv hs;simp only at hv ⊢;have hsp:∀ p∈ps.toList,Seen A p.2:=fun p hp=>hs p.2 (by simp only [Op.operands,List.toList_toArray];exact List.mem_map.2 ⟨p,hp,rfl⟩);cases hsl:sliceT E.P t with
  | none=>simp [hsl] at hv
  | some e=>
   simp only [hsl] at hv ⊢;cases hz:zeroT E.P e with
   | none=>simp [hz] at hv
   | some z=>
    cases hp:Abv E A ps.toList with
    | none=>simp [hz,hp] at hv
    | some ds=>rw [hz,hp] at hv;rw [Agd h hsp hp];exact hv
 | load t x=>
  rw [hq] at hv hs;simp only [Aaf h (hs x (by simp [Op.operands]))] at hv ⊢;cases ho:opd E A x with
  | none=>simp [ho] at hv
  | some d1=>simp only [ho] at hv ⊢;exact Axq h hv
 | nilCheck x=>
  rw [hq] at hv hs;simp only [Aaf h (hs x (by simp [Op.operands]))] at hv ⊢
  split at hv
  ·try simp only
   split at hv
   ·rename_i hg;rw [Aal h hg (by simp)];exact hv
   ·rename_i hg;rw [Aal h hg (by simp)];exact hv
   ·cases hv
  ·exact hv
  ·exact hv
  ·cases hv
 | binOp op t x y yt=>
  rw [hq] at hv hs;simp only [Aaf h (hs x (by simp [Op.operands])),Aaf h (hs y (by simp [Op.operands]))] at hv ⊢;exact hv
 | unOp op t x=>
  rw [hq] at hv hs;simp only [Aaf h (hs x (by simp [Op.operands]))] at hv ⊢;exact hv
 | convert s t x=>
  rw [hq] at hv hs;simp only [Aaf h (hs x (by simp [Op.operands]))] at hv ⊢;cases ho:opd E A x with
  | none=>simp [ho] at hv
  | some d1=>simp only [ho] at hv ⊢;exact Atd h hv
 | makeFunc fn first caps=>
  rw [hq] at hv hs;cases fn with
  | func g=>
   simp only at hv ⊢;rw [Apr h (fun x hx=>hs x (by simp [Op.operands];right;simpa using hx))];exact hv
  | _=>cases hv
 | makeMap t r=>rw [hq] at hv;cases r<;>exact hv
 | makeSlice t l c=>
  rw [hq] at hv hs;simp only [Aaf h (hs l (by simp [Op.operands])),Aaf h (hs c (by simp [Op.operands]))] at hv ⊢;exact hv
 | slice t x lo hi mx=>
  rw [hq] at hv hs;cases mx with
  | some m=>cases hv
  | none=>
   have ol:optNat E B lo=optNat E A lo:=by
    cases lo with
    | none=>rfl
    | some y=>simp only [optNat,Aaf h (hs y (by simp [Op.operands]))]
   have oh:optNat E B hi=optNat E A hi:=by
    cases hi with
    | none=>rfl
    | some y=>simp only [optNat,Aaf h (hs y (by simp [Op.operands]))]
   simp only [Aaf h (hs x (by simp [Op.operands])),ol,oh] at hv ⊢;cases ho:opd E A x with
   | none=>simp [ho] at hv
   | some d1=>
    cases hl:optNat E A lo with
    | none=>simp [ho,hl] at hv
    | some l=>
     cases hh:optNat E A hi with
     | none=>simp [ho,hl,hh] at hv
     | some hi'=>simp only [ho,hl,hh] at hv ⊢;exact Aw4 h hv
 | fieldAddr t x j=>
  rw [hq] at hv hs;simp only [Aaf h (hs x (by simp [Op.operands]))] at hv ⊢;cases hf:fieldT E.P t j with
  | none=>simp [hf] at hv
  | some fd=>
   cases ho:opd E A x with
   | none=>simp [hf,ho] at hv
   | some d1=>
    cases hp:ptrOf A d1 with
    | none=>simp [hf,ho,hp] at hv
    | some p=>simp only [hf,ho,Option.bind_some,hp,Agj h hp] at hv ⊢;exact hv
 | field t x j=>
  rw [hq] at hv hs;simp only [Aaf h (hs x (by simp [Op.operands]))] at hv ⊢;exact hv
 | indexAddr t x ix=>
  rw [hq] at hv hs;simp only [Aaf h (hs x (by simp [Op.operands])),Aaf h (hs ix (by simp [Op.operands]))] at hv ⊢;cases ho:opd E A x with
  | none=>simp [ho] at hv
  | some d1=>
   cases ho2:opd E A ix with
   | none=>simp [ho,ho2] at hv
   | some d2=>simp only [ho,ho2] at hv ⊢;exact Aq8 h hv
 | index t x ix=>
  rw [hq] at hv hs;simp only [Aaf h (hs x (by simp [Op.operands])),Aaf h (hs ix (by simp [Op.operands]))] at hv ⊢;exact hv
 | lookup t x k ok=>
  rw [hq] at hv hs;simp only [Aaf h (hs x (by simp [Op.operands])),Aaf h (hs k (by simp [Op.operands]))] at hv ⊢;cases ho:opd E A x with
  | none=>simp [ho] at hv
  | some d1=>
   cases ho2:opd E A k with
   | none=>simp [ho,ho2] at hv
   | some d2=>simp only [ho,ho2] at hv ⊢;exact Auu h hv
 | extract x i=>
  rw [hq] at hv hs;have hx:=hs x (by simp [Op.operands]);cases x with
  | tmp t=>simp only [h.seen hx rfl] at hv ⊢;exact hv
  | _=>cases hv
 | call c=>
  rw [hq] at hv hs;simp only at hv ⊢;have hargs:∀ x∈c.args.toList,Seen A x:=fun x hx'=>hs x (by simp [Op.operands,Call.operands];right;simpa using hx');cases hc:c.callee with
  | invoke=>rw [hc] at hv;cases hv
  | value x=>
   rw [hc] at hv;have hx:Seen A x:=hs x (by simp [Op.operands,Call.operands,hc]);simp only [Aaf h hx] at hv ⊢;cases ho:opd E A x with
   | none=>simp [ho] at hv
   | some dx=>
    cases dx with
    | fn g caps=>
     simp only [ho] at hv ⊢
     split at hv
     ·rename_i hso;simp only [hso,if_true];have hbs:∀ b∈argsOf c.args.toList caps.length,∀ y,b=.opn y->Seen A y:=fun b hb y hy=>by
       subst hy;simp only [argsOf,List.mem_append,List.mem_map,Arg.opn.injEq,exists_eq_right,reduceCtorEq,and_false,exists_false,or_false] at hb;exact hargs y hb
      cases hp:passRest E g A A x none 0 (argsOf c.args.toList caps.length) ((argsOf c.args.toList caps.length).map fun _=>none) with
      | none=>simp [hp] at hv
      | some ds=>
       simp only [hp] at hv;simp only [Am1 h hx hbs hp,Am3 h hx hbs]
       split at hv
       ·rename_i r hcl
        split at hv
        ·rename_i hf;have:(r.flatR || (snapSrcs E g A x 0 (argsOf c.args.toList caps.length)).all (immD B))=true:=by
          simp only [Bool.or_eq_true] at hf ⊢;rcases hf with hf | hf
          ·exact .inl hf
          ·right;rw [List.all_eq_true] at hf ⊢;exact fun y hy=>Aza h (hf y hy)
         simp only [this,if_true];exact hv
        ·cases hv
       ·cases hv
     ·cases hv
    | _=>simp [ho] at hv
  | builtin b=>
   rw [hc] at hv
   try simp only at hv ⊢
   cases b with
   | len=>
    simp only at hv ⊢
    split at hv
    ·rename_i x t ts hb2 hb3;simp only [Aaf h (hargs x (by rw [hb2];simp))] at hv ⊢;cases ho:opd E A x with
     | none=>simp [ho] at hv
     | some d1=>simp only [ho] at hv ⊢;exact Aze h hv
    ·cases hv
   | max=>
    simp only at hv ⊢
    split at hv
    ·rename_i x y hb2;simp only [Aaf h (hargs x (by rw [hb2];simp)),Aaf h (hargs y (by rw [hb2];simp))] at hv ⊢;exact hv
    ·cases hv
   | min=>
    simp only at hv ⊢
    split at hv
    ·rename_i x y hb2;simp only [Aaf h (hargs x (by rw [hb2];simp)),Aaf h (hargs y (by rw [hb2];simp))] at hv ⊢;exact hv
    ·cases hv
   | _=>cases hv
 | _=>rw [hq] at hv;cases hv
theorem Agm {ops:Array Oper} {o:Oper} (h:Abi ops A o=true):(∀ x∈o.op.operands.toList,Seen A x)/\∀ t∈Agx ops o,Abt (get A t)=false:=by
 unfold Abi at h;rw [List.all_eq_true] at h;refine ⟨fun x hx t ht=>?_,fun t ht=>?_⟩
 ·have:=h t (List.mem_append_left _ (by unfold Abe;rw [List.mem_filterMap];exact ⟨x,hx,by rw [ht]⟩));simpa using this
 ·have:=h t (List.mem_append_right _ ht);simpa using this
theorem Anb (h:Less A B) {ops:Array Oper} {o:Oper} (hs:∀ t∈Agx ops o,Abt (get A t)=false):wantedD ops B o=wantedD ops A o:=by
 unfold wantedD;cases hg:o.guard with
 | none=>rfl
 | some q=>
  obtain ⟨j,b⟩:=q
  try simp only
  cases ht:(ops[j]?).bind (·.dst) with
  | none=>rfl
  | some t=>
   have:get B t=get A t:=by
    rcases h t with h | h
    ·rw [hs t (by unfold Agx;simp [hg,ht])] at h;cases h
    ·exact h
   simp only [this]
theorem Afd {f:Nat} {call:Nat->List D->Option (D×List D)} (h:Less A B) {ops:Array Oper} {o:Oper} (hs:Abi ops A o=true) {d:D} (hv:Aak E f call ops A o=some d):Aak E f call ops B o=some d:=by
 obtain ⟨h1,h2⟩:=Agm hs;unfold Aak at hv ⊢;rw [Anb h h2]
 split at hv
 ·exact Ba4 h h1 hv
 ·exact hv
 ·cases hv
end
end Go.Own
namespace Go.Own
open D
abbrev Pts:=List (Nat×D)
abbrev Rs:=List (Nat×Pts)
def appL (L:Nat->Bool):Rs->Fr->Fr
 | [],F=>F
 | (i,p)::r,F=>appL L r (if L i then putsF p F else F)
def Aad (F:Fr) (t:Nat):Bool:=F.any fun x=>x.1 == t
def Aaj (F:Fr):List Nat:=F.map (·.1)
theorem Adu (F:Fr) (s t:Nat) (d:D) (h:Aad F t=true):Aad (put0 F s d) t=true:=by
 induction F with
 | nil=>simp [Aad] at h
 | cons x r ih=>
  simp only [put0]
  split
  ·rename_i hk;subst hk;simpa [Aad] using h
  ·simp only [Aad,List.any_cons,Bool.or_eq_true] at h ⊢;rcases h with h | h
   ·exact .inl h
   ·exact .inr (ih h)
theorem At1:∀ (F:Fr) {s t:Nat} (d e:D),s≠t->Aad F s=true->Aad F t=true->put0 (put0 F s d) t e=put0 (put0 F t e) s d
 | [],s,t,d,e,_,h,_=>by simp [Aad] at h
 | (k,x)::r,s,t,d,e,hst,h1,h2=>by
  by_cases hs:k=s
  ·subst hs;have ht:k≠t:=hst;simp [put0,ht]
  ·by_cases ht:k=t
   ·subst ht;simp [put0,hs]
   ·have h1':Aad r s=true:=by simpa [Aad,hs] using h1
    have h2':Aad r t=true:=by simpa [Aad,ht] using h2
    simp only [put0,hs,ht,if_false,At1 r d e hst h1' h2']
theorem Aih {F:Fr} {t:Option Nat} {d:D} (s:Nat):get (set0 F t d) s=if t=some s then d else get F s:=by
 cases t with
 | none=>simp [set0]
 | some t=>
  simp only [set0];by_cases h:t=s
  ·subst h;simp [get_put0_same]
  ·simp [h,get_put0_other F d (Ne.symm h)]
theorem Aab {F:Fr} {s:Nat} {d:D} (q:Nat):get (put0 F s d) q=if s=q then d else get F q:=by
 have:=Aih (F:=F) (t:=some s) (d:=d) q;simpa [set0] using this
theorem Aq6 {F:Fr} {s:Nat} (h:get F s≠.undef):Aad F s=true:=by
 induction F with
 | nil=>exact absurd rfl h
 | cons x r ih=>
  obtain ⟨k,d⟩:=x;simp only [get] at h;simp only [Aad,List.any_cons,Bool.or_eq_true,beq_iff_eq]
  split at h
  ·rename_i hk;exact .inl hk
  ·exact .inr (ih h)
theorem Aex (hid:List Nat):∀ (F:Fr) (s:Nat),get (Ab0 hid F) s=if hid.contains s then .undef else get F s
 | [],s=>by simp [Ab0,get]
 | (k,d)::r,s=>by
  have ih:=Aex hid r s;simp only [Ab0,List.map_cons] at ih ⊢;by_cases hk:k=s
  ·subst hk
   split
   ·simp [get]
   ·simp [get]
  ·split<;>simp only [get,hk,if_false]<;>exact ih
def Aep:Pts->Nat->Option D
 | [],_=>none
 | (t,d)::r,s=>match Aep r s with
  | some e=>some e
  | none=>if t=s then some d else none
theorem Ae6:∀ {p:Pts} {F:Fr} (s:Nat),get (putsF p F) s=(Aep p s).getD (get F s)
 | [],_,_=>rfl
 | (t,d)::r,F,s=>by
  rw [putsF,Ae6,Aep];cases Aep r s with
  | some e=>rfl
  | none=>
   simp only [Option.getD_none];rw [Aab]
   split<;>rfl
theorem Agh:∀ {p:Pts} {s:Nat},hasP p s=false->Aep p s=none
 | [],_,_=>rfl
 | (t,d)::r,s,h=>by
  simp only [hasP,List.any_cons,Bool.or_eq_false_iff] at h;rw [Aep,Agh (p:=r) (by simpa [hasP] using h.2)];have:t≠s:=by simpa using h.1
  simp only [if_neg this]
theorem Aqi:∀ {p:Pts} {s:Nat},hasP p s=true->∃ d,Aep p s=some d
 | [],_,h=>by simp [hasP] at h
 | (t,d)::r,s,h=>by
  rw [Aep];cases hl:Aep r s with
  | some e=>exact ⟨e,rfl⟩
  | none=>
   simp only [hasP,List.any_cons,Bool.or_eq_true] at h;rcases h with h | h
   ·have:t=s:=by simpa using h
    exact ⟨d,by simp only [if_pos this]⟩
   ·obtain ⟨e,he⟩:=Aqi (p:=r) (s:=s) (by simpa [hasP] using h);rw [hl] at he;cases he
theorem Ab4 {p:Pts} {F:Fr} {s:Nat} (h:hasP p s=false):get (putsF p F) s=get F s:=by rw [Ae6,Agh h];rfl
theorem Ake {p:Pts} {F F':Fr} {s:Nat} (h:hasP p s=true):get (putsF p F) s=get (putsF p F') s:=by
 obtain ⟨d,hd⟩:=Aqi h;rw [Ae6,Ae6,hd];rfl
theorem Ae0:∀ {p:Pts} {F:Fr} {t:Nat},Aad F t=true->Aad (putsF p F) t=true
 | [],_,_,h=>h
 | (s,d)::r,F,t,h=>Ae0 (p:=r) (Adu F s t d h)
theorem Abs:∀ {F:Fr} {s:Nat} {d:D},Aad F s=true->Aaj (put0 F s d)=Aaj F
 | [],_,_,h=>by simp [Aad] at h
 | (k,x)::r,s,d,h=>by
  simp only [put0]
  split
  ·rename_i hk;subst hk;rfl
  ·rename_i hk;have:Aad r s=true:=by simpa [Aad,hk] using h
   show k::Aaj (put0 r s d)=k::Aaj r;rw [Abs this]
theorem Afk:∀ {p:Pts} {F:Fr},(∀ x∈p,Aad F x.1=true)->Aaj (putsF p F)=Aaj F
 | [],_,_=>rfl
 | (s,d)::r,F,h=>by
  rw [putsF,Afk (fun x hx=>Adu F s x.1 d (h x (by simp [hx]))),Abs (h (s,d) (by simp))]
theorem Aau {F:Fr} {s:Nat}:Aad F s=true↔s∈Aaj F:=by
 unfold Aad Aaj;simp only [List.any_eq_true,beq_iff_eq,List.mem_map]
theorem Ahi:∀ {A B:Fr},Aaj A=Aaj B->(Aaj A).Nodup->(∀ s,get A s=get B s)->A=B
 | [],[],_,_,_=>rfl
 | [],_::_,h,_,_=>by simp [Aaj] at h
 | _::_,[],h,_,_=>by simp [Aaj] at h
 | (k,x)::A,(k',y)::B,h,hn,hg=>by
  have h1:k=k'/\Aaj A=Aaj B:=by simpa [Aaj] using h
  obtain ⟨rfl,h2⟩:=h1;have hn':k ∉ Aaj A/\(Aaj A).Nodup:=by simpa [Aaj] using hn
  have hxy:x=y:=by have:=hg k;simpa [get] using this
  subst hxy;have:A=B:=Ahi h2 hn'.2 fun s=>by
   by_cases hs:k=s
   ·subst hs;have a1:get A k=.undef:=by
     false_or_by_contra
     rename_i hne;exact hn'.1 (Aau.1 (Aq6 hne))
    have a2:get B k=.undef:=by
     false_or_by_contra
     rename_i hne;exact hn'.1 (by rw [h2];exact Aau.1 (Aq6 hne))
    rw [a1,a2]
   ·have:=hg s;simpa [get,hs] using this
  rw [this]
theorem Aqr:∀ {q:Pts} {F:Fr} {s:Nat} {d:D},hasP q s=false->Aad F s=true->(∀ x∈q,Aad F x.1=true)->putsF q (put0 F s d)=put0 (putsF q F) s d
 | [],_,_,_,_,_,_=>rfl
 | (t,e)::r,F,s,d,h1,h2,h3=>by
  simp only [hasP,List.any_cons,Bool.or_eq_false_iff] at h1;have hts:t≠s:=by simpa using h1.1
  rw [putsF,putsF,At1 F d e (Ne.symm hts) h2 (h3 (t,e) (by simp))];exact Aqr (by simpa [hasP] using h1.2) (Adu F t s e h2) fun x hx=>Adu F t x.1 e (h3 x (by simp [hx]))
theorem Aqs:∀ {p q:Pts} {F:Fr},(∀ x∈p,hasP q x.1=false)->(∀ x∈p,Aad F x.1=true)->(∀ x∈q,Aad F x.1=true)->putsF p (putsF q F)=putsF q (putsF p F)
 | [],_,_,_,_,_=>rfl
 | (s,d)::r,q,F,h1,h2,h3=>by
  rw [putsF,putsF,← Aqr (h1 (s,d) (by simp)) (h2 (s,d) (by simp)) h3];exact Aqs (fun x hx=>h1 x (by simp [hx])) (fun x hx=>Adu F s x.1 d (h2 x (by simp [hx]))) fun x hx=>Adu F s x.1 d (h3 x hx)
structure RsOK (F:Fr) (rs:Rs):Prop where
 key:∀ x∈rs,∀ y∈x.2,Aad F y.1=true
 idx:(rs.map (·.1)).Nodup
theorem Ajv {L:Nat->Bool}:∀ {rs:Rs} {F:Fr} {t:Nat},Aad F t=true->Aad (appL L rs F) t=true
 | [],_,_,h=>h
 | (i,p)::rs,F,t,h=>by
  simp only [appL];refine Ajv ?_
  split
  ·exact Ae0 h
  ·exact h
theorem Aej {L:Nat->Bool}:∀ {rs rs':Rs} {F:Fr},appL L (rs++rs') F=appL L rs' (appL L rs F)
 | [],_,_=>rfl
 | (i,p)::rs,rs',F=>by simp only [List.cons_append,appL];exact Aej
theorem Aea {L L':Nat->Bool}:∀ {rs:Rs} {F:Fr},(∀ x∈rs,L x.1=L' x.1)->appL L rs F=appL L' rs F
 | [],_,_=>rfl
 | (i,p)::rs,F,h=>by
  simp only [appL];rw [h (i,p) (by simp)];exact Aea fun x hx=>h x (by simp [hx])
theorem Acu {L:Nat->Bool} {s:Nat}:∀ {rs:Rs} {F:Fr},(∀ x∈rs,hasP x.2 s=true->L x.1=false)->get (appL L rs F) s=get F s
 | [],_,_=>rfl
 | (i,p)::rs,F,h=>by
  simp only [appL];rw [Acu fun x hx=>h x (by simp [hx])]
  split
  ·rename_i hL;cases hp:hasP p s with
   | false=>exact Ab4 hp
   | true=>rw [h (i,p) (by simp) hp] at hL;cases hL
  ·rfl
theorem Afs {L:Nat->Bool} {s:Nat}:∀ {rs:Rs} {F F':Fr},get F s=get F' s->(∀ x∈rs,hasP x.2 s=true->L x.1=true)->get (appL L rs F) s=get (appL (fun _=>true) rs F') s
 | [],_,_,h,_=>h
 | (i,p)::rs,F,F',h,hL=>by
  simp only [appL,if_true];refine Afs ?_ fun x hx=>hL x (by simp [hx]);cases hp:hasP p s with
  | false=>
   rw [Ab4 hp]
   split
   ·rw [Ab4 hp];exact h
   ·exact h
  | true=>rw [hL (i,p) (by simp) hp,if_pos rfl];exact Ake hp
theorem Ahy {L:Nat->Bool}:∀ {rs:Rs} {F:Fr},(∀ x∈rs,∀ y∈x.2,Aad F y.1=true)->Aaj (appL L rs F)=Aaj F
 | [],_,_=>rfl
 | (i,p)::rs,F,h=>by
  simp only [appL]
  split
  ·rw [Ahy fun x hx y hy=>Ae0 (h x (by simp [hx]) y hy),Afk (h (i,p) (by simp))]
  ·exact Ahy fun x hx=>h x (by simp [hx])
theorem Al0 {L:Nat->Bool} {p:Pts}:∀ {rs:Rs} {F:Fr},(∀ x∈rs,L x.1=true->∀ y∈x.2,hasP p y.1=false)->(∀ x∈rs,∀ y∈x.2,Aad F y.1=true)->(∀ y∈p,Aad F y.1=true)->appL L rs (putsF p F)=putsF p (appL L rs F)
 | [],_,_,_,_=>rfl
 | (i,q)::rs,F,h1,h2,h3=>by
  simp only [appL]
  split
  ·rename_i hL;rw [Aqs (h1 (i,q) (by simp) hL) (h2 (i,q) (by simp)) h3];exact Al0 (fun x hx=>h1 x (by simp [hx])) (fun x hx y hy=>Ae0 (h2 x (by simp [hx]) y hy)) fun y hy=>Ae0 (h3 y hy)
  ·exact Al0 (fun x hx=>h1 x (by simp [hx])) (fun x hx=>h2 x (by simp [hx])) h3
theorem Aez {p:Pts} {s:Nat}:hasP p s=true↔∃ y∈p,y.1=s:=by
 unfold hasP;simp only [List.any_eq_true,beq_iff_eq]
theorem Aou {L:Nat->Bool} {R:Nat->Nat->Prop} (hR:∀ a b,R a b->L b=true->L a=true):∀ {rs:Rs} {F:Fr},RsOK F rs->rs.Pairwise (fun x y=>∀ s,hasP x.2 s=true->hasP y.2 s=true->R x.1 y.1)->∀ {i:Nat} {p:Pts},(i,p)∈rs->L i=false->appL (fun k=>L k || k == i) rs F=putsF p (appL L rs F)
 | [],_,_,_,_,_,h,_=>by cases h
 | (j,q)::rs,F,hok,hpw,i,p,hm,hL=>by
  rw [List.pairwise_cons] at hpw;have hnj:∀ x∈rs,x.1≠j:=fun x hx he=>by
   have:=hok.idx;simp only [List.map_cons,List.nodup_cons,List.mem_map,not_exists,not_and] at this;exact this.1 x hx he
  have hok':∀ F',(∀ t,Aad F t=true->Aad F' t=true)->RsOK F' rs:=fun F' hF=>⟨fun x hx y hy=>hF _ (hok.key x (by simp [hx]) y hy),by have:=hok.idx;simp only [List.map_cons,List.nodup_cons] at this;exact this.2⟩
  simp only [appL];rcases List.mem_cons.1 hm with hm | hm
  ·simp only [Prod.mk.injEq] at hm;obtain ⟨rfl,rfl⟩:=hm;simp only [hL,beq_self_eq_true,Bool.or_true,if_true,Bool.false_eq_true,if_false];rw [Aea (L':=L) fun x hx=>by
    have:(x.1 == i)=false:=by simpa using hnj x hx
    rw [this,Bool.or_false]]
   refine Al0 (fun x hx hLx y hy=>?_) (fun x hx=>hok.key x (by simp [hx])) (hok.key (i,p) (by simp));cases hp:hasP p y.1 with
   | false=>rfl
   | true=>
    have:=hR _ _ (hpw.1 x hx y.1 hp (Aez.2 ⟨y,hy,rfl⟩)) hLx;simp only at this;rw [hL] at this;cases this
  ·have hij:(j == i)=false:=by have:=hnj _ hm;simpa using Ne.symm this
   simp only [hij,Bool.or_false]
   split
   ·exact Aou hR (hok' _ fun t ht=>Ae0 ht) hpw.2 hm hL
   ·exact Aou hR (hok' _ fun t ht=>ht) hpw.2 hm hL
theorem Agv {k:Nat×Path} {b:Bool} {s:Nat} {ps:Path} (h:(Nat.blt ps.length k.2.length || !deadAt k.1 k.2 b s ps)=true):(!deadAt k.1 k.2 b s ps)=true:=by
 have pl:∀ {q p:Path},pre q p=true->q.length<=p.length:=by
  intro q
  induction q with
  | nil=>intro p _;exact Nat.zero_le _
  | cons x q ih=>
   intro p hp;obtain ⟨a,c⟩:=x;cases p with
   | nil=>cases hp
   | cons y p=>
    obtain ⟨a',c'⟩:=y;simp only [pre,Bool.and_eq_true] at hp;have:=ih hp.2;simp only [List.length_cons];omega
 rw [Bool.or_eq_true] at h;rcases h with h | h
 ·rw [Nat.blt_eq] at h;cases hd:deadAt k.1 k.2 b s ps with
  | false=>rfl
  | true=>
   simp only [deadAt,Bool.and_eq_true] at hd;have:=pl hd.2;omega
 ·exact h
theorem Ai3 {ks:List (Nat×Path)} {k:Nat×Path} (hk:k∈ks) {d:D} (h:Afe ks d=true):kill1 (deadAt k.1 k.2) d=d:=by
 cases d with
 | alias s ps=>
  simp only [Afe,List.all_eq_true] at h;have:=Agv (h k hk);simp only [Bool.not_eq_true'] at this;simp only [kill1,this,Bool.false_eq_true,if_false]
 | sub s ps a b=>
  simp only [Afe,List.all_eq_true] at h;have:=Agv (h k hk);simp only [Bool.not_eq_true'] at this;simp only [kill1,this,Bool.false_eq_true,if_false]
 | place s ps a b=>
  simp only [Afe,List.all_eq_true] at h;have:=Agv (h k hk);simp only [Bool.not_eq_true'] at this;simp only [kill1,this,Bool.false_eq_true,if_false]
 | _=>rfl
theorem Ajp {ks:List (Nat×Path)} {k:Nat×Path} (hk:k∈ks) {d:D} (h:Agk ks d=true):kill2 (deadAt k.1 k.2) d=d:=by
 have l:∀ {cs:List D},cs.all (Afe ks)=true->cs.map (kill1 (deadAt k.1 k.2))=cs:=fun {cs} hc=>by
  rw [List.all_eq_true] at hc;exact (List.map_congr_left fun x hx=>Ai3 hk (hc x hx)).trans (List.map_id _)
 cases d with
 | agg cs=>simp only [kill2,l h]
 | fn g cs=>simp only [kill2,l h]
 | alias s ps=>exact Ai3 (d:=.alias s ps) hk h
 | sub s ps a b=>exact Ai3 (d:=.sub s ps a b) hk h
 | place s ps a b=>exact Ai3 (d:=.place s ps a b) hk h
 | _=>rfl
theorem Avv (dead:Bool->Nat->Path->Bool):kill2 dead D.undef=D.undef:=rfl
theorem Ajg {dead:Bool->Nat->Path->Bool}:∀ {F:Fr} (s:Nat),get (killF dead F) s=kill2 dead (get F s)
 | [],_=>rfl
 | (k,d)::r,s=>by
  have ih:=Ajg (dead:=dead) (F:=r) s;unfold killF at ih ⊢;simp only [List.map_cons,get]
  split
  ·rfl
  ·exact ih
theorem Acv {F:Fr} {q:Nat} {ps:Path} (s:Nat):get (kill F q ps) s=kill2 (deadAt q ps) (get F s):=Ajg s
theorem Ahz {F:Fr} {q:Nat} {ps:Path}:Aaj (kill F q ps)=Aaj F:=by
 unfold kill killF Aaj;rw [List.map_map];rfl
end Go.Own
namespace Go.Own
open D
theorem Aqw {ks:List (Nat×Path)} {dead:Bool->Nat->Path->Bool} (hk:∀ b s p,dead b s p=true->∃ k∈ks,∀ b,deadAt k.1 k.2 b s p=true) {d:D} (h:Agk ks d=true):kill2 dead d=d:=by
 have one:∀ {d:D},Afe ks d=true->kill1 dead d=d:=fun {d} h=>by
  have no:∀ {b s p},(∀ k∈ks,(!deadAt k.1 k.2 b s p)=true)->∀ b',dead b' s p=false:=fun {b s p} hh b'=>by
   cases hd:dead b' s p with
   | false=>rfl
   | true=>
    obtain ⟨k,hk1,hk2⟩:=hk _ _ _ hd;have:=hh k hk1;rw [hk2] at this;cases this
  cases d with
  | alias s ps=>
   simp only [Afe,List.all_eq_true] at h
   replace h:=fun k hk=>Agv (h k hk)
   simp only [kill1,no h,Bool.false_eq_true,if_false]
  | sub s ps a b=>
   simp only [Afe,List.all_eq_true] at h
   replace h:=fun k hk=>Agv (h k hk)
   simp only [kill1,no h,Bool.false_eq_true,if_false]
  | place s ps a b=>
   simp only [Afe,List.all_eq_true] at h
   replace h:=fun k hk=>Agv (h k hk)
   simp only [kill1,no h,Bool.false_eq_true,if_false]
  | _=>rfl
 have l:∀ {cs:List D},cs.all (Afe ks)=true->cs.map (kill1 dead)=cs:=fun {cs} hc=>by
  rw [List.all_eq_true] at hc;exact (List.map_congr_left fun x hx=>one (hc x hx)).trans (List.map_id _)
 cases d with
 | agg cs=>simp only [kill2,l h]
 | fn g cs=>simp only [kill2,l h]
 | alias s ps=>exact one (d:=.alias s ps) h
 | sub s ps a b=>exact one (d:=.sub s ps a b) h
 | place s ps a b=>exact one (d:=.place s ps a b) h
 | _=>rfl
theorem Ak1 {F:Fr} {dead:Bool->Nat->Path->Bool}:Aaj (killF dead F)=Aaj F:=by
 unfold killF Aaj;rw [List.map_map];rfl
theorem Ax8 {s i c k:Nat} {old:List D} (ho:old.any node1=true):∀ b s' p,deadCells s [] i c k b s' p=true->∃ q∈Aie s i c k old,∀ b,deadAt q.1 q.2 b s' p=true:=by
 intro b s' p h;simp only [deadCells,pre,Bool.and_true,List.length_nil,List.drop_zero,Bool.and_eq_true,beq_iff_eq] at h;obtain ⟨rfl,h⟩:=h;cases p with
 | nil=>simp [cellIn] at h
 | cons x p=>
  obtain ⟨i',c'⟩:=x;simp only [cellIn,Bool.and_eq_true,beq_iff_eq,decide_eq_true_eq] at h;obtain ⟨⟨rfl,h1⟩,h2⟩:=h;refine ⟨(s',[(i',c')]),?_,fun _=>by simp [deadAt,pre]⟩;unfold Aie;rw [if_pos ho,List.mem_map];exact ⟨c'-c,List.mem_range.2 (by omega),by simp;omega⟩
theorem At8 {G:Fr} {s i c k:Nat} {old:List D} {d:D} (hd:∀ dead,kill2 dead d=d) (hk:Aad G s=true) (hn:(Aaj G).Nodup) (hs:∀ q,q≠s->Agk (Aie s i c k old) (get G q)=true):(if old.any node1=true then killF (deadCells s [] i c k) (put0 G s d) else put0 G s d)=put0 G s d:=by
 split
 ·rename_i ho;refine Ahi Ak1 (by rw [Ak1,Abs hk];exact hn) fun q=>?_;rw [Ajg,Aab]
  split
  ·exact hd _
  ·rename_i hq;exact Aqw (Ax8 ho) (hs q fun h=>hq h.symm)
 ·rfl
theorem Ay9 {E:Env} {f:Nat} {V:List Nat} {call:Nat->List D->Option (D×List D)} {F:Fr} {o:Oper} {r:(Nat×D)×List (Nat×Path)} (h:Acx E F o=some r) (hk:Aad F r.1.1=true) (hn:(Aaj F).Nodup) (hs:∀ q,q≠r.1.1->Agk r.2 (get F q)=true):opC E f V call F o=some (put0 F r.1.1 r.1.2):=by
 unfold Acx at h
 split at h
 ·rename_i t x y hq
  split at h
  ·cases h
  ·rename_i hdst
   split at h
   ·cases h
   ·rename_i d hy
    split at h
    ·rename_i s i c hx
     split at h
     ·rename_i es hg
      split at h
      ·rename_i ec he
       split at h
       ·rename_i hc;obtain ⟨c1,c2,c3⟩:=hc;simp only [zJ] at h;subst h;have e2:(own es).setElem i (ec.take c++d.cells++ec.drop (c+sizeT E.P t))=some (own (es.set i (ec.take c++d.cells++ec.drop (c+sizeT E.P t)))):=rfl;simp only [opC,hq,c1,if_true,Ah7 hy,hx,storeD,ptrOf,getAt,hg,D.getP,D.elem,he,c2,c3,and_self,e2,setAt,D.setP,Option.map_some,hdst,fin];rw [At8 (fun _=>rfl) hk hn hs]
       ·cases h
      ·cases h
     ·cases h
    ·rename_i s hx
     split at h
     ·rename_i cs hg
      split at h
      ·rename_i hc;obtain ⟨c1,c2,c3⟩:=hc;simp only [zJ] at h;subst h;have e2:(box cs).setElem 0 (d.cells++cs.drop (sizeT E.P t))=some (box (d.cells++cs.drop (sizeT E.P t))):=rfl;simp only [opC,hq,c1,if_true,Ah7 hy,hx,storeD,ptrOf,getAt,hg,D.getP,D.elem,c2,Nat.zero_add,c3,and_self,List.take_zero,List.nil_append,e2,setAt,D.setP,Option.map_some,List.drop_zero,hdst,fin];rw [At8 (fun _=>rfl) hk hn hs]
      ·cases h
     ·cases h
    ·cases h
 ·cases h
theorem Aw6 {E:Env} {A B:Fr} (h:Less A B) {o:Oper} (hs:∀ x∈o.op.operands.toList,Seen A x) {r:(Nat×D)×List (Nat×Path)} (hv:Acx E A o=some r):Acx E B o=some r:=by
 unfold Acx at hv ⊢
 split at hv
 ·rename_i t x y hq;have hx:Seen A x:=hs x (by rw [hq];simp [Op.operands]);have hy:Seen A y:=hs y (by rw [hq];simp [Op.operands])
  try simp only
  split at hv
  ·cases hv
  ·rename_i hdst
   split at hv
   ·cases hv
   ·rename_i d hg;simp only [Ajy h hy hg,Aaf h hx]
    split at hv
    ·rename_i s i c hxx
     try simp only
     split at hv
     ·rename_i es hg2;have:get B s=own es:=by
       rcases h s with h1 | h1
       ·rw [hg2] at h1;cases h1
       ·rw [h1,hg2]
      simp only [this];exact hv
     ·cases hv
    ·rename_i s hxx
     try simp only
     split at hv
     ·rename_i cs hg2;have:get B s=box cs:=by
       rcases h s with h1 | h1
       ·rw [hg2] at h1;cases h1
       ·rw [h1,hg2]
      simp only [this];exact hv
     ·cases hv
    ·cases hv
 ·cases hv
theorem Less.refl (A:Fr):Less A A:=fun _=>.inr rfl
theorem Less.trans {A B C:Fr} (h:Less A B) (k:Less B C):Less A C:=fun s=>by
 rcases h s with h | h
 ·exact .inl h
 ·rcases k s with k | k
  ·left;rw [← h];exact k
  ·right;rw [k,h]
theorem Less.eq {A B:Fr} (h:Less A B) {s:Nat} (hs:get A s≠.undef):get B s=get A s:=by
 rcases h s with h | h
 ·exact absurd (Ac7.1 h) hs
 ·exact h
theorem Less.put0 {A B:Fr} (h:Less A B) (s:Nat) (d:D):Less (put0 A s d) (put0 B s d):=fun k=>by
 rw [Aab,Aab]
 split
 ·exact .inr rfl
 ·exact h k
theorem Less.kill {A B:Fr} (h:Less A B) (s:Nat) (ps:Path):Less (kill A s ps) (kill B s ps):=fun k=>by
 rw [Acv,Acv];rcases h k with h | h
 ·left;rw [Ac7.1 h];rfl
 ·right;rw [h]
theorem Less.putsF {A B:Fr} (h:Less A B) (p:Pts):Less (putsF p A) (putsF p B):=fun k=>by
 rw [Ae6,Ae6];cases Aep p k with
 | some d=>exact .inr rfl
 | none=>exact h k
theorem Bbb {E:Env} {M G:Fr} (h:Less M G) {t:Nat} {es es':List (List D)} {M1:Fr} (hg:get M t=own es') (ht:takeOp E M (.tmp t)=some (own es,M1)) :
  M1=kill (put0 M t D.undef) t []/\takeOp E G (.tmp t)=some (own es,kill (put0 G t D.undef) t []):=by
 have hG:get G t=own es':=by rw [h.eq (by rw [hg];intro hh;cases hh),hg]
 simp only [takeOp,hg,takeSlot,zJ,Prod.mk.injEq] at ht;obtain ⟨e1,e2⟩:=ht;refine ⟨e2.symm,?_⟩;simp only [takeOp,hG,takeSlot,e1]
theorem Ayb {E:Env} {M G:Fr} (h:Less M G) {t s:Nat} {ps:Path} {es:List (List D)} {M1:Fr} (hg:get M t=alias s ps) (ht:takeOp E M (.tmp t)=some (own es,M1)) :
  ∃ nd,M1=kill (put0 M s nd) s ps/\takeOp E G (.tmp t)=some (own es,kill (put0 G s nd) s ps)/\get M s≠.undef:=by
 have hG:get G t=alias s ps:=by rw [h.eq (by rw [hg];intro hh;cases hh),hg]
 simp only [takeOp,hg,takeSlot,takeAt] at ht;cases hc:getAt M s ps with
 | none=>simp [hc] at ht
 | some c=>
  simp only [hc] at ht;cases hx:c.ex1 with
  | false=>
   simp only [hx,Bool.false_eq_true,if_false] at ht;cases c<;>simp at ht
  | true=>
   simp only [hx,if_true] at ht;have hsn:get M s≠.undef:=fun hu=>by
    unfold getAt at hc;rw [hu] at hc;cases ps with
    | nil=>simp only [D.getP,zJ] at hc;subst hc;cases hx
    | cons p ps=>obtain ⟨i,o⟩:=p;simp [D.getP,D.elem] at hc
   have hGs:=h.eq hsn;have hcG:getAt G s ps=some c:=by unfold getAt at hc ⊢;rw [hGs];exact hc
   cases hst:(get M s).setP ps .undef with
   | none=>simp [setAt,hst] at ht
   | some nd=>
    simp only [setAt,hst,Option.map_some,zJ,Prod.mk.injEq] at ht;obtain ⟨e1,e2⟩:=ht;refine ⟨nd,e2.symm,?_,hsn⟩;simp only [takeOp,hG,takeSlot,takeAt,hcG,hx,if_true,setAt,hGs,hst,Option.map_some];rw [e1]
theorem Bb6 {E:Env} {A B:Fr} (h:Less A B) {t:Nat} (hs:get A t≠.undef) {es:List (List D)} {A2:Fr} (hn:newElems E A (.tmp t)=some (es,A2)) :
  (A2=A/\newElems E B (.tmp t)=some (es,B))∨(A2=kill (put0 A t D.undef) t []/\newElems E B (.tmp t)=some (es,kill (put0 B t D.undef) t [])):=by
 have hB:=h.eq hs;have ho:opd E B (.tmp t)=opd E A (.tmp t):=by simp only [opd,hB]
 unfold newElems at hn ⊢;rw [ho];cases hq:opd E A (.tmp t) with
 | none=>simp [hq] at hn
 | some d=>
  simp only [hq] at hn ⊢;cases d with
  | lit v=>
   cases v with
   | string b=>
    simp only [zJ,Prod.mk.injEq] at hn ⊢;obtain ⟨h1,h2⟩:=hn;exact .inl ⟨h2.symm,by simpa using h1⟩
   | _=>simp at hn
  | sl es'=>
   simp only [zJ,Prod.mk.injEq] at hn ⊢;obtain ⟨h1,h2⟩:=hn;exact .inl ⟨h2.symm,by simpa using h1⟩
  | own es'=>
   simp only [zJ,Prod.mk.injEq] at hn ⊢;obtain ⟨h1,h2⟩:=hn;exact .inl ⟨h2.symm,by simpa using h1⟩
  | alias s ps=>
   simp only at hn ⊢;cases hg:getAt A s ps with
   | none=>simp [hg] at hn
   | some c=>
    simp only [hg] at hn;cases c with
    | sl es'=>
     rw [Aal h hg (by simp)];simp only [zJ,Prod.mk.injEq] at hn ⊢;obtain ⟨h1,h2⟩:=hn;exact .inl ⟨h2.symm,by simpa using h1⟩
    | own es'=>
     rw [Aal h hg (by simp)];simp only at hn ⊢;cases hx:(es'.any fun c=>c.any ex1) with
     | true=>
      simp only [hx,if_true,hB] at hn ⊢;cases hg2:get A t with
      | own es2=>
       simp only [hg2,zJ,Prod.mk.injEq] at hn;obtain ⟨h1,h2⟩:=hn;right;refine ⟨h2.symm,?_⟩;simp only [h1]
      | _=>simp [hg2] at hn
     | false=>
      simp only [hx,Bool.false_eq_true,if_false,zJ,Prod.mk.injEq] at hn ⊢;obtain ⟨h1,h2⟩:=hn;exact .inl ⟨h2.symm,by simpa using h1⟩
    | _=>simp at hn
  | sub s ps off len=>
   simp only at hn ⊢;cases hg:elemsOf A (sub s ps off len) with
   | none=>simp [hg] at hn
   | some es'=>
    rw [Aev h hg];simp only [hg] at hn ⊢;cases hx:(es'.any fun c=>c.any ex1) with
    | true=>simp [hx] at hn
    | false=>
     simp only [hx,Bool.false_eq_true,if_false,zJ,Prod.mk.injEq] at hn ⊢;obtain ⟨h1,h2⟩:=hn;exact .inl ⟨h2.symm,by simpa using h1⟩
  | _=>simp at hn
structure EffAt (M:Fr) (p:Pts) (ks:List (Nat×Path)) (o:Oper) (G:Fr):Prop where
 less:Less M G
 nodup:(Aaj G).Nodup
 safe:∀ k,hasP p k=false->Agk ks (get G k)=true
 free:∀ t,o.dst=some t->get G t=.undef∨(Afa o=true/\get M t≠.undef)
 key:∀ x∈p,Aad G x.1=true
theorem EffAt.fr {M:Fr} {p:Pts} {ks:List (Nat×Path)} {o:Oper} {G:Fr} (e:EffAt M p ks o G) (h:Afa o=false) (t:Nat) (ht:o.dst=some t):get G t=.undef:=by
 rcases e.free t ht with h1 | ⟨h1,_⟩
 ·exact h1
 ·rw [h] at h1;cases h1
theorem Ae7 {z:List Nat×Nat×List (Nat×Path)} {F':Fr} {k:Nat}:hasP (Aai z F') k=true↔k∈z.1∨(Abt (get F' z.2.1)=true/\k=z.2.1):=by
 rw [Aez];unfold Aai;simp only [List.mem_map,List.mem_append];constructor
 ·rintro ⟨y,⟨k',h,rfl⟩,rfl⟩;rcases h with h | h
  ·exact .inl h
  ·split at h
   ·rename_i hu;exact .inr ⟨hu,by simpa using h⟩
   ·cases h
 ·rintro (h | ⟨hu,rfl⟩)
  ·exact ⟨_,⟨k,.inl h,rfl⟩,rfl⟩
  ·exact ⟨_,⟨z.2.1,.inr (by rw [if_pos hu];simp),rfl⟩,rfl⟩
theorem Asw {F':Fr}:∀ {l:List Nat} {k:Nat},k∈l->Aep (l.map fun k=>(k,get F' k)) k=some (get F' k)
 | [],_,h=>by cases h
 | a::l,k,h=>by
  simp only [List.map_cons,Aep];by_cases hk:k∈l
  ·rw [Asw hk]
  ·have:a=k:=by
    rcases List.mem_cons.1 h with h | h
    ·exact h.symm
    ·exact absurd h hk
   subst this;cases hl:Aep (l.map fun k=>(k,get F' k)) a with
   | none=>simp
   | some e=>
    exfalso;have:hasP (l.map fun k=>(k,get F' k)) a=false:=by
     cases hh:hasP (l.map fun k=>(k,get F' k)) a with
     | false=>rfl
     | true=>
      obtain ⟨y,hy,he⟩:=Aez.1 hh;obtain ⟨b,hb,rfl⟩:=List.mem_map.1 hy;simp only at he;subst he;exact absurd hb hk
    rw [Agh this] at hl;cases hl
theorem Aus {z:List Nat×Nat×List (Nat×Path)} {F':Fr} {k:Nat} (h:hasP (Aai z F') k=true):Aep (Aai z F') k=some (get F' k):=by
 unfold Aai;refine Asw ?_;rw [List.mem_append];rcases Ae7.1 h with h | ⟨hu,rfl⟩
 ·exact .inl h
 ·exact .inr (by rw [if_pos hu];simp)
theorem Air {F:Fr} {t:Nat} {d:D} (h:get F t=.undef):fin F (some t) d=put0 F t d:=by
 simp only [fin,put,h,D.quiet,if_true]
abbrev Acts:=List (Nat×D×Path)
def runA:Acts->Fr->Fr
 | [],A=>A
 | (s,nd,ps)::r,A=>runA r (kill (put0 A s nd) s ps)
def Akq:Acts->Nat->D->D
 | [],_,d=>d
 | (s,nd,ps)::r,k,d=>Akq r k (kill2 (deadAt s ps) (if s=k then nd else d))
theorem Agw:∀ (l:Acts) (A:Fr) (k:Nat),get (runA l A) k=Akq l k (get A k)
 | [],_,_=>rfl
 | (s,nd,ps)::r,A,k=>by rw [runA,Agw r,Acv,Aab];rfl
theorem Ap9:∀ (l m:Acts) (A:Fr),runA (l++m) A=runA m (runA l A)
 | [],_,_=>rfl
 | (s,nd,ps)::r,m,A=>Ap9 r m _
theorem Less.runA:∀ (l:Acts) {A B:Fr},Less A B->Less (runA l A) (runA l B)
 | [],_,_,h=>h
 | (s,nd,ps)::r,_,_,h=>Less.runA r ((h.put0 s nd).kill s ps)
theorem Ago:∀ {l:Acts} {k:Nat},(∀ a∈l,a.1≠k)->Akq l k .undef=.undef
 | [],_,_=>rfl
 | (s,nd,ps)::r,k,h=>by
  rw [Akq,if_neg (h (s,nd,ps) (by simp)),Avv];exact Ago fun a ha=>h a (by simp [ha])
theorem Aon {ks:List (Nat×Path)}:∀ {l:Acts} {k:Nat} {d:D},(∀ a∈l,a.1≠k/\(a.1,a.2.2)∈ks)->Agk ks d=true->Akq l k d=d
 | [],_,_,_,_=>rfl
 | (s,nd,ps)::r,k,d,h,hd=>by
  obtain ⟨h1,h2⟩:=h (s,nd,ps) (by simp);rw [Akq,if_neg h1,Ajp h2 hd];exact Aon (fun a ha=>h a (by simp [ha])) hd
theorem Aqc:∀ {l:Acts} {A:Fr},(∀ a∈l,Aad A a.1=true)->Aaj (runA l A)=Aaj A
 | [],_,_=>rfl
 | (s,nd,ps)::r,A,h=>by
  have e:Aaj (kill (put0 A s nd) s ps)=Aaj A:=by rw [Ahz,Abs (h (s,nd,ps) (by simp))]
  rw [runA,Aqc (fun a ha=>by rw [Aau,e,← Aau];exact h a (by simp [ha])),e]
theorem Ay4 {l:Acts} {A:Fr} (h:∀ a∈l,get A a.1≠.undef) {k:Nat} (hk:get (runA l A) k≠.undef):get A k≠.undef:=fun hu=>by
 rw [Agw,hu,Ago] at hk
 ·exact hk rfl
 ·intro a ha hak;exact h a ha (by rw [hak];exact hu)
theorem Aor {M G:Fr} {l:Acts} {t:Nat} {d:D} {z:List Nat×Nat×List (Nat×Path)} {F':Fr} {o:Oper}
  (hF:F'=fin (runA l M) (some t) d) (ha:∀ a∈l,get M a.1≠.undef/\hasP (Aai z F') a.1=true/\(a.1,a.2.2)∈z.2.2) (hp:∀ k,hasP (Aai z F') k=true->k=t∨get M k≠.undef) (ht:hasP (Aai z F') t=true)
  (e:EffAt M (Aai z F') z.2.2 o G) (hd:o.dst=some t) (hna:Afa o=false):fin (runA l G) (some t) d=putsF (Aai z F') G:=by
 have hGt:=e.fr hna t hd;have hMt:get M t=.undef:=by
  rcases e.less t with h | h
  ·exact Ac7.1 h
  ·rw [← h];exact hGt
 have hat:∀ a∈l,a.1≠t:=fun a hm h=>(ha a hm).1 (by rw [h];exact hMt);have keyP:∀ k,hasP (Aai z F') k=true->Aad G k=true:=fun k hk=>by
  obtain ⟨y,hy,rfl⟩:=Aez.1 hk;exact e.key y hy
 have keyA:Aaj (runA l G)=Aaj G:=Aqc fun a hm=>keyP _ (ha a hm).2.1;rw [Air (by rw [Agw,hMt,Ago hat])] at hF;rw [Air (by rw [Agw,hGt,Ago hat])];have kt:Aad (runA l G) t=true:=by rw [Aau,keyA,← Aau];exact keyP t ht
 have keys:Aaj (put0 (runA l G) t d)=Aaj G:=by rw [Abs kt,keyA]
 refine Ahi (by rw [keys,Afk e.key]) (by rw [keys];exact e.nodup) fun k=>?_;rw [Aab,Agw,Ae6];cases hh:hasP (Aai z F') k with
 | true=>
  rw [Aus hh,Option.getD_some,hF,Aab,Agw]
  split
  ·rfl
  ·rename_i htk;rcases hp k hh with h | h
   ·exact absurd h.symm htk
   ·rw [e.less.eq h]
 | false=>
  rw [Agh hh,Option.getD_none,if_neg (fun h=>by rw [h] at ht;rw [hh] at ht;cases ht)];exact Aon (fun a hm=>⟨fun h=>(by have:=(ha a hm).2.1;rw [h,hh] at this;cases this),(ha a hm).2.2⟩) (e.safe k hh)
theorem Aya {E:Env} {M G:Fr} (h:Less M G) {x:Operand} {a:List Nat×List (Nat×Path)} (hs:Ao0 M x=some a) {d:D} {M1:Fr} (ht:takeOp E M x=some (d,M1)) :
  ∃ l:Acts,M1=runA l M/\takeOp E G x=some (d,runA l G)/\(∀ c∈l,get M c.1≠.undef/\c.1∈a.1/\(c.1,c.2.2)∈a.2)/\∀ k∈a.1,get M k≠.undef:=by
 cases x with
 | const v=>
  simp only [Ao0,zJ] at hs;subst hs;simp only [takeOp] at ht ⊢
  split at ht
  ·rename_i hc;simp only [zJ,Prod.mk.injEq] at ht;obtain ⟨rfl,rfl⟩:=ht;exact ⟨[],rfl,by rw [if_pos hc];rfl,by simp,by simp⟩
  ·cases ht
 | func g=>
  simp only [Ao0,zJ] at hs;subst hs;simp only [takeOp,zJ,Prod.mk.injEq] at ht;obtain ⟨rfl,rfl⟩:=ht;exact ⟨[],rfl,rfl,by simp,by simp⟩
 | global g=>simp [takeOp] at ht
 | tmp u=>
  simp only [Ao0] at hs
  split at hs
  ·rename_i es hg;simp only [zJ] at hs;subst hs;have hG:get G u=own es:=(h.eq (by rw [hg];exact D.noConfusion)).trans hg;simp only [takeOp,hg,takeSlot,zJ,Prod.mk.injEq] at ht;obtain ⟨rfl,rfl⟩:=ht;refine ⟨[(u,.undef,[])],rfl,?_,by simp [hg],by simp [hg]⟩;simp only [takeOp,hG,takeSlot,runA]
  ·rename_i cs hg
   split at hs
   case isFalse=>cases hs
   rename_i hc;simp only [Bool.and_eq_true,Bool.not_eq_true'] at hc;simp only [zJ] at hs;subst hs;have hG:get G u=agg cs:=(h.eq (by rw [hg];exact D.noConfusion)).trans hg;simp only [takeOp,hg,takeSlot,hc.1,hc.2,if_true,Bool.false_eq_true,if_false,zJ,Prod.mk.injEq] at ht;obtain ⟨rfl,rfl⟩:=ht;refine ⟨[(u,.undef,[])],rfl,?_,by simp [hg],by simp [hg]⟩;simp only [takeOp,hG,takeSlot,hc.1,hc.2,if_true,Bool.false_eq_true,if_false,runA]
  ·rename_i s ps hg;simp only [zJ] at hs;subst hs;have hG:get G u=alias s ps:=(h.eq (by rw [hg];exact D.noConfusion)).trans hg;simp only [takeOp,hg,takeSlot,takeAt] at ht;cases hc:getAt M s ps with
   | none=>simp [hc] at ht
   | some c=>
    simp only [hc] at ht;have hcu:c≠.undef:=fun hh=>by subst hh;simp [D.ex1] at ht
    have hcG:getAt G s ps=some c:=Aal h hc hcu;have hsn:get M s≠.undef:=fun hu=>by
     unfold getAt at hc;rw [hu] at hc;cases ps with
     | nil=>simp only [D.getP,zJ] at hc;exact hcu hc.symm
     | cons p ps=>obtain ⟨i,o⟩:=p;simp [D.getP,D.elem] at hc
    have hun:get M u≠.undef:=by rw [hg];exact D.noConfusion
    cases hx:c.ex1 with
    | false=>
     simp only [hx,Bool.false_eq_true,if_false] at ht;refine ⟨[],?_,?_,by simp,by simp [hsn,hun]⟩
     ·cases c<;>simp_all [runA]
     ·simp only [takeOp,hG,takeSlot,takeAt,hcG,hx,Bool.false_eq_true,if_false];cases c<;>simp_all [runA]
    | true=>
     simp only [hx,if_true] at ht;cases hst:(get M s).setP ps .undef with
     | none=>simp [setAt,hst] at ht
     | some nd=>
      simp only [setAt,hst,Option.map_some,zJ,Prod.mk.injEq] at ht;obtain ⟨rfl,rfl⟩:=ht;refine ⟨[(s,nd,ps)],rfl,?_,by simp [hsn],by simp [hsn,hun]⟩;simp only [takeOp,hG,takeSlot,takeAt,hcG,hx,if_true,setAt,h.eq hsn,hst,Option.map_some,runA]
  ·rename_i v hg;simp only [zJ] at hs;subst hs;have hG:get G u=lit v:=(h.eq (by rw [hg];exact D.noConfusion)).trans hg;simp only [takeOp,hg,takeSlot,zJ,Prod.mk.injEq] at ht;obtain ⟨rfl,rfl⟩:=ht;refine ⟨[],rfl,?_,by simp,by simp⟩;simp only [takeOp,hG,takeSlot,runA]
  ·rename_i v hg;simp only [zJ] at hs;subst hs;have hG:get G u=sl v:=(h.eq (by rw [hg];exact D.noConfusion)).trans hg;simp only [takeOp,hg,takeSlot,zJ,Prod.mk.injEq] at ht;obtain ⟨rfl,rfl⟩:=ht;refine ⟨[],rfl,?_,by simp,by simp⟩;simp only [takeOp,hG,takeSlot,runA]
  ·rename_i v hg;simp only [zJ] at hs;subst hs;have hG:get G u=ref v:=(h.eq (by rw [hg];exact D.noConfusion)).trans hg;simp only [takeOp,hg,takeSlot,zJ,Prod.mk.injEq] at ht;obtain ⟨rfl,rfl⟩:=ht;refine ⟨[],rfl,?_,by simp,by simp⟩;simp only [takeOp,hG,takeSlot,runA]
  ·cases hs
theorem Aoo {E:Env}:∀ {ps:List (Nat×Operand)} {M G:Fr},Less M G->∀ {a:List Nat×List (Nat×Path)},Aj3 E M ps=some a->∀ {ds:List (Nat×D)} {M1:Fr},takeParts E M ps=some (ds,M1) ->
  ∃ l:Acts,M1=runA l M/\takeParts E G ps=some (ds,runA l G)/\(∀ c∈l,get M c.1≠.undef/\c.1∈a.1/\(c.1,c.2.2)∈a.2)/\∀ k∈a.1,get M k≠.undef
 | [],M,G,_,a,hs,ds,M1,ht=>by
  simp only [Aj3,zJ] at hs;simp only [takeParts,zJ,Prod.mk.injEq] at ht;obtain ⟨rfl,rfl⟩:=ht;subst hs;exact ⟨[],rfl,rfl,by simp,by simp⟩
 | (i,x)::r,M,G,h,a,hs,ds,M1,ht=>by
  simp only [Aj3] at hs;simp only [takeParts] at ht;cases h1:takeOp E M x with
  | none=>simp [h1] at ht
  | some q=>
   obtain ⟨d,M2⟩:=q;simp only [h1] at hs ht;cases h2:Ao0 M x with
   | none=>simp [h2] at hs
   | some b=>
    simp only [h2] at hs;cases h3:Aj3 E M2 r with
    | none=>simp [h3] at hs
    | some b'=>
     simp only [h3,zJ] at hs;subst hs;cases h4:takeParts E M2 r with
     | none=>simp [h4] at ht
     | some q=>
      obtain ⟨ds',M3⟩:=q;simp only [h4,zJ,Prod.mk.injEq] at ht;obtain ⟨rfl,rfl⟩:=ht;obtain ⟨l,e1,e2,e3,e4⟩:=Aya h h2 h1;subst e1;obtain ⟨l',g1,g2,g3,g4⟩:=Aoo (Less.runA l h) h3 h4;have back:∀ k,get (runA l M) k≠.undef->get M k≠.undef:=fun k hk=>Ay4 (fun c hc=>(e3 c hc).1) hk;refine ⟨l++l',by rw [g1,Ap9],?_,?_,?_⟩
      ·simp only [takeParts,e2,g2,Ap9]
      ·intro c hc;rcases List.mem_append.1 hc with hc | hc
       ·obtain ⟨p1,p2,p3⟩:=e3 c hc;exact ⟨p1,List.mem_append_left _ p2,List.mem_append_left _ p3⟩
       ·obtain ⟨p1,p2,p3⟩:=g3 c hc;exact ⟨back _ p1,List.mem_append_right _ p2,List.mem_append_right _ p3⟩
      ·intro k hk;rcases List.mem_append.1 hk with hk | hk
       ·exact e4 k hk
       ·exact back k (g4 k hk)
theorem Aqy {E:Env} {M G:Fr} {o:Oper} {ps:List (Nat×Operand)} {z:List Nat×Nat×List (Nat×Path)} (hz:Akp E M ps o.dst=some z) {F':Fr} {K:List (Nat×D)->Option D} (ho:(match takeParts E M ps with
   | some (ds,F1)=>(K ds).map (fin F1 o.dst)
   | none=>none)=some F') (e:EffAt M (Aai z F') z.2.2 o G) (hna:Afa o=false) :
  (match takeParts E G ps with
   | some (ds,F1)=>(K ds).map (fin F1 o.dst)
   | none=>none)=some (putsF (Aai z F') G):=by
 unfold Akp at hz;cases hs:Aj3 E M ps with
 | none=>simp [hs] at hz
 | some b=>
  cases hd:o.dst with
  | none=>simp [hs,hd] at hz
  | some t=>
   simp only [hs,hd,zJ] at hz;subst hz;cases ht:takeParts E M ps with
   | none=>simp [ht] at ho
   | some q=>
    obtain ⟨ds,M1⟩:=q;simp only [ht,Option.map_eq_some_iff,hd] at ho;obtain ⟨d,hK,hF⟩:=ho;obtain ⟨l,e1,e2,e3,e4⟩:=Aoo e.less hs ht;subst e1;simp only [e2,hK,Option.map_some];have inz:∀ k,k∈t::b.1->hasP (Aai (t::b.1,t,b.2) F') k=true:=fun k hk=>Ae7.2 (.inl hk);refine congrArg some (Aor hF.symm (fun a ha=>⟨(e3 a ha).1,inz _ (List.mem_cons_of_mem _ (e3 a ha).2.1),(e3 a ha).2.2⟩) (fun k hk=>?_) (inz t (by simp)) e hd hna);rcases Ae7.1 hk with h | ⟨_,h⟩
    ·rcases List.mem_cons.1 h with h | h
     ·exact .inl h
     ·exact .inr (e4 k h)
    ·exact .inl h
theorem Ax3 {E:Env} {f:Nat} {V:List Nat} {call:Nat->List D->Option (D×List D)} {M G:Fr} {o:Oper} {t:Nat} {ps:Array (Nat×Operand)} {z:List Nat×Nat×List (Nat×Path)} {F':Fr} (hq:o.op=.build t ps) (hz:Akp E M ps.toList o.dst=some z) (ho:opC E f V call M o=some F') (e:EffAt M (Aai z F') z.2.2 o G):opC E f V call G o=some (putsF (Aai z F') G):=by
 have eq:∀ A,opC E f V call A o=match takeParts E A ps.toList with
   | some (ds,F1)=>((match zeroT E.P t with
    | some z=>match E.P.underlying t with
     | some (.array _ e)=>if (E.P.info? e).isSome then (fillD (fun i=>some (i*sizeT E.P e,sizeT E.P e)) z.cells ds).map agg else none
     | some (.struct fs)=>if fs.toList.all fun f=>(E.P.info? f.type).isSome then (fillD (fun i=>(fs[i]?).map fun fd=>(fd.offset,sizeT E.P fd.type)) z.cells ds).map agg else none
     | _=>none
    | none=>none):Option D).map (fin F1 o.dst)
   | none=>none:=fun A=>by
  simp only [opC,hq];cases h1:zeroT E.P t with
  | none=>cases h2:takeParts E A ps.toList<;>rfl
  | some zz=>
   cases h2:takeParts E A ps.toList with
   | none=>rfl
   | some q=>
    simp only;generalize E.P.underlying t=u;cases u with
    | none=>rfl
    | some td=>
     cases td with
     | array n el=>
      simp only
      split
      ·rw [Option.map_map];rfl
      ·rfl
     | struct fs=>
      simp only
      split
      ·rw [Option.map_map];rfl
      ·rfl
     | _=>rfl
 rw [eq] at ho ⊢;exact Aqy (K:=fun ds=>_) hz ho e (by simp [Afa,hq])
theorem Avo {E:Env} {f:Nat} {V:List Nat} {call:Nat->List D->Option (D×List D)} {M G:Fr} {o:Oper} {t n:Nat} {ps:Array (Nat×Operand)} {z:List Nat×Nat×List (Nat×Path)} {F':Fr} (hq:o.op=.buildSlice t n ps) (hz:Akp E M ps.toList o.dst=some z) (ho:opC E f V call M o=some F') (e:EffAt M (Aai z F') z.2.2 o G):opC E f V call G o=some (putsF (Aai z F') G):=by
 have eq:∀ A,opC E f V call A o=match takeParts E A ps.toList with
   | some (ds,F1)=>((match sliceT E.P t with
    | none=>none
    | some e=>match zeroT E.P e with
     | some z=>if n*sizeT E.P e<=16777216/\z.cells.length=sizeT E.P e/\0<sizeT E.P e then (setElems (sizeT E.P e) (List.replicate n z.cells) ds).map own else none
     | none=>none):Option D).map (fin F1 o.dst)
   | none=>none:=fun A=>by
  simp only [opC,hq];cases h2:takeParts E A ps.toList with
  | none=>
   cases h0:sliceT E.P t with
   | none=>rfl
   | some el=>cases h1:zeroT E.P el<;>simp only [h1]
  | some q=>
   obtain ⟨ds,F1⟩:=q;cases h0:sliceT E.P t with
   | none=>rfl
   | some el=>
    cases h1:zeroT E.P el with
    | none=>simp only [h1];rfl
    | some zz=>
     simp only [h1]
     split
     ·rw [Option.map_map];rfl
     ·rfl
 rw [eq] at ho ⊢;exact Aqy (K:=fun ds=>_) hz ho e (by simp [Afa,hq])
theorem As0 {z:List Nat×Nat×List (Nat×Path)} {F' G A:Fr} (key:∀ x∈Aai z F',Aad G x.1=true) (hn:(Aaj G).Nodup) (hk:Aaj A=Aaj G) (hin:∀ k,hasP (Aai z F') k=true->get A k=get F' k) (hout:∀ k,hasP (Aai z F') k=false->get A k=get G k):A=putsF (Aai z F') G:=by
 refine Ahi (by rw [hk,Afk key]) (by rw [hk];exact hn) fun k=>?_;rw [Ae6];cases hh:hasP (Aai z F') k with
 | true=>rw [Aus hh,Option.getD_some];exact hin k hh
 | false=>rw [Agh hh,Option.getD_none];exact hout k hh
theorem Ari {F:Fr} {t:Nat} {d:D} (k:Nat):get (put F t d) k=if (get F t).quiet=true then (if t=k then d else get F k) else kill2 (deadAt t []) (if t=k then d else get F k):=by
 unfold put
 split
 ·rw [Aab]
 ·rw [Acv,Aab]
theorem Azd {F:Fr} {t:Nat} {d:D} (h:Aad F t=true):Aaj (put F t d)=Aaj F:=by
 unfold put
 split
 ·exact Abs h
 ·rw [Ahz,Abs h]
theorem Bbs {M:Fr} {s:Nat} {ps:Path} {es:List (List D)} (hc:getAt M s ps=some (own es)):get M s≠.undef:=fun hu=>by
 unfold getAt at hc;rw [hu] at hc;cases ps with
 | nil=>simp only [D.getP,zJ] at hc;cases hc
 | cons p ps=>obtain ⟨i,o⟩:=p;simp [D.getP,D.elem] at hc
theorem Bai {E:Env} {f:Nat} {V:List Nat} {call:Nat->List D->Option (D×List D)} {M G:Fr} {o:Oper} {x:Operand} {z:List Nat×Nat×List (Nat×Path)} {F':Fr} (hq:o.op=.assign x) (hz:Aov M x o.dst=some z) (ho:opC E f V call M o=some F') (e:EffAt M (Aai z F') z.2.2 o G):opC E f V call G o=some (putsF (Aai z F') G):=by
 unfold Aov at hz
 split at hz
 case h_2=>cases hz
 rename_i u t hdst
 split at hz
 case h_2=>cases hz
 rename_i s ps hg
 split at hz
 case h_2=>cases hz
 rename_i es hc;simp only [zJ] at hz;subst hz;have hMs:=Bbs hc;have hGs:=e.less.eq hMs;have hGu:get G u=alias s ps:=(e.less.eq (by rw [hg];exact D.noConfusion)).trans hg;have hGt:get G t=get M t:=by
  rcases e.free t hdst with h | ⟨_,h⟩
  ·rcases e.less t with h1 | h1
   ·rw [h,Ac7.1 h1]
   ·exact h1
  ·exact e.less.eq h
 have hcG:getAt G s ps=some (own es):=by unfold getAt at hc ⊢;rw [hGs];exact hc
 have hk3:∀ k,k=s∨k=u∨k=t->get G k=get M k:=fun k hk=>by
  rcases hk with rfl | rfl | rfl
  ·exact hGs
  ·exact hGu.trans hg.symm
  ·exact hGt
 have inz:∀ k,hasP (Aai ([s,u,t],t,[(s,ps),(t,[])]) F') k=true↔k=s∨k=u∨k=t:=fun k=>by
  rw [Ae7];simp only [List.mem_cons,List.not_mem_nil,or_false];constructor
  ·rintro (h | ⟨_,h⟩)
   ·exact h
   ·exact .inr (.inr h)
  ·exact .inl
 have keyG:∀ k,k=s∨k=u∨k=t->Aad G k=true:=fun k hk=>by
  obtain ⟨y,hy,hh⟩:=Aez.1 ((inz k).2 hk);rw [← hh];exact e.key y hy
 have key:∀ {A A':Fr} {d:D},put A t d=F'->(∀ k,k=s∨k=u∨k=t->get A' k=get A k)->(∀ k,k≠s->Agk [(s,ps),(t,[])] (get G k)=true->get A' k=get G k)->Aaj A'=Aaj G->put A' t d=putsF (Aai ([s,u,t],t,[(s,ps),(t,[])]) F') G:=by
  intro A A' d hF h1 h2 h3;have hkt:Aad A' t=true:=by rw [Aau,h3,← Aau];exact keyG t (.inr (.inr rfl))
  refine As0 e.key e.nodup (by rw [Azd hkt,h3]) (fun k hk=>?_) fun k hk=>?_
  ·rw [← hF,Ari,Ari,h1 t (.inr (.inr rfl)),h1 k ((inz k).1 hk)]
  ·have hn:¬(k=s∨k=u∨k=t):=fun h=>by rw [(inz k).2 h] at hk;cases hk
   have hsafe:=e.safe k hk;have hA:=h2 k (fun h=>hn (.inl h)) hsafe;have htk:¬ t=k:=fun h=>hn (.inr (.inr h.symm));rw [Ari];simp only [if_neg htk,hA]
   split
   ·rfl
   ·exact Ajp (k:=(t,[])) (by simp) hsafe
 simp only [opC,hq,assignC,hg,hdst] at ho;simp only [opC,hq,assignC,hGu,hdst]
 split at ho
 ·rename_i hkp;rw [if_pos hkp];simp only [zJ,fin] at ho ⊢;exact key (A:=M) (A':=G) ho hk3 (fun _ _ _=>rfl) rfl
 ·rename_i hkp;rw [if_neg hkp];cases hst:(get M s).setP ps .undef with
  | none=>simp [takeAt,hc,D.ex1,setAt,hst] at ho
  | some nd=>
   simp only [takeAt,hc,D.ex1,if_true,setAt,hst,Option.map_some,zJ,fin] at ho;simp only [takeAt,hcG,D.ex1,if_true,setAt,hGs,hst,Option.map_some,fin];refine congrArg some (key ho (fun k hk=>?_) (fun k hk hs=>?_) ?_)
   ·rw [Acv,Acv,Aab,Aab,hk3 k hk]
   ·rw [Acv,Aab,if_neg (fun h=>hk h.symm)];exact Ajp (k:=(s,ps)) (by simp) hs
   ·rw [Ahz,Abs (keyG s (.inl rfl))]
theorem Bdm {E:Env} {M X:Fr} (h:Less M X) {x:Operand} {v:Value} (ho:opd E M x=some (lit v)):opd E X x=some (lit v):=by
 rw [Aaf h,ho];rintro t rfl;simp only [opd,zJ] at ho;cases hg:get M t with
 | undef=>rw [hg] at ho;cases ho
 | _=>rfl
theorem Amx {E:Env} {g:Nat} {c:Operand} {M X:Fr} (h:Less M X):∀ {xs:List Operand} {i:Nat},Anx E g M i xs=true ->
  passMoves E g i X (xs.map Arg.opn)=some (xs.map fun _=>none,X)/\lentFrom E g X c i (xs.map Arg.opn)=some none/\(∀ F2 l,passRest E g X F2 c l i (xs.map Arg.opn) (xs.map fun _=>none)=some (xs.map fun x=>(opd E M x).getD .undef))/\frzAll X (snapSrcs E g X c i (xs.map Arg.opn))=some X
 | [],i,_=>⟨rfl,rfl,fun _ _=>rfl,rfl⟩
 | x::r,i,hr=>by
  simp only [Anx,Bool.and_eq_true] at hr;obtain ⟨⟨hm,hl⟩,hr⟩:=hr;have hm:E.mode g i=.snap:=by simpa using hm
  obtain ⟨h1,h2,h3,h4⟩:=Amx (c:=c) h hr
  split at hl
  case h_2=>cases hl
  rename_i v hv;have hX:=Bdm h hv;refine ⟨?_,?_,fun F2 l=>?_,?_⟩
  ·simp only [List.map_cons,passMoves,hm,h1]
  ·simp only [List.map_cons,lentFrom,hm,h2]
  ·simp only [List.map_cons,passRest,hm,restOne,argD,hX,Option.bind_some,snapD,snap1,D.freeze,h3,hv,Option.getD_some]
  ·simp only [List.map_cons,snapSrcs,hm,argD,hX,Option.getD_some,frzAll,frzD,frz1,h4]
theorem Ard {E:Env} {f:Nat} {V:List Nat} {call:Nat->List D->Option (D×List D)} {M G:Fr} {o:Oper} {c:Call} {g:Nat} {z:List Nat×Nat×List (Nat×Path)} {F':Fr} (hq:o.op=.call c) (hcl:c.callee=.value (.func g)) (hz:Ajc E M g c.args.toList o.dst=some z) (ho:opC E f V call M o=some F') (e:EffAt M (Aai z F') z.2.2 o G):opC E f V call G o=some (putsF (Aai z F') G):=by
 have hna:Afa o=false:=by simp [Afa,hq]
 unfold Ajc at hz
 split at hz
 case h_2=>cases hz
 rename_i u rest t hargs hdst
 split at hz
 case h_2=>cases hz
 rename_i s hg
 split at hz
 case isFalse=>cases hz
 rename_i hc;simp only [Bool.and_eq_true] at hc;obtain ⟨⟨hmode,hex⟩,hrest⟩:=hc;have hmode:E.mode g 0=.inout:=by simpa using hmode
 simp only [zJ] at hz;subst hz;have hMs:get M s≠.undef:=fun h=>by rw [h] at hex;cases hex
 have hGs:=e.less.eq hMs;have hGu:get G u=alias s []:=(e.less.eq (by rw [hg];exact D.noConfusion)).trans hg;have hGt:=e.fr hna t hdst;have hMt:get M t=.undef:=by
  rcases e.less t with h | h
  ·exact Ac7.1 h
  ·rw [← h];exact hGt
 have hst:s≠t:=fun h=>by subst h;exact hMs hMt
 have eq:∀ X,Less M X->get X u=alias s []->get X s=get M s->callC E call X g (.func g) (argsOf c.args.toList 0)=match call g (get M s::rest.map fun x=>(opd E M x).getD .undef) with
   | none=>none
   | some (r,outs)=>(giveBack X (some (s,[])) outs).map fun F4=>(r,F4):=fun X hX hu hs=>by
  obtain ⟨h1,h2,h3,h4⟩:=Amx (c:=.func g) hX hrest;have ha:argsOf c.args.toList 0=Arg.opn (.tmp u)::rest.map Arg.opn:=by rw [hargs];simp [argsOf]
  have hho:(get X s).ex1=true:=by rw [hs];exact hex
  rw [ha];have hou:opd E X (.tmp u)=some (alias s []):=by simp only [opd,hu,view,view1]
  have p1:passMoves E g 0 X (Arg.opn (.tmp u)::rest.map Arg.opn)=some (none::rest.map (fun _=>none),X):=by simp only [passMoves,hmode,h1]
  have p2:lentFrom E g X (.func g) 0 (Arg.opn (.tmp u)::rest.map Arg.opn)=some (some (s,[])):=by simp only [lentFrom,hmode,argD,hou,h2,lendAt]
  have p3:holeC X (some (s,[]))=some (some (get M s),put0 X s .undef):=by simp only [holeC,getAt,D.getP,hs,hex,if_true,setAt,D.setP,Option.map_some]
  have p4:passRest E g X (put0 X s .undef) (.func g) (some (get M s)) 0 (Arg.opn (.tmp u)::rest.map Arg.opn) (none::rest.map (fun _=>none))=some (get M s::rest.map fun x=>(opd E M x).getD .undef):=by simp only [passRest,hmode,restOne,h3]
  have p5:frzAll X (snapSrcs E g X (.func g) 0 (Arg.opn (.tmp u)::rest.map Arg.opn))=some X:=by simp only [snapSrcs,hmode,frzAll,frzD,frz1,h4]
  unfold callC;simp only [p1,p2,p3,p4];cases call g (get M s::rest.map fun x=>(opd E M x).getD .undef) with
  | none=>rfl
  | some q=>simp only [p5,ite_self]
 have eo:∀ X,opC E f V call X o=(callC E call X g (.func g) (argsOf c.args.toList 0)).bind fun r=>(coldD (E.eager f t) r.1).map (fin r.2 (some t)):=fun X=>by
  simp only [opC,hq,hcl,opd,List.length_nil,hdst,Option.getD_some]
 rw [eo,eq M (Less.refl M) hg rfl] at ho;rw [eo,eq G e.less hGu hGs];cases hcall:call g (get M s::rest.map fun x=>(opd E M x).getD .undef) with
 | none=>simp [hcall] at ho
 | some q=>
  obtain ⟨r,outs⟩:=q;simp only [hcall] at ho ⊢;cases outs with
  | nil=>simp [giveBack] at ho
  | cons c' outs=>
   cases outs with
   | cons _ _=>simp [giveBack] at ho
   | nil=>
    simp only [giveBack,setAt,D.setP,Option.map_some] at ho ⊢
    split at ho
    case isFalse=>simp at ho
    rename_i hn1;rw [if_pos hn1];simp only [Option.map_some,Option.bind_some] at ho ⊢;cases hr:coldD (E.eager f t) r with
    | none=>simp [hr] at ho
    | some r'=>
     simp only [hr,Option.map_some,zJ] at ho ⊢;have gk:∀ (X:Fr) k,get (killB (put0 X s c') s []) k=kill2 (deadIn s []) (if s=k then c' else get X k):=fun X k=>by
      unfold killB;rw [Ajg,Aab]
     have inz:∀ k,hasP (Aai ([s,u,t],s,[(s,[])]) F') k=true↔k=s∨k=u∨k=t:=fun k=>by
      rw [Ae7];simp only [List.mem_cons,List.not_mem_nil,or_false];constructor
      ·rintro (h | ⟨_,h⟩)
       ·exact h
       ·exact .inl h
      ·exact .inl
     have keyG:∀ k,k=s∨k=u∨k=t->Aad G k=true:=fun k hk=>by
      obtain ⟨y,hy,hh⟩:=Aez.1 ((inz k).2 hk);rw [← hh];exact e.key y hy
     have keyB:Aaj (killB (put0 G s c') s [])=Aaj G:=by
      unfold killB;rw [Ak1,Abs (keyG s (.inl rfl))]
     have fM:get (killB (put0 M s c') s []) t=.undef:=by rw [gk,if_neg hst,hMt];rfl
     have fG:get (killB (put0 G s c') s []) t=.undef:=by rw [gk,if_neg hst,hGt];rfl
     rw [Air fM] at ho;rw [Air fG];refine As0 e.key e.nodup (by rw [Abs (by rw [Aau,keyB,← Aau];exact keyG t (.inr (.inr rfl))),keyB]) (fun k hk=>?_) fun k hk=>?_
     ·rw [← ho,Aab,Aab,gk,gk]
      split
      ·rfl
      ·rename_i htk;rcases (inz k).1 hk with h | h | h
       ·rw [if_pos h.symm,if_pos h.symm]
       ·rw [h,hGu,hg]
       ·exact absurd h.symm htk
     ·have hn:¬(k=s∨k=u∨k=t):=fun h=>by rw [(inz k).2 h] at hk;cases hk
      rw [Aab,if_neg (fun h=>hn (.inr (.inr h.symm))),gk,if_neg (fun h=>hn (.inl h.symm))];refine Aqw (ks:=[(s,[])]) (fun b s' p h=>⟨(s,[]),by simp,fun _=>?_⟩) (e.safe k hk);simp only [deadIn,Bool.and_eq_true] at h;simp only [deadAt,Bool.and_eq_true];exact h.1
theorem Aw7 {E:Env} {f:Nat} {V:List Nat} {call:Nat->List D->Option (D×List D)} {M G:Fr} {o:Oper} {r:Pts×List (Nat×Path)} (h:Aj0 E M o=some r) (e:EffAt M r.1 r.2 o G):opC E f V call G o=some (putsF r.1 G):=by
 unfold Aj0 at h
 split at h
 case h_2=>cases h
 rename_i t u w hq
 split at h
 case h_1=>cases h
 rename_i hdst
 split at h
 case h_2=>cases h
 rename_i es s c hw hu
 split at h
 case h_2=>cases h
 rename_i cs hs
 split at h
 case isFalse=>cases h
 rename_i hc;obtain ⟨c1,c2,c3,c4⟩:=hc;simp only [zJ] at h;subst h;have gw:get G w=own es:=(e.less.eq (by rw [hw];exact D.noConfusion)).trans hw;have gu:get G u=place s [] 0 c:=(e.less.eq (by rw [hu];exact D.noConfusion)).trans hu;have gs:get G s=box cs:=(e.less.eq (by rw [hs];exact D.noConfusion)).trans hs;have nwu:w≠u:=fun h=>by rw [h,gu] at gw;cases gw
 have nws:w≠s:=fun h=>by rw [h,gs] at gw;cases gw
 have k1:∀ k,get (kill (put0 G w .undef) w []) k=kill2 (deadAt w []) (if w=k then .undef else get G k):=fun k=>by rw [Acv,Aab]
 have u1:get (kill (put0 G w .undef) w []) u=place s [] 0 c:=by
  rw [k1,if_neg nwu,gu];have:(s == w)=false:=by simpa using Ne.symm nws
  simp [kill2,kill1,deadAt,this]
 have s1:get (kill (put0 G w .undef) w []) s=box cs:=by
  rw [k1,if_neg nws,gs];rfl
 have kw:Aad G w=true:=e.key (w,.undef) (by simp);have ks:Aad G s=true:=e.key (s,box (cs.take c++[own es]++cs.drop (c+1))) List.mem_cons_self;have kk:Aaj (kill (put0 G w .undef) w [])=Aaj G:=by rw [Ahz,Abs kw]
 simp only [opC,hq,c1,if_true,takeOp,gw,takeSlot,opd,u1,view,view1,storeD,ptrOf,getAt,s1,D.getP,D.elem,D.cells,List.length_singleton,c2,c3,and_self,D.setElem,setAt,D.setP,Option.map_some,c4,Bool.false_eq_true,if_false,hdst,fin];refine congrArg some (Ahi ?_ ?_ fun k=>?_)
 ·rw [Abs (by rw [Aau,kk,← Aau];exact ks),kk,Afk e.key]
 ·rw [Abs (by rw [Aau,kk,← Aau];exact ks),kk];exact e.nodup
 ·simp only [putsF];rw [Aab,Aab,Aab,k1];by_cases h1:s=k
  ·subst h1;rw [if_pos rfl,if_neg nws,if_pos rfl]
  ·rw [if_neg h1];by_cases h2:w=k
   ·rw [if_pos h2,if_pos h2];rfl
   ·rw [if_neg h2,if_neg h2,if_neg h1];refine Ajp (k:=(w,[])) (by simp) (e.safe k ?_);simp [hasP,h1,h2]
theorem Bah {E:Env} {f:Nat} {V:List Nat} {call:Nat->List D->Option (D×List D)} {M G:Fr} {o:Oper} {z:List Nat×Nat×List (Nat×Path)} {F':Fr} (hz:Ad5 E M o=some z) (ho:opC E f V call M o=some F') (hs:∀ x∈o.op.operands.toList,Seen M x) (e:EffAt M (Aai z F') z.2.2 o G):opC E f V call G o=some (putsF (Aai z F') G):=by
 unfold Ad5 at hz
 split at hz
 case h_2=>rename_i hop;exact Bai hop hz ho e
 case h_3=>rename_i hop;exact Ax3 hop hz ho e
 case h_4=>rename_i hop;exact Avo hop hz ho e
 case h_5=>cases hz
 rename_i c hop;have hna:Afa o=false:=by simp [Afa,hop]
 split at hz
 case h_2=>rename_i hcl;exact Ard hop hcl hz ho e
 case h_3=>cases hz
 rename_i hcl
 split at hz
 case h_2=>cases hz
 rename_i t0 t1 t hargs hdst;have seen:∀ u,Operand.tmp u∈c.args.toList->get M u≠.undef:=fun u hu=>by
  have:=hs (.tmp u) (by
   rw [hop];simp [Op.operands,Call.operands]
   right;simpa using hu) u rfl
  intro h;rw [h] at this;cases this
 have s0:=seen t0 (by rw [hargs];simp);have s1:=seen t1 (by rw [hargs];simp);simp only [opC,hop,hcl] at ho ⊢;rw [hargs] at ho ⊢;cases hts:c.argTypes.toList with
 | nil=>rw [hts] at ho;simp [builtinC] at ho
 | cons ty r=>
  cases r with
  | nil=>rw [hts] at ho;simp [builtinC] at ho
  | cons u r=>
   cases r with
   | cons _ _=>rw [hts] at ho;simp [builtinC] at ho
   | nil=>
    rw [hts] at ho;simp only [builtinC] at ho ⊢
    split at ho
    case isFalse=>cases ho
    rename_i hrow;rw [if_pos hrow];unfold appendC at ho ⊢;cases hsl:sliceT E.P ty with
    | none=>simp [hsl] at ho
    | some el=>
     simp only [hsl] at ho ⊢;cases hzz:zeroT E.P el with
     | none=>simp [hzz] at ho
     | some zz=>
      simp only [hzz] at ho ⊢;cases htk:takeOp E M (.tmp t0) with
      | none=>simp [htk] at ho
      | some tk=>
       obtain ⟨dd,M1⟩:=tk;simp only [htk] at ho;cases dd with
       | own es=>
        simp only at ho;cases hnw:newElems E M1 (.tmp t1) with
        | none=>simp [hnw] at ho
        | some nw=>
         obtain ⟨new,M2⟩:=nw;simp only [hnw] at ho
         split at ho
         case isFalse=>cases ho
         rename_i hcond;simp only [zJ] at ho;rw [hdst] at ho ⊢
         have fin_:∀ (s:Nat) (ps:Path) (nd:D),M1=kill (put0 M s nd) s ps->takeOp E G (.tmp t0)=some (own es,kill (put0 G s nd) s ps)->get M s≠.undef->get M1 t1≠.undef->((∀ k,k∈z.1↔k=s∨k=t0∨k=t)/\z.2.1=t1/\(s,ps)∈z.2.2/\(t1,[])∈z.2.2)->(match takeOp E G (.tmp t0) with
           | some (own es,F1)=>match newElems E F1 (.tmp t1) with
            | some (new,F2)=>if (es.length+new.length)*bytesT E.P el<=140737488355328/\es.length+new.length<=9223372036854775807/\zz.cells.length=sizeT E.P el/\0<sizeT E.P el/\(es.all fun c=>c.length == sizeT E.P el)=true/\(new.all fun c=>c.length == sizeT E.P el)=true then some (fin F2 (some t) (own (es++new))) else none
            | none=>none
           | _=>none)=some (putsF (Aai z F') G):=by
          intro s ps nd h1 h2 h3 h5 h4;rw [h2];simp only;subst h1;obtain ⟨z1,z2,z3,z4⟩:=h4;have hless:Less (kill (put0 M s nd) s ps) (kill (put0 G s nd) s ps):=(e.less.put0 s nd).kill s ps;have inz:∀ k,k=s∨k=t0∨k=t->hasP (Aai z F') k=true:=fun k hk=>Ae7.2 (.inl ((z1 k).2 hk));have hpz:∀ k,hasP (Aai z F') k=true->k=t∨get M k≠.undef:=fun k hk=>by
           rcases Ae7.1 hk with h | ⟨_,h⟩
           ·rcases (z1 k).1 h with rfl | rfl | rfl
            ·exact .inr h3
            ·exact .inr s0
            ·exact .inl rfl
           ·rw [z2] at h;subst h;exact .inr s1
          rcases Bb6 hless h5 hnw with ⟨e1,e2⟩ | ⟨e1,e2⟩
          ·rw [e2];simp only;rw [if_pos hcond];subst e1;exact congrArg some (Aor (l:=[(s,nd,ps)]) ho.symm (fun a ha=>by simp only [List.mem_singleton] at ha;subst ha;exact ⟨h3,inz _ (.inl rfl),z3⟩) hpz (inz t (.inr (.inr rfl))) e hdst hna)
          ·rw [e2];simp only;rw [if_pos hcond];subst e1;have h1t:t1≠t:=fun h=>by
            subst h;have:=e.less.eq s1;rw [e.fr hna t1 hdst] at this;exact s1 this.symm
           have hst:s≠t:=fun h=>by
            subst h;have:=e.less.eq h3;rw [e.fr hna s hdst] at this;exact h3 this.symm
           have hMt:get M t=.undef:=by
            rcases e.less t with h | h
            ·exact Ac7.1 h
            ·rw [← h];exact e.fr hna t hdst
           have hu:Abt (get F' t1)=true:=by
            rw [← ho,Air (by rw [Acv,Aab,if_neg h1t,Acv,Aab,if_neg hst,hMt];rfl),Aab,if_neg (fun h=>h1t h.symm),Acv,Aab,if_pos rfl];rfl
           exact congrArg some (Aor (l:=[(s,nd,ps),(t1,.undef,[])]) ho.symm (fun a ha=>by
            simp only [List.mem_cons,List.not_mem_nil,or_false] at ha;rcases ha with rfl | rfl
            ·exact ⟨h3,inz _ (.inl rfl),z3⟩
            ·exact ⟨s1,Ae7.2 (.inr ⟨by rw [z2];exact hu,z2.symm⟩),z4⟩) hpz (inz t (.inr (.inr rfl))) e hdst hna)
         have ht1:∀ (s:Nat) (ps:Path) (nd:D),M1=kill (put0 M s nd) s ps->get M1 t1≠.undef:=fun s ps nd h1 hu=>by
          unfold newElems at hnw;simp only [opd,hu,view,view1] at hnw;cases hnw
         split at hz
         ·rename_i es' hg;simp only [zJ] at hz;subst hz;obtain ⟨a1,a2⟩:=Bbb e.less hg htk;exact fin_ t0 [] .undef a1 a2 s0 (ht1 _ _ _ a1) ⟨fun k=>by simp,rfl,by simp,by simp⟩
         ·rename_i s ps hg;simp only [zJ] at hz;subst hz;obtain ⟨nd,a1,a2,a3⟩:=Ayb e.less hg htk;exact fin_ s ps nd a1 a2 a3 (ht1 _ _ _ a1) ⟨fun k=>by simp,rfl,by simp,by simp⟩
         ·cases hz
       | _=>simp at ho
theorem Auf {E:Env} {f:Nat} {V:List Nat} {call:Nat->List D->Option (D×List D)} {M G:Fr} {o:Oper} {r:Pts×List (Nat×Path)} (he:effC E f V call M o=some r) (hs:∀ x∈o.op.operands.toList,Seen M x) (e:EffAt M r.1 r.2 o G):opC E f V call G o=some (putsF r.1 G):=by
 unfold effC at he
 split at he
 ·rename_i r0 h0;simp only [zJ] at he;subst he;refine Ay9 (Aw6 e.less hs h0) (e.key _ (by simp)) e.nodup fun q hq=>e.safe q ?_;simp only [hasP,List.any_cons,List.any_nil,Bool.or_false,beq_eq_false_iff_ne,ne_eq];exact fun h=>hq h.symm
 split at he
 ·rename_i r0 h0;simp only [zJ] at he;subst he;exact Aw7 h0 e
 ·split at he
  ·rename_i z F' h1 h2;simp only [zJ] at he;subst he;exact Bah h1 h2 hs e
  ·cases he
end Go.Own
namespace Go.Own
open D
theorem Ax5 {d nd x:D} {i c':Nat} {c:Option Nat} {q:Path} (h:d.setP ((i,c')::q) x=some nd) (hc:∀ n,c=some n->n≠c'):Ab5 nd c=Ab5 d c:=by
 simp only [D.setP] at h;cases he:d.elem i with
 | none=>simp [he] at h
 | some cs=>
  simp only [he] at h;cases h1:cs[c']? with
  | none=>simp [h1] at h
  | some e=>
   simp only [h1] at h;cases h2:D.setP e q x with
   | none=>simp [h2] at h
   | some e'=>
    simp only [h2] at h;cases d with
    | box cs0=>
     cases i with
     | zero=>
      simp only [D.elem,zJ] at he;subst he;simp only [D.setElem,zJ] at h;subst h;cases c with
      | none=>rfl
      | some n=>simp only [Ab5,List.getElem?_set_ne (Ne.symm (hc n rfl))]
     | succ i=>simp [D.elem] at he
    | own es=>
     simp only [D.setElem,zJ] at h;subst h;cases c<;>rfl
    | agg cs0=>
     cases i with
     | zero=>
      simp only [D.setElem,zJ] at h;subst h;cases c<;>rfl
     | succ i=>simp [D.elem] at he
    | tup cs0=>
     cases i with
     | zero=>
      simp only [D.setElem,zJ] at h;subst h;cases c<;>rfl
     | succ i=>simp [D.elem] at he
    | _=>simp [D.elem] at he
theorem Avp {dead:Bool->Nat->Path->Bool} {d:D} {c:Option Nat}:Ab5 (kill2 dead d) c=Ab5 d c:=by
 cases d with
 | alias s ps=>simp only [kill2,kill1];split<;>cases c<;>rfl
 | sub s ps a b=>simp only [kill2,kill1];split<;>cases c<;>rfl
 | place s ps a b=>simp only [kill2,kill1];split<;>cases c<;>rfl
 | _=>cases c<;>rfl
theorem Agb {F:Fr} {q s:Nat} {ps:Path} {c:Option Nat}:Ab5 (get (kill F q ps) s) c=Ab5 (get F s) c:=by
 rw [Acv,Avp]
theorem Ayy {F:Fr} {t s:Nat} {d:D} {c:Option Nat} (h:t≠s):Ab5 (get (put F t d) s) c=Ab5 (get F s) c:=by
 unfold put
 split
 ·rw [Aab,if_neg h]
 ·rw [Agb,Aab,if_neg h]
theorem As3 {d x:D} {c:Nat} (h:Ab5 d (some c)=some x):∃ cs v,d=box cs/\cs[c]? = some (lit v)/\x=lit v:=by
 cases d with
 | box cs=>
  simp only [Ab5] at h
  split at h
  ·rename_i v hv;exact ⟨cs,v,rfl,hv,by simpa using h.symm⟩
  ·cases h
 | _=>simp [Ab5] at h
theorem Ara {ks:List (Nat×Path)} {s q:Nat} {c:Option Nat} {ps:Path} (h:(ks.all fun k=>!Nat.beq k.1 s || App c k.2)=true) (hk:(q,ps)∈ks):q≠s∨∃ i c' r,ps=(i,c')::r/\∀ n,c=some n->n≠c':=by
 have:=List.all_eq_true.1 h _ hk;simp only [Bool.or_eq_true,Bool.not_eq_true'] at this;rcases this with h1 | h1
 ·left;rintro rfl;simp at h1
 ·right;cases ps with
  | nil=>cases c<;>cases h1
  | cons x r=>
   obtain ⟨i,c'⟩:=x;refine ⟨i,c',r,rfl,?_⟩;rintro n rfl rfl;simp [App] at h1
theorem Ayx {E:Env} {f:Nat} {V:List Nat} {call:Nat->List D->Option (D×List D)} {G G':Fr} {o:Oper} {z:List Nat×Nat×List (Nat×Path)} (hc:Ad7 o=true) (hz:Ad5 E G o=some z) (ho:opC E f V call G o=some G') (hf:∀ t,o.dst=some t->get G t=.undef) {s:Nat} {c:Option Nat}
  (ha:(z.2.2.all fun k=>!Nat.beq k.1 s || App c k.2)=true):Ab5 (get G' s) c=Ab5 (get G s) c:=by
 unfold Ad5 at hz
 split at hz
 case h_2=>rename_i hq;simp [Ad7,hq] at hc
 case h_3=>rename_i hq;simp [Ad7,hq] at hc
 case h_4=>rename_i hq;simp [Ad7,hq] at hc
 case h_5=>cases hz
 rename_i cl hop
 split at hz
 case h_2=>rename_i hcl;simp [Ad7,hop,hcl] at hc
 case h_3=>cases hz
 rename_i hcl
 split at hz
 case h_2=>cases hz
 rename_i t0 t1 t hargs hdst;simp only [opC,hop,hcl] at ho;rw [hargs] at ho;cases hts:cl.argTypes.toList with
 | nil=>rw [hts] at ho;simp [builtinC] at ho
 | cons ty r=>
  cases r with
  | nil=>rw [hts] at ho;simp [builtinC] at ho
  | cons u r=>
   cases r with
   | cons _ _=>rw [hts] at ho;simp [builtinC] at ho
   | nil=>
    rw [hts] at ho;simp only [builtinC] at ho
    split at ho
    case isFalse=>cases ho
    unfold appendC at ho;cases hsl:sliceT E.P ty with
    | none=>simp [hsl] at ho
    | some el=>
     simp only [hsl] at ho;cases hzz:zeroT E.P el with
     | none=>simp [hzz] at ho
     | some zz=>
      simp only [hzz] at ho;cases htk:takeOp E G (.tmp t0) with
      | none=>simp [htk] at ho
      | some tk=>
       obtain ⟨dd,M1⟩:=tk;simp only [htk] at ho;cases dd with
       | own es=>
        simp only at ho;cases hnw:newElems E M1 (.tmp t1) with
        | none=>simp [hnw] at ho
        | some nw=>
         obtain ⟨new,M2⟩:=nw;simp only [hnw] at ho
         split at ho
         case isFalse=>cases ho
         simp only [zJ] at ho;rw [hdst] at ho;have h1:Ab5 (get M1 s) c=Ab5 (get G s) c:=by
          split at hz
          ·rename_i es' hg;simp only [zJ] at hz;subst hz;simp only [takeOp,hg,takeSlot,zJ,Prod.mk.injEq] at htk;obtain ⟨_,rfl⟩:=htk;rcases Ara ha (q:=t0) (ps:=[]) (by simp) with h | ⟨_,_,_,h,_⟩
           ·rw [Agb,Aab,if_neg h]
           ·cases h
          ·rename_i s' ps hg;simp only [zJ] at hz;subst hz;simp only [takeOp,hg,takeSlot,takeAt] at htk;cases hcc:getAt G s' ps with
           | none=>simp [hcc] at htk
           | some e=>
            simp only [hcc] at htk;cases hx:e.ex1 with
            | false=>
             simp only [hx,Bool.false_eq_true,if_false] at htk;cases e<;>simp at htk
            | true=>
             simp only [hx,if_true] at htk;cases hst:(get G s').setP ps .undef with
             | none=>simp [setAt,hst] at htk
             | some nd=>
              simp only [setAt,hst,Option.map_some,zJ,Prod.mk.injEq] at htk;obtain ⟨_,rfl⟩:=htk;rw [Agb,Aab]
              split
              ·rename_i hs;subst hs;rcases Ara ha (q:=s') (ps:=ps) (by simp) with h | ⟨i,c',r,rfl,h⟩
               ·exact absurd rfl h
               ·exact Ax5 hst h
              ·rfl
          ·cases hz
         have h2:Ab5 (get M2 s) c=Ab5 (get M1 s) c:=by
          have hne:t1≠s:=by
           have:(t1,[])∈z.2.2:=by
            split at hz
            ·simp only [zJ] at hz;subst hz;simp
            ·simp only [zJ] at hz;subst hz;simp
            ·cases hz
           rcases Ara ha this with h | ⟨_,_,_,h,_⟩
           ·exact h
           ·cases h
          unfold newElems at hnw
          split at hnw
          ·simp only [zJ,Prod.mk.injEq] at hnw;rw [← hnw.2]
          ·simp only [zJ,Prod.mk.injEq] at hnw;rw [← hnw.2]
          ·split at hnw
           ·simp only [zJ,Prod.mk.injEq] at hnw;rw [← hnw.2]
           ·split at hnw
            ·simp only at hnw
             split at hnw
             ·simp only [zJ,Prod.mk.injEq] at hnw;rw [← hnw.2,Agb,Aab,if_neg hne]
             ·cases hnw
            ·simp only [zJ,Prod.mk.injEq] at hnw;rw [← hnw.2]
           ·cases hnw
          ·split at hnw
           ·split at hnw
            ·cases hnw
            ·simp only [zJ,Prod.mk.injEq] at hnw;rw [← hnw.2]
           ·cases hnw
          ·simp only [zJ,Prod.mk.injEq] at hnw;rw [← hnw.2]
          ·cases hnw
         rw [← ho];simp only [fin];by_cases hts':t=s
         ·subst hts';rw [hf t hdst];unfold put
          split
          ·rw [get_put0_same];cases c<;>rfl
          ·rw [Agb,get_put0_same];cases c<;>rfl
         ·rw [Ayy hts',h2,h1]
       | _=>simp at ho
theorem Am9 {E:Env} {M G:Fr} (h:Less M G) {o:Oper} (hc:Ad7 o=true) {z:List Nat×Nat×List (Nat×Path)} (hz:Ad5 E M o=some z):Ad5 E G o=some z:=by
 unfold Ad5 at hz ⊢
 split at hz
 case h_2=>rename_i hq;simp [Ad7,hq] at hc
 case h_3=>rename_i hq;simp [Ad7,hq] at hc
 case h_4=>rename_i hq;simp [Ad7,hq] at hc
 case h_5=>cases hz
 rename_i cl hop
 split at hz
 case h_2=>rename_i hcl;simp [Ad7,hop,hcl] at hc
 case h_3=>cases hz
 split at hz
 case h_2=>cases hz
 rename_i t0 t1 t hargs hdst
 split at hz
 ·rename_i es hg;have:get G t0=own es:=(h.eq (by rw [hg];exact D.noConfusion)).trans hg;simp only [this];exact hz
 ·rename_i s ps hg;have:get G t0=alias s ps:=(h.eq (by rw [hg];exact D.noConfusion)).trans hg;simp only [this];exact hz
 ·cases hz
theorem Asd {E:Env} {f:Nat} {V:List Nat} {call:Nat->List D->Option (D×List D)} {M G:Fr} {o:Oper} {p:Pts} {ks:List (Nat×Path)} (hc:Ad7 o=true) (he:effC E f V call M o=some (p,ks)) (hs:∀ x∈o.op.operands.toList,Seen M x) (e:EffAt M p ks o G) {s:Nat} {c:Option Nat}
  (ha:(ks.all fun k=>!Nat.beq k.1 s || App c k.2)=true):Ab5 (get (putsF p G) s) c=Ab5 (get G s) c:=by
 have hr:=Auf he hs e;unfold effC at he
 split at he
 ·rename_i r hst;unfold Acx at hst
  split at hst
  ·rename_i hq;simp [Ad7,hq] at hc
  ·cases hst
 split at he
 ·rename_i r hst;unfold Aj0 at hst
  split at hst
  ·rename_i hq;simp [Ad7,hq] at hc
  ·cases hst
 ·split at he
  ·rename_i z F' h1 h2;simp only [zJ,Prod.mk.injEq] at he;obtain ⟨_,rfl⟩:=he;refine Ayx hc (Am9 e.less hc h1) hr (e.fr ?_) ha;unfold Ad7 at hc;unfold Afa
   split at hc
   ·rename_i hq;simp [hq]
   ·cases hc
  ·cases he
theorem Axr {E:Env} {F G:Fr} {t s c:Nat} {x d:D} (hF:Ab5 (get F s) (some c)=some x) (hG:Ab5 (get G s) (some c)=some x) (ht:sizeT E.P t=1) (h:loadD E F t (place s [] 0 c)=some d):loadD E G t (place s [] 0 c)=some d:=by
 obtain ⟨cs,v,e1,e2,e3⟩:=As3 hF;obtain ⟨cs',v',e1',e2',e3'⟩:=As3 hG;have hv:lit v=lit v':=e3.symm.trans e3';have l1:=(List.getElem?_eq_some_iff.1 e2).1;have l2:=(List.getElem?_eq_some_iff.1 e2').1;have d1:(cs.drop c).take 1=[lit v]:=by
  rw [List.drop_eq_getElem_cons l1];simp only [List.take_succ_cons,List.take_zero];rw [(List.getElem?_eq_some_iff.1 e2).2]
 have d2:(cs'.drop c).take 1=[lit v']:=by
  rw [List.drop_eq_getElem_cons l2];simp only [List.take_succ_cons,List.take_zero];rw [(List.getElem?_eq_some_iff.1 e2').2]
 unfold loadD at h ⊢
 split at h
 ·cases h
 ·rename_i hu;rw [if_neg hu];simp only [ptrOf,getAt,e1,D.getP,D.elem,ht,d1] at h;simp only [ptrOf,getAt,e1',D.getP,D.elem,ht,d2,← hv];rw [if_pos (by omega)] at h ⊢;exact h
inductive LitOp (E:Env) (o:Oper) (s:Nat):Option Nat->Fr->Prop
 | load {t u c:Nat} {G:Fr}:o.op=.load t (.tmp u)->o.guard=none->get G u=place s [] 0 c->sizeT E.P t=1->u≠s->LitOp E o s (some c) G
 | addr {t j:Nat} {G:Fr}:o.op=.fieldAddr t (.tmp s) j->o.guard=none->LitOp E o s none G
 | addrA {t u j:Nat} {G:Fr}:o.op=.fieldAddr t (.tmp u) j->o.guard=none->get G u=alias s []->u≠s->LitOp E o s none G
theorem Ahf {d x:D} (h:Ab5 d none=some x):∃ cs,d=box cs:=by
 cases d with
 | box cs=>exact ⟨cs,rfl⟩
 | _=>cases h
theorem LitOp.val {E:Env} {f:Nat} {call call2:Nat->List D->Option (D×List D)} {ops:Array Oper} {F G:Fr} {o:Oper} {s:Nat} {oc:Option Nat} {x d:D} (a:LitOp E o s oc F) (b:LitOp E o s oc G) (hF:Ab5 (get F s) oc=some x) (hG:Ab5 (get G s) oc=some x) (h:Aak E f call2 ops F o=some d):Aak E f call ops G o=some d:=by
 have place:∀ {F:Fr} {t u c:Nat} {call:Nat->List D->Option (D×List D)},o.op=.load t (.tmp u)->o.guard=none->get F u=place s [] 0 c->Aak E f call ops F o=loadD E F t (place s [] 0 c):=by
  intro F t u c call h1 h2 h3;unfold Aak wantedD valC;simp only [h2,h1,opd,h3,view,view1]
 have addr:∀ {F:Fr} {t u j:Nat} {call:Nat->List D->Option (D×List D)},o.op=.fieldAddr t (.tmp u) j->o.guard=none->(∃ cs,get F s=box cs)->(u=s∨get F u=alias s [])->Aak E f call ops F o=match fieldT E.P t j with
   | some fd=>if 0<sizeT E.P fd.type then some (D.place s [] 0 (0+fd.offset)) else none
   | none=>none:=by
  intro F t u j call h1 h2 ⟨cs,h3⟩ h4;have ho:opd E F (.tmp u)=some (alias s []):=by
   rcases h4 with rfl | h4
   ·simp only [opd,h3,view,view1]
   ·simp only [opd,h4,view,view1]
  have hp:(opd E F (.tmp u)).bind (ptrOf F)=some (.loc s [] 0 0):=by simp only [ho,Option.bind_some,ptrOf,getAt,D.getP,h3]
  unfold Aak wantedD valC;simp only [h2,h1,hp];cases fieldT E.P t j<;>rfl
 cases a with
 | load h1 h2 h3 h4 h5=>
  cases b with
  | load g1 g2 g3 g4 g5=>
   rw [h1] at g1;cases g1;rw [place h1 h2 h3] at h;rw [place h1 h2 g3];exact Axr hF hG h4 h
 | addr h1 h2=>
  cases b with
  | addr g1 g2=>
   rw [h1] at g1;cases g1;rw [addr h1 h2 (Ahf hF) (.inl rfl)] at h;rw [addr h1 h2 (Ahf hG) (.inl rfl)];exact h
  | addrA g1 g2 g3 g4=>
   rw [h1] at g1;cases g1;exact absurd rfl g4
 | addrA h1 h2 h3 h4=>
  cases b with
  | addr g1 g2=>
   rw [h1] at g1;cases g1;exact absurd rfl h4
  | addrA g1 g2 g3 g4=>
   rw [h1] at g1;cases g1;rw [addr h1 h2 (Ahf hF) (.inr h3)] at h;rw [addr h1 h2 (Ahf hG) (.inr g3)];exact h
theorem LitOp.sees {E:Env} {ops:Array Oper} {G:Fr} {o:Oper} {s:Nat} {oc:Option Nat} {x:D} (a:LitOp E o s oc G) (hG:Ab5 (get G s) oc=some x):Abi ops G o=true:=by
 unfold Abi Abe Agx;cases a with
 | load h1 h2 h3 h4 h5=>simp [h2,h1,Op.operands,h3,Abt]
 | addr h1 h2=>
  obtain ⟨cs,hc⟩:=Ahf hG;simp [h2,h1,Op.operands,hc,Abt]
 | addrA h1 h2 h3 h4=>simp [h2,h1,Op.operands,h3,Abt]
theorem LitOp.at {E:Env} {F G:Fr} {o:Oper} {s:Nat} {oc:Option Nat} (a:LitOp E o s oc F) (h:∀ u,u∈Abe o->u≠s->get G u=get F u):LitOp E o s oc G:=by
 cases a with
 | load h1 h2 h3 h4 h5=>exact .load h1 h2 ((h _ (by simp [Abe,h1,Op.operands]) h5).trans h3) h4 h5
 | addr h1 h2=>exact .addr h1 h2
 | addrA h1 h2 h3 h4=>exact .addrA h1 h2 ((h _ (by simp [Abe,h1,Op.operands]) h4).trans h3) h4
theorem Axp {E:Env} {hid:List Nat} {G:Fr} {o:Oper} {s:Nat} {oc:Option Nat} (h:Ans E hid G o=some (s,oc)):LitOp E o s oc G/\(∃ x,Ab5 (get G s) oc=some x)/\∀ u∈Abe o,u≠s->hid.contains u=false/\get G u≠.undef:=by
 unfold Ans at h
 split at h
 ·rename_i t' u ho hg
  split at h
  ·cases h
  ·rename_i hh
   split at h
   ·rename_i s' c' hgu
    split at h
    ·rename_i hc;simp only [zJ,Prod.mk.injEq] at h;obtain ⟨rfl,rfl⟩:=h;simp only [Bool.and_eq_true] at hc;obtain ⟨x,hx⟩:=Option.isSome_iff_exists.1 hc.2;refine ⟨.load ho hg hgu (Nat.eq_of_beq_eq_true hc.1) (fun hu=>?_),⟨x,hx⟩,fun v hv _=>?_⟩
     ·subst hu;rw [hgu] at hx;cases hx
     ·simp only [Abe,ho,Op.operands,List.filterMap_cons,List.filterMap_nil,List.mem_singleton] at hv;subst hv;exact ⟨by simpa using hh,by rw [hgu];exact D.noConfusion⟩
    ·cases h
   ·cases h
 ·rename_i t' u j ho hg
  split at h
  ·rename_i cs hgu;simp only [zJ,Prod.mk.injEq] at h;obtain ⟨rfl,rfl⟩:=h;refine ⟨.addr ho hg,⟨_,by rw [hgu];rfl⟩,fun v hv hn=>?_⟩;simp only [Abe,ho,Op.operands,List.filterMap_cons,List.filterMap_nil,List.mem_singleton] at hv;exact absurd hv hn
  ·rename_i s' hgu
   split at h
   ·cases h
   ·rename_i hh
    split at h
    ·rename_i hc;simp only [zJ,Prod.mk.injEq] at h;obtain ⟨rfl,rfl⟩:=h;obtain ⟨x,hx⟩:=Option.isSome_iff_exists.1 hc;refine ⟨.addrA ho hg hgu (fun hu=>?_),⟨x,hx⟩,fun v hv _=>?_⟩
     ·subst hu;rw [hgu] at hx;cases hx
     ·simp only [Abe,ho,Op.operands,List.filterMap_cons,List.filterMap_nil,List.mem_singleton] at hv;subst hv;exact ⟨by simpa using hh,by rw [hgu];exact D.noConfusion⟩
    ·cases h
  ·cases h
 ·cases h
theorem Av2 {u:Nat} {d:D} {s:Nat} (h:s∈Abu (view u [] d)):s=u∨s∈Abu d:=by
 cases d with
 | own es=>left;simpa [view,view1,Abu] using h
 | box cs=>left;simpa [view,view1,Abu] using h
 | map es=>left;simpa [view,view1,Abu] using h
 | bld t e l=>left;simpa [view,view1,Abu] using h
 | agg cs=>simp [view,Abu] at h
 | tup cs=>simp [view,Abu] at h
 | _=>right;simpa [view,view1] using h
theorem Ap8 {F G:Fr} {d:D} (h:∀ s∈Abu d,get G s=get F s):ptrOf G d=ptrOf F d:=by
 cases d with
 | alias s ps=>simp only [ptrOf,getAt,h s (by simp [Abu])]
 | _=>rfl
theorem Azi {E:Env} {F G:Fr} {t:Nat} {d:D} (h:∀ s∈Abu d,get G s=get F s):loadD E G t d=loadD E F t d:=by
 have hl:∀ {s ps i o},ptrOf F d=some (.loc s ps i o)->get G s=get F s:=fun {s ps i o} hp=>by
  refine h s ?_;cases d with
  | alias s' ps'=>
   simp only [ptrOf] at hp
   split at hp
   ·simp only [zJ,Ptr.loc.injEq] at hp;simp [Abu,hp.1]
   ·cases hp
   ·cases hp
  | place s' ps' i' o'=>
   simp only [ptrOf,zJ,Ptr.loc.injEq] at hp;simp [Abu,hp.1]
  | _=>simp [ptrOf] at hp
 unfold loadD;rw [Ap8 h]
 split
 ·rfl
 ·split
  ·rfl
  ·rename_i s ps i o hp;simp only [getAt,hl hp]
  ·rfl
theorem Aum {E:Env} {F G:Fr} {t:Nat} {d ix:D} (h:∀ s∈Abu d,get G s=get F s):indexAddrD E G t d ix=indexAddrD E F t d ix:=by
 unfold indexAddrD;rw [Ap8 h];cases d with
 | alias s ps=>simp only [getAt,h s (by simp [Abu])]
 | sub s ps a b=>simp only [getAt,h s (by simp [Abu])]
 | _=>rfl
theorem Ay2 {E:Env} {f:Nat} {call:Nat->List D->Option (D×List D)} {ops:Array Oper} {F G:Fr} {o:Oper} (hk:Av3 o=true) (hg:o.guard=none) (h:∀ u∈Abe o,get G u=get F u/\∀ s∈Abu (get F u),get G s=get F s):Aak E f call ops G o=Aak E f call ops F o:=by
 have vw:∀ u,u∈Abe o->∀ s∈Abu (view u [] (get F u)),get G s=get F s:=fun u hu s hs=>by
  rcases Av2 hs with rfl | hs
  ·exact (h _ hu).1
  ·exact (h u hu).2 s hs
 unfold Av3 at hk
 split at hk
 ·rename_i u hop;have hu:=(h u (by simp [Abe,hop,Op.operands])).1;unfold Aak wantedD valC;simp only [hg,hop,opd,hu]
 ·rename_i t u hop;have hm:u∈Abe o:=by simp [Abe,hop,Op.operands]
  unfold Aak wantedD valC;simp only [hg,hop,opd,(h u hm).1];exact Azi (vw u hm)
 ·rename_i t u w hop;have hm:u∈Abe o:=by simp [Abe,hop,Op.operands]
  have hw:w∈Abe o:=by simp [Abe,hop,Op.operands]
  unfold Aak wantedD valC;simp only [hg,hop,opd,(h u hm).1,(h w hw).1];exact Aum (vw u hm)
 ·rename_i t u v hop;have hm:u∈Abe o:=by simp [Abe,hop,Op.operands]
  unfold Aak wantedD valC;simp only [hg,hop,opd,(h u hm).1]
  split
  ·rename_i d i hd hi;simp only [zJ] at hd;subst hd;exact Aum (vw u hm)
  ·rfl
 ·rename_i t u j hop;have hm:u∈Abe o:=by simp [Abe,hop,Op.operands]
  unfold Aak wantedD valC;simp only [hg,hop,opd,(h u hm).1,Option.bind_some,Ap8 (vw u hm)]
 ·cases hk
end Go.Own
namespace Go.Own
open D
def inL (listed:Array Bool) (i:Nat):Bool:=listed.getD i false
def Ak6 (ops:Array Oper) (listed:Array Bool):Prop:=∀ i o,ops[i]? = some o->inL listed i=true->∀ e∈o.after,Region.binds .any e=true->inL listed e.on=true
theorem Ae3 {ops:Array Oper} {listed:Array Bool} (hc:Ak6 ops listed):∀ (n j i:Nat) (o:Oper),ops[i]? = some o->(∀ e∈o.after,Region.binds .any e=true->inL listed e.on=true)->Abn ops n j i=true->inL listed j=true
 | 0,j,i,o,_,_,h=>by simp [Abn] at h
 | n+1,j,i,o,ho,hp,h=>by
  simp only [Abn,ho,List.any_eq_true] at h;obtain ⟨ed,hk,h⟩:=h;simp only [Bool.and_eq_true,Bool.or_eq_true,beq_iff_eq,decide_eq_true_eq] at h;obtain ⟨⟨hb,_⟩,h⟩:=h;have hin:=hp ed (by simpa using hk) hb;rcases h with h | ⟨_,h⟩
  ·rw [← h];exact hin
  ·cases hq:ops[ed.on]? with
   | none=>cases n<;>simp [Abn,hq] at h
   | some o'=>exact Ae3 hc n j _ o' hq (hc _ o' hq hin) h
theorem Ado {ops:Array Oper} {listed:Array Bool} (hsz:listed.size=ops.size) {i:Nat}:i∈Region.ready .any ops listed↔∃ o,ops[i]? = some o/\inL listed i=false/\∀ e∈o.after,Region.binds .any e=true->inL listed e.on=true:=by
 unfold Region.ready;simp only [List.mem_filter,List.mem_range,Bool.and_eq_true,Bool.not_eq_true'];constructor
 ·rintro ⟨hi,h1,h2⟩;rw [Array.getElem?_eq_getElem hi] at h2;simp only [Option.map_some,Option.getD_some,Array.all_eq_true,Bool.or_eq_true,Bool.not_eq_true'] at h2;refine ⟨ops[i],Array.getElem?_eq_getElem hi,?_,fun e he hb=>?_⟩
  ·have hl:i<listed.size:=by omega
   unfold inL;simp only [Array.getD_eq_getD_getElem?,Array.getElem?_eq_getElem hl,Option.getD_some] at h1 ⊢;exact h1
  ·obtain ⟨k,hk,rfl⟩:=Array.getElem_of_mem he;rcases h2 k hk with h3 | h3
   ·rw [h3] at hb;cases hb
   ·exact h3
 ·rintro ⟨o,ho,h1,h2⟩;have hi:=(Array.getElem?_eq_some_iff.1 ho).1;refine ⟨hi,?_,?_⟩
  ·have hl:i<listed.size:=by omega
   unfold inL at h1;simp only [Array.getD_eq_getD_getElem?,Array.getElem?_eq_getElem hl,Option.getD_some] at h1 ⊢;exact h1
  ·rw [ho];simp only [Option.map_some,Option.getD_some,Array.all_eq_true,Bool.or_eq_true,Bool.not_eq_true'];intro k hk;by_cases hb:Region.binds .any o.after[k]=true
   ·exact .inr (h2 _ (Array.getElem_mem hk) hb)
   ·exact .inl (by simpa using hb)
theorem Ae1 {listed:Array Bool} {i:Nat} (hi:i<listed.size) (k:Nat):inL (listed.setIfInBounds i true) k=(inL listed k || k == i):=by
 unfold inL;simp only [Array.getD_eq_getD_getElem?,Array.getElem?_setIfInBounds];by_cases h:i=k
 ·subst h;simp [hi]
 ·have:(k == i)=false:=by simpa using Ne.symm h
  simp [h,this]
def left (ops:Array Oper) (listed:Array Bool):Nat:=((List.range ops.size).filter fun i=>!inL listed i).length
theorem Bb0 {ops:Array Oper} {listed:Array Bool} {i:Nat} (hs:listed.size=ops.size) (hi:i<ops.size) (hn:inL listed i=false):left ops (listed.setIfInBounds i true)<left ops listed:=by
 unfold left;have:(fun k=>!inL (listed.setIfInBounds i true) k)=fun k=>(!inL listed k)&&!(k == i):=by
  funext k;rw [Ae1 (by omega)];simp
 rw [this];rw [show ((List.range ops.size).filter fun k=>(!inL listed k)&&!(k == i))=((List.range ops.size).filter fun k=>!inL listed k).filter fun k=>!(k == i) by rw [List.filter_filter];congr 1;funext k;rw [Bool.and_comm]];refine List.length_filter_lt_length_iff_exists.2 ⟨i,?_,by simp⟩;rw [List.mem_filter,List.mem_range];exact ⟨hi,by simp [hn]⟩
def Aj9 (ops:Array Oper) (L:Nat->Bool) (i:Nat):Prop:=(∀ j k,Abn ops ops.size j k=true->L k=true->L j=true)/\L i=false/\∀ j,Abn ops ops.size j i=true->L j=true
def dstP (o:Oper) (d:D):Pts:=o.dst.toList.map fun t=>(t,d)
theorem At2 {o:Oper} {d:D} {F:Fr}:putsF (dstP o d) F=set0 F o.dst d:=by
 unfold dstP;cases o.dst<;>rfl
theorem Apw {o:Oper} {d:D}:(dstP o d).map (·.1)=dstL o:=by
 unfold dstP dstL;cases o.dst<;>rfl
theorem Aey {o:Oper} {d:D} {s:Nat}:hasP (dstP o d) s=true↔o.dst=some s:=by
 unfold dstP hasP;cases o.dst with
 | none=>simp
 | some t=>simp
theorem Agf {p:Pts} {s:Nat}:hasP p s=true↔s∈p.map (·.1):=by
 rw [Aez,List.mem_map]
def Bgr (E:Env) (f:Nat) (call:Nat->List D->Option (D×List D)) (ops:Array Oper) (F:Fr) (rs:Rs) (x:Nat×Pts):Prop:=
 ∃ o d,ops[x.1]? = some o/\x.2=dstP o d/\∀ L,Aj9 ops L x.1->Aak E f call ops (appL L rs F) o=some d/\Abi ops (appL L rs F) o=true/\∀ t,o.dst=some t->get (appL L rs F) t=.undef
def Bgq (E:Env) (f:Nat) (V:List Nat) (call:Nat->List D->Option (D×List D)) (ops:Array Oper) (F:Fr) (rs:Rs) (x:Nat×Pts) (ks:List (Nat×Path)):Prop:=
 ∃ o M,ops[x.1]? = some o/\Abi ops M o=true/\wantedD ops M o=some true/\effC E f V call M o=some (x.2,ks)/\(∀ t,o.dst=some t->hasP x.2 t=true)/\∀ L,Aj9 ops L x.1->EffAt M x.2 ks o (appL L rs F)
def Bgp (E:Env) (f:Nat) (V:List Nat) (call:Nat->List D->Option (D×List D)) (ops:Array Oper) (F:Fr) (rs:Rs) (x:Nat×Pts):Option (List (Nat×Path))->Prop
 | none=>Bgr E f call ops F rs x
 | some ks=>Bgq E f V call ops F rs x ks
def Ahd (blk:Blk) (i:Nat):Prop:=∀ b∈blk,b.1=i->b.2.2=none
theorem Bbn {α:Type} {R:α->α->Prop}:∀ {l:List α},l.Pairwise R->∀ {x y:α},x∈l->y∈l->x=y∨R x y∨R y x
 | [],_,_,_,h,_=>by cases h
 | a::l,h,x,y,hx,hy=>by
  rw [List.pairwise_cons] at h;rw [List.mem_cons] at hx hy;rcases hx with hx | hx<;>rcases hy with hy | hy
  ·exact .inl (hx.trans hy.symm)
  ·rw [hx];exact .inr (.inl (h.1 y hy))
  ·rw [hy];exact .inr (.inr (h.1 x hx))
  ·exact Bbn h.2 hx hy
structure Stretch (E:Env) (f:Nat) (V:List Nat) (call:Nat->List D->Option (D×List D)) (ops:Array Oper) (F:Fr) (e:Nat) (rs:Rs) (blk:Blk):Prop where
 lt:∀ x∈rs,x.1<e
 ok:RsOK F rs
 ww:rs.Pairwise fun x y=>∀ s,hasP x.2 s=true->hasP y.2 s=true->Abn ops ops.size x.1 y.1=true
 bx:∀ b∈blk,∃ x∈rs,x.1=b.1/\x.2.map (·.1)=b.2.1
 xb:∀ x∈rs,∃ b∈blk,x.1=b.1/\x.2.map (·.1)=b.2.1/\Bgp E f V call ops F rs x b.2.2
 pur:∀ x∈rs,Ahd blk x.1->∀ t,hasP x.2 t=true->get F t=.undef/\∀ y∈rs,Ahd blk y.1->hasP y.2 t=true->y=x
 np:rs.Pairwise fun x y=>Ahd blk y.1->∀ s,hasP y.2 s=true->hasP x.2 s=false
 asc:rs.Pairwise fun x y=>x.1<y.1
variable {E:Env} {f:Nat} {V:List Nat} {call:Nat->List D->Option (D×List D)} {ops:Array Oper} {F:Fr} {e:Nat} {rs:Rs} {blk:Blk}
theorem Axu {i s:Nat}:(Aa9 ops blk i).contains s=true↔∃ b∈blk,Abn ops ops.size b.1 i=false/\s∈b.2.1:=by
 rw [List.contains_iff_mem];unfold Aa9;rw [List.mem_flatMap];constructor
 ·rintro ⟨b,hb,h⟩;rw [List.mem_filter] at hb;exact ⟨b,hb.1,by simpa using hb.2,h⟩
 ·rintro ⟨b,hb,h1,h2⟩;exact ⟨b,by rw [List.mem_filter];exact ⟨hb,by simp [h1]⟩,h2⟩
theorem Akj (hs:Stretch E f V call ops F e rs blk) {L:Nat->Bool} {i:Nat} (hr:∀ j,Abn ops ops.size j i=true->L j=true):Less (Ab0 (Aa9 ops blk i) (appL (fun _=>true) rs F)) (appL L rs F):=fun s=>by
 rw [Aex];by_cases hh:(Aa9 ops blk i).contains s=true
 ·left;rw [if_pos hh];rfl
 ·right;rw [if_neg hh];refine Afs rfl fun x hx hp=>?_;obtain ⟨b,hb,h1,h2,_⟩:=hs.xb x hx;refine hr _ ?_;rw [h1];cases hc:Abn ops ops.size b.1 i with
  | true=>rfl
  | false=>exact absurd (Axu.2 ⟨b,hb,hc,by rw [← h2];exact Agf.1 hp⟩) hh
theorem Agl {A B:Fr} (h:Less A B) {o:Oper} (hs:Abi ops A o=true):Abi ops B o=true:=by
 unfold Abi at hs ⊢;rw [List.all_eq_true] at hs ⊢;intro t ht;have:=hs t ht;rcases h t with h | h
 ·rw [h] at this;cases this
 ·rw [h];exact this
theorem Bb5:∀ {F:Fr} {s:Nat} {d:D} {x:Nat×D},x∈put0 F s d->x∈F∨x=(s,d)
 | [],_,_,_,h=>by simp only [put0,List.mem_singleton] at h;exact .inr h
 | (k,y)::r,s,d,x,h=>by
  simp only [put0] at h
  split at h
  ·rcases List.mem_cons.1 h with h | h
   ·exact .inr h
   ·exact .inl (by simp [h])
  ·rcases List.mem_cons.1 h with h | h
   ·exact .inl (by simp [h])
   ·rcases Bb5 h with h | h
    ·exact .inl (by simp [h])
    ·exact .inr h
theorem Alm {ops:Array Oper}:∀ {n j i:Nat},Abn ops n j i=true->j<i
 | 0,_,_,h=>by simp [Abn] at h
 | n+1,j,i,h=>by
  simp only [Abn] at h
  split at h
  ·cases h
  ·rw [List.any_eq_true] at h;obtain ⟨ed,_,h⟩:=h;simp only [Bool.and_eq_true,Bool.or_eq_true,beq_iff_eq,decide_eq_true_eq] at h;obtain ⟨⟨_,h1⟩,h⟩:=h;rcases h with h | ⟨h,_⟩<;>omega
theorem Aot {L:Nat->Bool}:∀ {rs:Rs} {F:Fr},(∀ y∈rs,L y.1=false)->appL L rs F=F
 | [],_,_=>rfl
 | (k,d)::rs,F,hy=>by
  simp only [appL,hy (k,d) (by simp),Bool.false_eq_true,if_false];exact Aot fun y hy'=>hy y (by simp [hy'])
theorem As4 (hs:Stretch E f V call ops F e rs blk) {L:Nat->Bool} {j s:Nat} {c:Option Nat} (hr:∀ k,Abn ops ops.size k j=true->L k=true) (hb:blk.all (Anj ops j s c)=true):∀ n,Ab5 (get (appL L (rs.take n) F) s) c=Ab5 (get (appL (fun _=>true) (rs.take n) F) s) c
 | 0=>by simp [appL]
 | n+1=>by
  have ih:=As4 hs hr hb n;by_cases hn:n<rs.length
  case neg=>
   rw [List.take_of_length_le (by omega)] at ih ⊢;exact ih
  rw [List.take_succ_eq_append_getElem hn,Aej,Aej];simp only [appL,if_true];have hx:rs[n]∈rs:=List.getElem_mem hn;cases hp:hasP rs[n].2 s with
  | false=>
   rw [Ab4 hp]
   split
   ·rw [Ab4 hp];exact ih
   ·exact ih
  | true=>
   cases hL:L rs[n].1 with
   | true=>simp only [if_true];rw [Ake hp]
   | false=>
    simp only [Bool.false_eq_true,if_false];rw [ih];obtain ⟨b,hbm,e1,e2,hf⟩:=hs.xb _ hx;have ha:=List.all_eq_true.1 hb b hbm;have hsl:b.2.1.contains s=true:=by rw [← e2,List.contains_iff_mem];exact Agf.1 hp
    have hre:Abn ops ops.size b.1 j=false:=by
     cases hc:Abn ops ops.size b.1 j with
     | false=>rfl
     | true=>rw [← e1] at hc;rw [hr _ hc] at hL;cases hL
    simp only [Anj,hre,hsl,Bool.not_true,Bool.false_or] at ha;cases hk:b.2.2 with
    | none=>rw [hk] at ha;cases ha
    | some ks=>
     rw [hk] at hf ha;obtain ⟨o',M,f1,f2,f3,f4,f5,f6⟩:=hf;simp only [Atk,← e1,f1,Bool.and_eq_true] at ha;have hlt:∀ y∈rs.take n,y.1<rs[n].1:=fun y hy=>by
      have:=hs.asc;rw [← List.take_append_drop n rs,List.pairwise_append] at this;refine this.2.2 y hy _ ?_;have h0:rs[n]∈rs[n]::rs.drop (n+1):=List.mem_cons_self
      rwa [← List.drop_eq_getElem_cons hn] at h0
     have hge:∀ y∈rs.drop n,rs[n].1<=y.1:=fun y hy=>by
      rw [List.drop_eq_getElem_cons hn] at hy;rcases List.mem_cons.1 hy with rfl | hy
      ·exact Nat.le_refl _
      ·have:=hs.asc;rw [← List.take_append_drop n rs,List.pairwise_append] at this;have:=this.2.1;rw [List.drop_eq_getElem_cons hn,List.pairwise_cons] at this;exact Nat.le_of_lt (this.1 y hy)
     have hfr:appL (fun k=>decide (k<rs[n].1)) rs F=appL (fun _=>true) (rs.take n) F:=by
      have h1:appL (fun k=>decide (k<rs[n].1)) rs F=appL (fun k=>decide (k<rs[n].1)) (rs.take n++rs.drop n) F:=by rw [List.take_append_drop]
      rw [h1,Aej,Aot (fun y hy=>by have:=hge y hy;simp;omega)];exact Aea fun y hy=>by have:=hlt y hy;simpa using this
     have ef:=f6 (fun k=>decide (k<rs[n].1)) ⟨fun a k h1 h2=>by
      have:=Alm h1;simp only [decide_eq_true_eq] at h2 ⊢
      omega,by simp,fun a h1=>by simpa using Alm h1⟩
     rw [hfr] at ef;exact (Asd ha.1 f4 (Agm f2).1 ef ha.2).symm
theorem cell_away' (hs:Stretch E f V call ops F e rs blk) {L:Nat->Bool} {j s:Nat} {c:Option Nat} (hr:∀ k,Abn ops ops.size k j=true->L k=true) (hb:blk.all (Anj ops j s c)=true):Ab5 (get (appL L rs F) s) c=Ab5 (get (appL (fun _=>true) rs F) s) c:=by
 have:=As4 hs hr hb rs.length
 rwa [List.take_length] at this
theorem Ast (hs:Stretch E f V call ops F e rs blk) {L:Nat->Bool} {j:Nat} (hr:∀ k,Abn ops ops.size k j=true->L k=true) {o:Oper} {s:Nat} {c:Option Nat} (ha:Ans E (Aa9 ops blk j) (appL (fun _=>true) rs F) o=some (s,c)) (hb:blk.all (Anj ops j s c)=true) :
  ∃ x,LitOp E o s c (appL L rs F)/\LitOp E o s c (appL (fun _=>true) rs F)/\Ab5 (get (appL L rs F) s) c=some x/\Ab5 (get (appL (fun _=>true) rs F) s) c=some x:=by
 obtain ⟨h1,⟨x,h2⟩,h3⟩:=Axp ha;refine ⟨x,h1.at fun u hu hn=>?_,h1,by rw [cell_away' hs hr hb];exact h2,h2⟩;obtain ⟨g1,g2⟩:=h3 u hu hn;have hm:=Akj hs hr u;rw [Aex,if_neg (by rw [g1];exact Bool.false_ne_true)] at hm;rcases hm with h | h
 ·exact absurd (Ac7.1 h) g2
 ·exact h
theorem Stretch.read0 (hs:Stretch E f V call ops F e rs blk) {i:Nat} (hi:e<=i) {o:Oper} (ho:ops[i]? = some o) {d:D} (hfact:∀ L,Aj9 ops L i->Aak E f call ops (appL L rs F) o=some d/\Abi ops (appL L rs F) o=true)
  (h2:Ade (appL (fun _=>true) rs F) o=true) (h3:Afm blk o=true) (h4:Ae4 ops blk i d=true) :
  Stretch E f V call ops F (i+1) (rs++[(i,dstP o d)]) ((i,dstL o,none)::blk)/\appL (fun _=>true) (rs++[(i,dstP o d)]) F=set0 (appL (fun _=>true) rs F) o.dst d:=by
 have hnew:∀ x∈rs,∀ t,o.dst=some t->hasP x.2 t=false:=fun x hx t ht=>by
  obtain ⟨b,hb,_,hsl,_⟩:=hs.xb x hx;cases hh:hasP x.2 t with
  | false=>rfl
  | true=>
   unfold Afm at h3;rw [ht] at h3;have:=List.all_eq_true.1 h3 b hb;rw [← hsl] at this;have hm:=Agf.1 hh;simp only [Bool.not_eq_true',List.contains_eq_mem,decide_eq_false_iff_not] at this;exact absurd hm this
 have hund:∀ (L:Nat->Bool) t,o.dst=some t->get (appL L rs F) t=.undef:=fun L t ht=>by
  have a:get (appL L rs F) t=get F t:=Acu fun x hx hh=>by rw [hnew x hx t ht] at hh;cases hh
  have b:get (appL (fun _=>true) rs F) t=get F t:=Acu fun x hx hh=>by rw [hnew x hx t ht] at hh;cases hh
  unfold Ade at h2;rw [ht] at h2;simp only [Bool.and_eq_true] at h2;rw [a,← b];exact Ac7.1 h2.1
 have hkey:∀ t,o.dst=some t->Aad F t=true:=fun t ht=>by
  unfold Ade at h2;rw [ht] at h2;simp only [Bool.and_eq_true] at h2;have h2:Aad (appL (fun _=>true) rs F) t=true:=h2.2;rw [Aau,Ahy hs.ok.key,← Aau] at h2;exact h2
 have happ:∀ L:Nat->Bool,appL L (rs++[(i,dstP o d)]) F=if L i then set0 (appL L rs F) o.dst d else appL L rs F:=fun L=>by
  rw [Aej];simp only [appL,At2]
 have hlt:∀ x∈rs,x.1≠i:=fun x hx h=>by have:=hs.lt x hx;omega
 refine ⟨⟨fun x hx=>?_,⟨fun x hx y hy=>?_,?_⟩,?_,fun b hb=>?_,fun x hx=>?_,fun x hx hn t ht=>?_,?_,?_⟩,by rw [happ];rfl⟩
 ·rcases List.mem_append.1 hx with hx | hx
  ·have:=hs.lt x hx;omega
  ·simp only [List.mem_singleton] at hx;subst hx;simp
 ·rcases List.mem_append.1 hx with hx | hx
  ·exact hs.ok.key x hx y hy
  ·simp only [List.mem_singleton] at hx;subst hx;exact hkey _ (Aey.1 (Aez.2 ⟨y,hy,rfl⟩))
 ·rw [List.map_append,List.nodup_append];refine ⟨hs.ok.idx,by simp,?_⟩;rintro a ha b hb rfl;simp only [List.map_cons,List.map_nil,List.mem_singleton] at hb;obtain ⟨z,hz,rfl⟩:=List.mem_map.1 ha;exact hlt z hz hb
 ·rw [List.pairwise_append];refine ⟨hs.ww,List.pairwise_singleton _ _,fun x hx y hy s a b=>?_⟩;simp only [List.mem_singleton] at hy;subst hy;rw [hnew x hx s (Aey.1 b)] at a;cases a
 ·rcases List.mem_cons.1 hb with rfl | hb
  ·exact ⟨_,List.mem_append_right _ (List.mem_singleton.2 rfl),rfl,Apw⟩
  ·obtain ⟨x,hx,h⟩:=hs.bx b hb;exact ⟨x,List.mem_append_left _ hx,h⟩
 ·rcases List.mem_append.1 hx with hx | hx
  ·obtain ⟨b,hb,e1,e2,hf⟩:=hs.xb x hx;refine ⟨b,by simp [hb],e1,e2,?_⟩;have more:∀ L:Nat->Bool,Less (appL L rs F) (appL L (rs++[(i,dstP o d)]) F):=fun L s=>by
    rw [happ]
    split
    ·rw [Aih]
     split
     ·rename_i ht;left;rw [hund L s ht];rfl
     ·exact .inr rfl
    ·exact .inr rfl
   cases hk:b.2.2 with
   | none=>
    rw [hk] at hf;obtain ⟨o',d',f1,f2,f3⟩:=hf;refine ⟨o',d',f1,f2,fun L hL=>?_⟩;obtain ⟨g1,g2,g3⟩:=f3 L hL;refine ⟨Afd (more L) g2 g1,Agl (more L) g2,fun t ht=>?_⟩;rw [happ]
    split
    ·rw [Aih]
     split
     ·rename_i hto;have:=hnew x hx t hto;rw [f2,← Bool.not_eq_true] at this;exact absurd (Aey.2 ht) this
     ·exact g3 t ht
    ·exact g3 t ht
   | some ks=>
    rw [hk] at hf;obtain ⟨o',M,f1,f2,f3,f4,f5,f6⟩:=hf;refine ⟨o',M,f1,f2,f3,f4,f5,fun L hL=>?_⟩;have g:=f6 L hL;have hsafe:L i=true->Agk ks d=true:=fun hLi=>by
     have:=List.all_eq_true.1 h4 b hb;simp only [hk,Bool.or_eq_true] at this;rcases this with h | h
     ·rw [← e1] at h;have:=hL.1 _ _ h hLi;rw [hL.2.1] at this;cases this
     ·exact h
    refine ⟨g.less.trans (more L),?_,fun k hkp=>?_,fun t ht=>?_,fun y hy=>?_⟩
    ·rw [happ]
     split
     ·cases hd:o.dst with
      | none=>exact g.nodup
      | some t=>
       simp only [set0];rw [Abs (Ajv (hkey t hd))];exact g.nodup
     ·exact g.nodup
    ·rw [happ]
     split
     ·rename_i hLi;rw [Aih]
      split
      ·exact hsafe hLi
      ·exact g.safe k hkp
     ·exact g.safe k hkp
    ·rw [happ]
     split
     ·rw [Aih]
      split
      ·rename_i hto;have:=hnew x hx t hto;rw [f5 t ht] at this;cases this
      ·exact g.free t ht
     ·exact g.free t ht
    ·rw [happ]
     split
     ·cases hd:o.dst with
      | none=>exact g.key y hy
      | some t=>exact Adu _ _ _ _ (g.key y hy)
     ·exact g.key y hy
  ·simp only [List.mem_singleton] at hx;subst hx;refine ⟨_,List.mem_cons_self,rfl,Apw,o,d,ho,rfl,fun L hL=>?_⟩;have hLi:L i=false:=hL.2.1;rw [happ,hLi];simp only [Bool.false_eq_true,if_false];exact ⟨(hfact L hL).1,(hfact L hL).2,hund L⟩
 ·rcases List.mem_append.1 hx with hx | hx
  ·obtain ⟨a1,a2⟩:=hs.pur x hx (fun b hb=>hn b (by simp [hb])) t ht;refine ⟨a1,fun y hy hyn hyt=>?_⟩;rcases List.mem_append.1 hy with hy | hy
   ·exact a2 y hy (fun b hb=>hyn b (by simp [hb])) hyt
   ·simp only [List.mem_singleton] at hy;subst hy;rw [hnew x hx t (Aey.1 hyt)] at ht;cases ht
  ·simp only [List.mem_singleton] at hx;subst hx;have hto:=Aey.1 ht;refine ⟨?_,fun y hy _ hyt=>?_⟩
   ·have:=hund (fun _=>false) t hto
    rwa [Acu fun _ _ _=>rfl] at this
   ·rcases List.mem_append.1 hy with hy | hy
    ·rw [hnew y hy t hto] at hyt;cases hyt
    ·simpa using hy
 ·rw [List.pairwise_append];refine ⟨hs.np.imp fun h hy=>h fun b hb=>hy b (by simp [hb]),List.pairwise_singleton _ _,fun x hx y hy _ s hys=>?_⟩;simp only [List.mem_singleton] at hy;subst hy;exact hnew x hx s (Aey.1 hys)
 ·rw [List.pairwise_append];refine ⟨hs.asc,List.pairwise_singleton _ _,fun x hx y hy=>?_⟩;simp only [List.mem_singleton] at hy;subst hy;have:=hs.lt x hx;simp only;omega
theorem Stretch.read (hs:Stretch E f V call ops F e rs blk) {i:Nat} (hi:e<=i) {o:Oper} (ho:ops[i]? = some o) {d:D} (hp:Aak E f call ops (Ab0 (Aa9 ops blk i) (appL (fun _=>true) rs F)) o=some d)
  (h1:Abi ops (Ab0 (Aa9 ops blk i) (appL (fun _=>true) rs F)) o=true) (h2:Ade (appL (fun _=>true) rs F) o=true) (h3:Afm blk o=true) (h4:Ae4 ops blk i d=true) :
  Stretch E f V call ops F (i+1) (rs++[(i,dstP o d)]) ((i,dstL o,none)::blk)/\appL (fun _=>true) (rs++[(i,dstP o d)]) F=set0 (appL (fun _=>true) rs F) o.dst d:=
 hs.read0 hi ho (fun L hL=>⟨Afd (Akj hs hL.2.2) h1 hp,Agl (Akj hs hL.2.2) h1⟩) h2 h3 h4
theorem Aql:∀ {l:List Nat},Aqk l=true->l.Nodup
 | [],_=>List.nodup_nil
 | k::r,h=>by
  simp only [Aqk,Bool.and_eq_true,Bool.not_eq_true',List.contains_eq_mem,decide_eq_false_iff_not] at h;exact List.nodup_cons.2 ⟨h.1,Aql h.2⟩
theorem Ay5 {a b:D} (h:Arr a b=true):a=b:=by
 unfold Arr at h
 split at h
 ·simp only [Bool.and_eq_true,beq_iff_eq] at h;rw [Nat.eq_of_beq_eq_true h.1,h.2]
 ·simp only [Bool.and_eq_true,beq_iff_eq] at h;rw [Nat.eq_of_beq_eq_true h.1,h.2.1,Nat.eq_of_beq_eq_true h.2.2.1,Nat.eq_of_beq_eq_true h.2.2.2]
 ·cases h
theorem Bdh {F:Fr} {k:Nat}:get F k=.undef∨(k,get F k)∈F:=by
 induction F with
 | nil=>exact .inl rfl
 | cons x r ih=>
  obtain ⟨q,d⟩:=x;simp only [get]
  split
  ·rename_i h;subst h;exact .inr (by simp)
  ·rcases ih with h | h
   ·exact .inl h
   ·exact .inr (by simp [h])
theorem Aoj {ks:List (Nat×Path)}:Agk ks D.undef=true:=rfl
variable (hle:∀ {o:Oper} {A:Fr} {d:D},Aak E f Ag7 ops A o=some d->Aak E f call ops A o=some d)
include hle
theorem Stretch.act (hs:Stretch E f V call ops F e rs blk) {i:Nat} (hi:e<=i) {o:Oper} (ho:ops[i]? = some o) {p:Pts} {ks:List (Nat×Path)} (hw:wantedD ops (Ab0 (Aa9 ops blk i) (appL (fun _=>true) rs F)) o=some true)
  (hp:effC E f V call (Ab0 (Aa9 ops blk i) (appL (fun _=>true) rs F)) o=some (p,ks)) (hok:Atn E f ops blk i (appL (fun _=>true) rs F) o p ks=true) :
  Stretch E f V call ops F (i+1) (rs++[(i,p)]) ((i,p.map (·.1),some ks)::blk)/\appL (fun _=>true) (rs++[(i,p)]) F=putsF p (appL (fun _=>true) rs F):=by
 unfold Atn at hok;simp only [Bool.and_eq_true] at hok;obtain ⟨⟨⟨⟨⟨⟨⟨c1,c2⟩,c3⟩,c4⟩,c5⟩,c6⟩,c7⟩,c8⟩:=hok;have hlt:∀ x∈rs,x.1≠i:=fun x hx h=>by have:=hs.lt x hx;omega
 have hkG:∀ L:Nat->Bool,Aaj (appL L rs F)=Aaj F:=fun L=>Ahy hs.ok.key;have hkeyF:∀ x∈p,Aad F x.1=true:=fun x hx=>by
  have h:Aad (appL (fun _=>true) rs F) x.1=true:=List.all_eq_true.1 c6 x hx;rw [Aau,hkG,← Aau] at h;exact h
 have happ:∀ L:Nat->Bool,appL L (rs++[(i,p)]) F=if L i then putsF p (appL L rs F) else appL L rs F:=fun L=>by
  rw [Aej];simp only [appL]
 have hrow0:∀ b∈blk,Abn ops ops.size b.1 i=true∨(b.2.2=none/\(∀ t,t∈b.2.1->hasP p t=false)/\(Apo ops blk (appL (fun _=>true) rs F) p b.1 || (again E f ops blk (appL (fun _=>true) rs F) p b || Apn E ops blk i (appL (fun _=>true) rs F) p ks b.1))=true):=fun b hb=>by
  have:=List.all_eq_true.1 c8 b hb;simp only [Bool.and_eq_true,Bool.or_eq_true,Option.isNone_iff_eq_none] at this;rcases this with h | ⟨h1,h2,h3⟩
  ·exact .inl h
  ·refine .inr ⟨h1,fun t ht=>?_,by rw [Bool.or_eq_true,Bool.or_eq_true];exact h3⟩;have h4:=List.all_eq_true.1 h2 t ht;simpa using h4
 have hval:∀ (L:Nat->Bool) k,Aj9 ops L i->get (appL L rs F) k=.undef∨get (appL L rs F) k=get (appL (fun _=>true) rs F) k:=fun L k hL=>by
  have acts:∀ y∈rs,¬ Ahd blk y.1->L y.1=true:=fun y _ hy=>by
   simp only [Ahd,Classical.not_forall] at hy;obtain ⟨b,hb,e1,e2⟩:=hy;rcases hrow0 b hb with h | ⟨h,_⟩
   ·exact hL.2.2 _ (by rw [← e1];exact h)
   ·exact absurd h e2
  by_cases hac:∃ a∈rs,hasP a.2 k=true/\¬ Ahd blk a.1
  ·obtain ⟨a,ha,hak,hap⟩:=hac;refine .inr (Afs rfl fun y hy hyk=>?_);by_cases hyp:Ahd blk y.1
   ·rcases Bbn (hs.ww.and hs.np) hy ha with rfl | ⟨h1,_⟩ | ⟨_,h2⟩
    ·exact absurd hyp hap
    ·exact hL.1 _ _ (h1 k hyk hak) (acts a ha hap)
    ·rw [h2 hyp k hyk] at hak;cases hak
   ·exact acts y hy hyp
  ·have hpu:∀ y∈rs,hasP y.2 k=true->Ahd blk y.1:=fun y hy hyk=>Classical.byContradiction fun h=>hac ⟨y,hy,hyk,h⟩;by_cases hex:∃ x∈rs,hasP x.2 k=true
   ·obtain ⟨x,hx,hxk⟩:=hex;obtain ⟨a1,a2⟩:=hs.pur x hx (hpu x hx hxk) k hxk;cases hLx:L x.1 with
    | true=>exact .inr (Afs rfl fun y hy hyk=>by rw [a2 y hy (hpu y hy hyk) hyk];exact hLx)
    | false=>exact .inl (by rw [Acu fun y hy hyk=>by rw [a2 y hy (hpu y hy hyk) hyk];exact hLx];exact a1)
   ·have hno:∀ y∈rs,hasP y.2 k≠true:=fun y hy h=>hex ⟨y,hy,h⟩;right;rw [Acu fun y hy h=>absurd h (hno y hy),Acu fun y hy h=>absurd h (hno y hy)]
 have hdstL:∀ (L:Nat->Bool),Aj9 ops L i->∀ t,o.dst=some t->get (appL L rs F) t=.undef∨(Afa o=true/\get (Ab0 (Aa9 ops blk i) (appL (fun _=>true) rs F)) t≠.undef):=fun L hL t ht=>by
  rw [Bool.or_eq_true] at c2;rcases c2 with c2 | c2
  ·rcases hval L t hL with h | h
   ·exact .inl h
   ·refine .inl ?_;rw [h];unfold Ade at c2;rw [ht] at c2;simp only [Bool.and_eq_true] at c2;exact Ac7.1 c2.1
  ·unfold Awu at c2;rw [ht] at c2;simp only [Bool.and_eq_true,Bool.not_eq_true'] at c2;exact .inr ⟨c2.1,fun h=>by rw [h] at c2;cases c2.2⟩
 have heff:∀ L:Nat->Bool,Aj9 ops L i->EffAt (Ab0 (Aa9 ops blk i) (appL (fun _=>true) rs F)) p ks o (appL L rs F):=fun L hL=>by
  refine ⟨Akj hs hL.2.2,?_,fun k hk=>?_,fun t ht=>?_,fun x hx=>Ajv (hkeyF x hx)⟩
  ·rw [hkG];have:=Aql c4
   rwa [show (appL (fun _=>true) rs F).map (·.1)=Aaj (appL (fun _=>true) rs F) from rfl,hkG] at this
  ·rcases hval L k hL with h | h
   ·rw [h];exact Aoj
   ·rw [h];rcases Bdh (F:=appL (fun _=>true) rs F) (k:=k) with h | h
    ·rw [h];exact Aoj
    ·have:=List.all_eq_true.1 c5 _ h;simp only [hk,Bool.false_or] at this;exact this
  ·exact hdstL L hL t ht
 have hrow:∀ x∈rs,∀ b∈blk,x.1=b.1->x.2.map (·.1)=b.2.1->Abn ops ops.size x.1 i=true∨(b.2.2=none/\(∀ t,hasP x.2 t=true->hasP p t=false)/\(Apo ops blk (appL (fun _=>true) rs F) p b.1 || (again E f ops blk (appL (fun _=>true) rs F) p b || Apn E ops blk i (appL (fun _=>true) rs F) p ks b.1))=true):=fun x hx b hb e1 e2=>by
  rcases hrow0 b hb with h | ⟨h1,h2,h3⟩
  ·rw [← e1] at h;exact .inl h
  ·exact .inr ⟨h1,fun t ht=>h2 t (by rw [← e2];exact Agf.1 ht),h3⟩
 refine ⟨⟨fun x hx=>?_,⟨fun x hx y hy=>?_,?_⟩,?_,fun b hb=>?_,fun x hx=>?_,fun x hx hn t ht=>?_,?_,?_⟩,by rw [happ];rfl⟩
 ·rcases List.mem_append.1 hx with hx | hx
  ·have:=hs.lt x hx;omega
  ·simp only [List.mem_singleton] at hx;subst hx;simp
 ·rcases List.mem_append.1 hx with hx | hx
  ·exact hs.ok.key x hx y hy
  ·simp only [List.mem_singleton] at hx;subst hx;exact hkeyF y hy
 ·rw [List.map_append,List.nodup_append];refine ⟨hs.ok.idx,by simp,?_⟩;rintro a ha b hb rfl;simp only [List.map_cons,List.map_nil,List.mem_singleton] at hb;obtain ⟨z,hz,rfl⟩:=List.mem_map.1 ha;exact hlt z hz hb
 ·rw [List.pairwise_append];refine ⟨hs.ww,List.pairwise_singleton _ _,fun x hx y hy s a b=>?_⟩;simp only [List.mem_singleton] at hy;subst hy;obtain ⟨bb,hbb,e1,e2,_⟩:=hs.xb x hx;rcases hrow x hx bb hbb e1 e2 with h | ⟨_,h,_⟩
  ·exact h
  ·rw [h s a] at b;cases b
 ·rcases List.mem_cons.1 hb with rfl | hb
  ·exact ⟨_,List.mem_append_right _ (List.mem_singleton.2 rfl),rfl,rfl⟩
  ·obtain ⟨x,hx,h⟩:=hs.bx b hb;exact ⟨x,List.mem_append_left _ hx,h⟩
 ·rcases List.mem_append.1 hx with hx | hx
  ·obtain ⟨b,hb,e1,e2,hf⟩:=hs.xb x hx;refine ⟨b,by simp [hb],e1,e2,?_⟩;cases hbk:b.2.2 with
   | some ks'=>
    rw [hbk] at hf;obtain ⟨o',M,f1,f2,f3,f4,f5,f6⟩:=hf;refine ⟨o',M,f1,f2,f3,f4,f5,fun L hL=>?_⟩;have hLi:L i=false:=by
     rcases hrow x hx b hb e1 e2 with h | ⟨h,_⟩
     ·cases hc:L i with
      | false=>rfl
      | true=>have:=hL.1 _ _ h hc;rw [hL.2.1] at this;cases this
     ·rw [hbk] at h;cases h
    rw [happ,hLi];exact f6 L hL
   | none=>
   rw [hbk] at hf;obtain ⟨o',d',f1,f2,f3⟩:=hf;refine ⟨o',d',f1,f2,fun L hL=>?_⟩;obtain ⟨g1,g2,g3⟩:=f3 L hL;rw [happ]
   split
   ·rename_i hLi;rcases hrow x hx b hb e1 e2 with h | ⟨_,hdis,hag⟩
    ·have:=hL.1 _ _ h hLi;rw [hL.2.1] at this;cases this
    ·
     have hm:=Akj hs (L:=L) (i:=x.1) hL.2.2;have hfree:∀ t,o'.dst=some t->get (putsF p (appL L rs F)) t=.undef:=fun t ht=>by
      rw [Ab4 (hdis t (by rw [f2];exact Aey.2 ht))];exact g3 t ht
     rw [Bool.or_eq_true] at hag;rcases hag with hag | hag
     ·unfold Apo at hag;rw [← e1,f1] at hag;simp only [Bool.and_eq_true,Option.isNone_iff_eq_none] at hag;obtain ⟨⟨hk,hgd⟩,hall⟩:=hag;have hm:=Akj hs (L:=L) (i:=x.1) hL.2.2;have look:∀ u∈Abe o',get (appL L rs F) u=get (appL (fun _=>true) rs F) u/\hasP p u=false/\∀ s∈Abu (get (appL (fun _=>true) rs F) u),hasP p s=false:=fun u hu=>by
       have:=List.all_eq_true.1 hall u hu;simp only [Bool.and_eq_true,Bool.not_eq_true'] at this;obtain ⟨⟨⟨u1,u2⟩,u3⟩,u4⟩:=this;refine ⟨?_,u3,fun s hs=>?_⟩
       ·have h:=hm u;rw [Aex,if_neg (by rw [u1];exact Bool.false_ne_true)] at h;rcases h with h | h
        ·rw [u2] at h;cases h
        ·exact h
       ·have:=List.all_eq_true.1 u4 s hs;simpa using this
      have hc:Aak E f call ops (putsF p (appL L rs F)) o'=Aak E f call ops (appL L rs F) o':=Ay2 hk hgd fun u hu=>by
       obtain ⟨u1,u2,u3⟩:=look u hu;refine ⟨Ab4 u2,fun s hs=>Ab4 ?_⟩;rw [u1] at hs;exact u3 s hs
      refine ⟨by rw [hc];exact g1,?_,fun t ht=>by rw [Ab4 (hdis t (by rw [f2];exact Aey.2 ht))];exact g3 t ht⟩;unfold Abi at g2 ⊢;rw [List.all_eq_true] at g2 ⊢;intro t ht;have:=g2 t ht;rcases List.mem_append.1 ht with ht | ht
      ·rw [Ab4 (look t ht).2.1];exact this
      ·simp [Agx,hgd] at ht
     rw [Bool.or_eq_true] at hag;rcases hag with hag | hag
     case inr=>
      unfold Apn at hag;rw [← e1,f1] at hag;simp only at hag
      split at hag
      case h_2=>cases hag
      rename_i s c hla;simp only [Bool.and_eq_true] at hag;obtain ⟨⟨ha1,ha2⟩,ha3⟩:=hag;obtain ⟨v,l1,_,l3,l4⟩:=Ast hs (L:=L) (j:=x.1) hL.2.2 hla ha2;have hL':Aj9 ops (fun k=>L k&&decide (k<i)) i:=⟨fun a k q1 q2=>by
       simp only [Bool.and_eq_true,decide_eq_true_eq] at q2 ⊢;exact ⟨hL.1 _ _ q1 q2.1,Nat.lt_trans (Alm q1) q2.2⟩,by simp,fun a q1=>by
       simp only [Bool.and_eq_true,decide_eq_true_eq]
       exact ⟨hL.1 _ _ q1 hLi,Alm q1⟩⟩
      have hG:appL (fun k=>L k&&decide (k<i)) rs F=appL L rs F:=Aea fun y hy=>by
       have:=hs.lt y hy;simp only [Bool.and_eq_left_iff_imp,decide_eq_true_eq];intro _;omega
      have ef:=heff _ hL';rw [hG] at ef;simp only [Atk,ho,Bool.and_eq_true] at ha1;have hcell:=Asd ha1.1 hp (Agm c1).1 ef ha1.2;have l2:LitOp E o' s c (putsF p (appL L rs F)):=l1.at fun u hu hn=>by
       refine Ab4 ?_;have:=List.all_eq_true.1 ha3 u hu;simp only [Bool.or_eq_true,Bool.not_eq_true'] at this;rcases this with h | h
       ·exact absurd (Nat.eq_of_beq_eq_true h) hn
       ·exact h
      refine ⟨?_,l2.sees (hcell.trans l3),hfree⟩;exact l1.val l2 l3 (hcell.trans l3) g1
     unfold again at hag;rw [← e1,f1] at hag;simp only [Bool.or_eq_true] at hag;rcases hag with hag | hag
     ·simp only [Bool.and_eq_true] at hag;obtain ⟨d2,hd2⟩:=Option.isSome_iff_exists.1 hag.1;have l1:Less (Ab0 (p.map (·.1)++Aa9 ops blk x.1) (appL (fun _=>true) rs F)) (appL L rs F):=fun k=>by
       rw [Aex];by_cases hk:(p.map (·.1)++Aa9 ops blk x.1).contains k=true
       ·rw [if_pos hk];exact .inl rfl
       ·rw [if_neg hk];have:=hm k;rw [Aex,if_neg (fun h=>hk (by simp only [List.contains_eq_mem,decide_eq_true_eq,List.mem_append] at h ⊢;exact .inr h))] at this;exact this
      have l2:Less (Ab0 (p.map (·.1)++Aa9 ops blk x.1) (appL (fun _=>true) rs F)) (putsF p (appL L rs F)):=fun k=>by
       cases hk:hasP p k with
       | true=>
        left;rw [Aex,if_pos (by simp only [List.contains_eq_mem,decide_eq_true_eq,List.mem_append];exact .inl (Agf.1 hk))];rfl
       | false=>rw [Ab4 hk];exact l1 k
      have v1:=Afd l1 hag.2 (hle hd2);rw [g1] at v1;have v2:=Afd l2 hag.2 (hle hd2);exact ⟨by rw [v2,v1],Agl l2 hag.2,hfree⟩
     ·split at hag
      ·rename_i d1 d2 hd1 hd2;simp only [Bool.and_eq_true] at hag;have e0:=Ay5 hag.1.1;have v1:=Afd hm hag.2 (hle hd2);rw [g1] at v1;have l2:=hm.putsF p;have v2:=Afd l2 hag.1.2 (hle hd1);exact ⟨by rw [v2,e0,v1],Agl l2 hag.1.2,hfree⟩
      ·cases hag
   ·exact ⟨g1,g2,g3⟩
  ·simp only [List.mem_singleton] at hx;subst hx;refine ⟨_,List.mem_cons_self,rfl,rfl,o,_,ho,c1,hw,hp,fun t ht=>?_,fun L hL=>?_⟩
   ·rw [ht] at c7;exact c7
   ·have hLi:L i=false:=hL.2.1;rw [happ,hLi];simp only [Bool.false_eq_true,if_false];exact heff L hL
 ·rcases List.mem_append.1 hx with hx | hx
  ·obtain ⟨a1,a2⟩:=hs.pur x hx (fun b hb=>hn b (by simp [hb])) t ht;refine ⟨a1,fun y hy hyn hyt=>?_⟩;rcases List.mem_append.1 hy with hy | hy
   ·exact a2 y hy (fun b hb=>hyn b (by simp [hb])) hyt
   ·simp only [List.mem_singleton] at hy;subst hy;have:=hyn (i,p.map (·.1),some ks) (by simp) rfl;cases this
  ·simp only [List.mem_singleton] at hx;subst hx;have:=hn (i,p.map (·.1),some ks) (by simp) rfl;cases this
 ·rw [List.pairwise_append];refine ⟨hs.np.imp fun h hy=>h fun b hb=>hy b (by simp [hb]),List.pairwise_singleton _ _,fun x hx y hy hyn=>?_⟩;simp only [List.mem_singleton] at hy;subst hy;have:=hyn (i,p.map (·.1),some ks) (by simp) rfl;cases this
 ·rw [List.pairwise_append];refine ⟨hs.asc,List.pairwise_singleton _ _,fun x hx y hy=>?_⟩;simp only [List.mem_singleton] at hy;subst hy;have:=hs.lt x hx;simp only;omega
def Ends (E:Env) (f:Nat) (V:List Nat) (call:Nat->List D->Option (D×List D)) (ops:Array Oper) (F:Fr) (i:Nat) (rs:Rs) (Fend:Fr):Prop:=
 ∃ e rs' blk',Stretch E f V call ops F e rs' blk'/\e<=ops.size/\(∀ j,j<e->j<i∨∃ x∈rs',x.1=j)/\i<=e/\(∃ ext,rs'=rs++ext/\∀ x∈ext,i<=x.1) /\
    ((e=ops.size/\Fend=appL (fun _=>true) rs' F) ∨
     (∃ o,ops[e]? = some o/\Abk ops e=true/\∃ x,wantedD ops (appL (fun _=>true) rs' F) o=some x /\
      ∃ F',(if x then opC E f V call (appL (fun _=>true) rs' F) o else some (fin (appL (fun _=>true) rs' F) o.dst (.tup [])))=some F'/\Abz E f V call ops (List.range' (e+1) (ops.size-(e+1))) [] F'=some Fend))
theorem Afp {Fend:Fr} :
  ∀ (k i:Nat) {rs:Rs} {blk:Blk},i+k=ops.size->Stretch E f V call ops F i rs blk->Abz E f V call ops (List.range' i k) blk (appL (fun _=>true) rs F)=some Fend->Ends E f V call ops F i rs Fend
 | 0,i,rs,blk,hk,hs,hd=>by
  simp only [List.range'_zero,Abz,zJ] at hd;exact ⟨i,rs,blk,hs,by omega,fun j hj=>.inl hj,Nat.le_refl i,⟨[],by simp,by simp⟩,.inl ⟨by omega,hd.symm⟩⟩
 | k+1,i,rs,blk,hk,hs,hd=>by
  have hkk:ops.size-(i+1)=k:=by omega
  have goon:∀ {p:Pts} {blk1:Blk},Stretch E f V call ops F (i+1) (rs++[(i,p)]) blk1->Abz E f V call ops (List.range' (i+1) k) blk1 (appL (fun _=>true) (rs++[(i,p)]) F)=some Fend->Ends E f V call ops F i rs Fend:=fun {p} {blk1} hs' hd'=>by
   obtain ⟨e,rs',blk',r1,r2,r4,r7,⟨ext,r5,r8⟩,r6⟩:=Afp k (i+1) (by omega) hs' hd';refine ⟨e,rs',blk',r1,r2,fun j hj=>?_,by omega,⟨(i,p)::ext,by rw [r5,List.append_assoc];rfl,fun x hx=>?_⟩,r6⟩
   ·rcases r4 j hj with h | h
    ·rcases Nat.lt_or_ge j i with h' | h'
     ·exact .inl h'
     ·have:j=i:=by omega
      subst this;exact .inr ⟨_,by rw [r5];exact List.mem_append_left _ (List.mem_append_right _ (List.mem_singleton.2 rfl)),rfl⟩
    ·exact .inr h
   ·rcases List.mem_cons.1 hx with rfl | h
    ·exact Nat.le_refl _
    ·have:=r8 x h;omega
  rw [List.range'_succ] at hd;simp only [Abz] at hd
  split at hd
  ·cases hd
  ·rename_i o ho;by_cases han:Abk ops i=true
   case neg=>
    rw [if_neg han] at hd
    split at hd
    ·rename_i d hp
     split at hd
     case isFalse=>cases hd
     rename_i hc;simp only [Bool.and_eq_true] at hc;obtain ⟨⟨⟨h1,h2⟩,h3⟩,h4⟩:=hc;obtain ⟨q1,q2⟩:=hs.read (Nat.le_refl i) ho hp h1 h2 h3 h4;exact goon q1 (by rw [q2];exact hd)
    ·split at hd
     ·rename_i b hb;unfold effS at hb
      split at hb
      ·rename_i d hlit
       split at hb
       case isFalse=>cases hb
       rename_i hc;simp only [Bool.and_eq_true] at hc;obtain ⟨⟨h2,h3⟩,h4⟩:=hc;simp only [zJ] at hb;subst hb;unfold Aia at hlit
       split at hlit
       case h_2=>cases hlit
       rename_i s c hla
       split at hlit
       case isFalse=>cases hlit
       rename_i hab;obtain ⟨q1,q2⟩:=hs.read0 (Nat.le_refl i) ho (fun L hL=>by
        obtain ⟨v,l1,l2,l3,l4⟩:=Ast hs (L:=L) (j:=i) hL.2.2 hla hab
        exact ⟨l2.val l1 l4 l3 hlit,l1.sees l3⟩) h2 h3 h4
       exact goon q1 (by rw [q2];exact hd)
      split at hb
      case h_2=>cases hb
      rename_i hw
      split at hb
      case h_2=>cases hb
      rename_i r hr
      split at hb
      case isFalse=>cases hb
      rename_i hok;simp only [zJ] at hb;subst hb;obtain ⟨q1,q2⟩:=hs.act hle (Nat.le_refl i) ho (p:=r.1) (ks:=r.2) hw hr hok;exact goon q1 (by rw [q2];exact hd)
     ·cases hd
   case pos=>
    rw [if_pos han] at hd;refine ⟨i,rs,blk,hs,by omega,fun j hj=>.inl hj,Nat.le_refl i,⟨[],by simp,by simp⟩,.inr ⟨o,ho,han,?_⟩⟩;cases hw:wantedD ops (appL (fun _=>true) rs F) o with
    | none=>simp [hw] at hd
    | some x=>
     refine ⟨x,rfl,?_⟩;rw [hw] at hd;cases x with
     | true=>
      simp only at hd;cases hc:opC E f V call (appL (fun _=>true) rs F) o with
      | none=>simp [hc] at hd
      | some F1=>
       simp only [hc] at hd;exact ⟨F1,by simp,by rw [hkk];exact hd⟩
     | false=>exact ⟨_,by simp;rfl,by rw [hkk];exact hd⟩
omit hle
section
variable {n:Nat} {R:Nat->Value} {M:Mem} {G:FT} {H:Blks} {w0:World} {B:List Nat}
theorem Auh {F:Fr} {dst:Option Nat} {d:D} (h:∀ t,dst=some t->get F t=.undef):fin F dst d=set0 F dst d:=by
 cases dst with
 | none=>rfl
 | some t=>simp only [fin,put,h t rfl,D.quiet,if_true,set0]
theorem Ayq {E:Env} {f:Nat} {V:List Nat} {call:Nat->List D->Option (D×List D)} (hcall:Abq E call) (hgd:Good E M) {ops:Array Oper} (hfit:Aeq n ops) {Q:Exit->Act->World->Prop} {F F':Fr} {a:Act} {w:World} (h:Post n R M B w0 F a w) {i:Nat} {o:Oper} (ho:ops[i]? = some o) {x:Bool} (hw:wantedD ops F o=some x)
  (hop:(if x then opC E f V call F o else some (fin F o.dst (.tup [])))=some F') {K:Act->World->Prop} (hK:∀ a' w',Post n R M B w0 F' a' w'->K a' w'):wpOp E.P ops Q i K a w:=by
 obtain ⟨M1,G1,h1,e1⟩:=h;unfold wpOp;simp only [ho];rw [Ai4 h1 hfit.guard hw];cases x with
 | true=>
  simp only [if_true] at hop ⊢;exact .inl (Av0 hcall (hgd.mono e1.memle) h1 (hfit i o ho) hop fun a' w' hp=>hK _ _ (hp.trans e1))
 | false=>
  simp only [Bool.false_eq_true,if_false,zJ] at hop ⊢;subst hop;exact hK _ _ ((Ad1 h1 o.dst (hfit i o ho).2 (Evo.refl M1 _ _)).trans e1)
theorem Asc (hle:∀ {o:Oper} {A:Fr} {d:D},Aak E f Ag7 ops A o=some d->Aak E f call ops A o=some d) (hcall:Abq E call) (hgd:Good E M) (hfit:Aeq n ops) (hback:Aeu ops=true) {Q:Exit->Act->World->Prop} {Fend:Fr} (hQ:∀ a' w',Post n R M B w0 Fend a' w'->Q .normal a' w') :
  ∀ (fuel:Nat) {listed:Array Bool} {F:Fr} {a:Act} {w:World} {e:Nat} {rs:Rs} {blk:Blk},listed.size=ops.size->left ops listed<=fuel->Ak6 ops listed->(∀ j,j<e->inL listed j=true∨∃ x∈rs,x.1=j) ->
   Stretch E f V call ops F e rs blk->e<=ops.size->(∀ i,inL listed i=true->i<e) ->
   ((e=ops.size/\Fend=appL (fun _=>true) rs F) ∨
     (∃ o,ops[e]? = some o/\Abk ops e=true/\∃ x,wantedD ops (appL (fun _=>true) rs F) o=some x /\
      ∃ F',(if x then opC E f V call (appL (fun _=>true) rs F) o else some (fin (appL (fun _=>true) rs F) o.dst (.tup [])))=some F'/\Abz E f V call ops (List.range' (e+1) (ops.size-(e+1))) [] F'=some Fend)) ->
   Post n R M B w0 (appL (inL listed) rs F) a w->wpAny E.P .any ops Q fuel listed a w:=by
 intro fuel
 induction fuel with
 | zero=>
  intro listed F a w e rs blk hsz hleft hcl hset hst he hhigh hend hpost;have hall:∀ i,i<ops.size->inL listed i=true:=fun i hi=>by
   cases hin:inL listed i with
   | true=>rfl
   | false=>
    have:i∈(List.range ops.size).filter fun i=>!inL listed i:=by rw [List.mem_filter,List.mem_range];exact ⟨hi,by simp [hin]⟩
    have h0:=List.length_pos_of_mem this;unfold left at hleft;omega
  have hee:e=ops.size:=by
   by_cases hz:ops.size=0
   ·omega
   ·have:=hhigh (ops.size-1) (hall _ (by omega));omega
  have hF:Fend=appL (inL listed) rs F:=by
   rcases hend with ⟨_,h⟩ | ⟨o,ho,_⟩
   ·rw [h];exact Aea fun x hx=>(hall x.1 (by have:=hst.lt x hx;omega)).symm
   ·have:=(Array.getElem?_eq_some_iff.1 ho).1;omega
  refine ⟨?_,?_⟩
  ·rw [List.eq_nil_iff_forall_not_mem];intro i hi;obtain ⟨o,ho,h1,_⟩:=(Ado hsz).1 hi;rw [hall i (Array.getElem?_eq_some_iff.1 ho).1] at h1;cases h1
  ·rw [← hF] at hpost;exact hQ _ _ hpost
 | succ fuel ih=>
  intro listed F a w e rs blk hsz hleft hcl hset hst he hhigh hend hpost;have first:∀ m,m<ops.size->inL listed m=false->(∀ i,i<m->inL listed i=true)->m∈Region.ready .any ops listed:=fun m hm hn hlt=>by
   rw [Ado hsz];refine ⟨ops[m],Array.getElem?_eq_getElem hm,hn,fun ed hed hbd=>?_⟩;have hbk:=List.all_eq_true.1 hback m (List.mem_range.2 hm);rw [Array.getElem?_eq_getElem hm] at hbk;simp only [List.all_eq_true] at hbk;have:=hbk ed (by simpa using hed);simp only [hbd,Bool.not_true,Bool.false_or,decide_eq_true_eq] at this;exact hlt _ this
  have full:(∀ i,i<e->inL listed i=true)->appL (inL listed) rs F=appL (fun _=>true) rs F:=fun hh=>Aea fun x hx=>hh x.1 (hst.lt x hx);constructor
  ·intro hnil;have hall:∀ i,i<ops.size->inL listed i=true:=by
    intro i
    induction i using Nat.strongRecOn with
    | ind i ihh=>
     intro hi;cases hin:inL listed i with
     | true=>rfl
     | false=>
      have:=first i hi hin (fun k hk=>ihh k hk (by omega))
      rw [hnil] at this;cases this
   have hee:e=ops.size:=by
    by_cases hz:ops.size=0
    ·omega
    ·have:=hhigh (ops.size-1) (hall _ (by omega));omega
   rcases hend with ⟨_,h⟩ | ⟨o,ho,_⟩
   ·rw [full (fun i hi=>hall i (by omega)),← h] at hpost;exact hQ _ _ hpost
   ·have:=(Array.getElem?_eq_some_iff.1 ho).1;omega
  ·intro i hi;obtain ⟨o,ho,hni,hpre⟩:=(Ado hsz).1 hi;have hio:=(Array.getElem?_eq_some_iff.1 ho).1;have hsz':(listed.setIfInBounds i true).size=ops.size:=by simpa using hsz
   have hcl':Ak6 ops (listed.setIfInBounds i true):=by
    intro k ok hk hkin ed hed hbd;rw [Ae1 (by omega)] at hkin ⊢;simp only [Bool.or_eq_true,beq_iff_eq] at hkin ⊢;rcases hkin with hkin | rfl
    ·exact .inl (hcl k ok hk hkin ed hed hbd)
    ·rw [ho] at hk;cases hk;exact .inl (hpre ed hed hbd)
   have hleft':left ops (listed.setIfInBounds i true)<=fuel:=by
    have:=Bb0 hsz hio hni;omega
   have hclo:∀ j k,Abn ops ops.size j k=true->inL listed k=true->inL listed j=true:=fun j k hr hk=>by
    cases hq:ops[k]? with
    | none=>cases hn:ops.size<;>simp [Abn,hq,hn] at hr
    | some ok=>exact Ae3 hcl ops.size j k ok hq (hcl k ok hq hk) hr
   have hready:Aj9 ops (inL listed) i:=⟨hclo,hni,fun j hj=>Ae3 hcl ops.size j i o ho hpre hj⟩
   by_cases hie:i<e
   ·
    obtain ⟨x,hx,hx1⟩:∃ x∈rs,x.1=i:=by
     rcases hset i hie with h | h
     ·rw [hni] at h;cases h
     ·exact h
    obtain ⟨i',p⟩:=x;simp only at hx1;subst hx1;obtain ⟨b,hb,e1,e2,hf⟩:=hst.xb _ hx;have hact:∃ xb,wantedD ops (appL (inL listed) rs F) o=some xb/\(if xb then opC E f V call (appL (inL listed) rs F) o else some (fin (appL (inL listed) rs F) o.dst (.tup [])))=some (putsF p (appL (inL listed) rs F)):=by
     cases hk:b.2.2 with
     | none=>
      rw [hk] at hf;obtain ⟨o',d,f1,f2,f3⟩:=hf;simp only at f1 f2;rw [ho] at f1;cases f1;obtain ⟨g1,g2,g3⟩:=f3 _ hready;rw [f2,At2];have hfr:∀ s,o.dst=some s->get (appL (inL listed) rs F) s=.undef:=g3;unfold Aak at g1
      split at g1
      ·rename_i hwt;refine ⟨true,hwt,?_⟩;simp only [if_true];rw [Aph g1,Auh hfr]
      ·rename_i hwt;refine ⟨false,hwt,?_⟩;simp only [zJ] at g1;subst g1;simp only [Bool.false_eq_true,if_false,Auh hfr]
      ·cases g1
     | some ks=>
      rw [hk] at hf;obtain ⟨o',M',f1,f2,f3,f4,f5,f6⟩:=hf;simp only at f1;rw [ho] at f1;cases f1;have g:=f6 _ hready;obtain ⟨q1,q2⟩:=Agm f2;refine ⟨true,by rw [Anb g.less q2];exact f3,?_⟩;simp only [if_true];exact Auf f4 q1 g
    obtain ⟨xb,hw,hop⟩:=hact;refine Ayq hcall hgd hfit hpost ho hw hop fun a' w' hp'=>?_;refine ih hsz' hleft' hcl' (fun k hk=>?_) hst he (fun k hk=>?_) hend ?_
    ·rcases hset k hk with h | h
     ·left;rw [Ae1 (by omega),h];rfl
     ·exact .inr h
    ·rw [Ae1 (by omega)] at hk;simp only [Bool.or_eq_true,beq_iff_eq] at hk;rcases hk with hk | rfl
     ·exact hhigh k hk
     ·exact hie
    ·have:appL (inL (listed.setIfInBounds i' true)) rs F=appL (fun k=>inL listed k || k == i') rs F:=Aea fun y _=>Ae1 (listed:=listed) (i:=i') (by omega) y.1;rw [this,Aou (R:=fun a b=>Abn ops ops.size a b=true) hclo hst.ok hst.ww hx hni];exact hp'
   ·
    rcases hend with ⟨hee,_⟩ | ⟨oe,hoe,han,xb,hw,F',hop,hrest⟩
    ·omega
    ·have hsize:=(Array.getElem?_eq_some_iff.1 hoe).1;have hanc:=List.all_eq_true.1 han;have hie':i=e:=by
      rcases Nat.lt_or_ge e i with hlt | hge
      ·have:=hanc i (List.mem_range.2 hio);rw [if_neg (by omega),if_pos hlt] at this;have hin:=Ae3 hcl ops.size e i o ho hpre this;have:=hhigh e hin;omega
      ·omega
     subst hie';rw [ho] at hoe;cases hoe;have hallb:∀ k,k<i->inL listed k=true:=fun k hk=>by
      have:=hanc k (List.mem_range.2 (by omega));rw [if_pos hk] at this;exact Ae3 hcl ops.size k i o ho hpre this
     rw [full hallb] at hpost;refine Ayq hcall hgd hfit hpost ho hw hop fun a' w' hp'=>?_;have hlow':∀ k,k<i+1->inL (listed.setIfInBounds i true) k=true:=fun k hk=>by
      rw [Ae1 (by omega)];rcases Nat.lt_or_ge k i with h | h
      ·rw [hallb k h];rfl
      ·have:k=i:=by omega
       simp [this]
     have hempty:Stretch E f V call ops F' (i+1) [] []:=⟨by simp,⟨by simp,by simp⟩,List.Pairwise.nil,by simp,by simp,by simp,List.Pairwise.nil,List.Pairwise.nil⟩
     obtain ⟨e2,rs2,blk2,hst2,he2,hset2,hle2,⟨ext,hext,hnew2⟩,hend2⟩:=Afp (E:=E) (f:=f) (V:=V) (call:=call) (ops:=ops) (F:=F') hle (ops.size-(i+1)) (i+1) (rs:=[]) (blk:=[]) (by omega) hempty (by simpa [appL] using hrest);refine ih hsz' hleft' hcl' (fun k hk=>?_) hst2 he2 (fun k hk=>?_) hend2 ?_
     ·rcases hset2 k hk with h | h
      ·exact .inl (hlow' k h)
      ·exact .inr h
     ·rw [Ae1 (by omega)] at hk;simp only [Bool.or_eq_true,beq_iff_eq] at hk;rcases hk with hk | rfl
      ·have:=hhigh k hk;omega
      ·omega
     ·have:appL (inL (listed.setIfInBounds i true)) rs2 F'=F':=by
       have hnone:∀ {rs:Rs} {F:Fr},(∀ y∈rs,inL (listed.setIfInBounds i true) y.1=false)->appL (inL (listed.setIfInBounds i true)) rs F=F:=by
        intro rs
        induction rs with
        | nil=>intro F _;rfl
        | cons y rs ihh=>
         obtain ⟨k,d⟩:=y;intro F hy;simp only [appL,hy (k,d) (by simp),Bool.false_eq_true,if_false];exact ihh fun y hy'=>hy y (by simp [hy'])
       refine hnone fun y hy=>?_;rw [hext,List.nil_append] at hy;have:=hnew2 y hy;rw [Ae1 (listed:=listed) (i:=i) (by omega)];cases hin:inL listed y.1 with
       | true=>have:=hhigh y.1 hin;omega
       | false=>simp;omega
      rw [this];exact hp'
theorem Afy:∀ (l:List Oper) {F:Fr} {a:Act} {w:World},(∀ o∈l,∀ t,o.dst=some t->t<n)->Post n R M B w0 F a w->Post n R M B w0 (Abc F l) a w
 | [],_,_,_,_,h=>h
 | o::l,F,a,w,hl,h=>by
  have one:∀ t,t<n->Post n R M B w0 (put F t .undef) a w:=fun t ht=>by
   obtain ⟨M1,G1,h1,e1⟩:=h;have hlt:t<a.tmps.size:=by rw [h1.size];exact ht
   have hb:(T.leaf .undef (a.tmps[t])).blocks=[]:=by simp [T.blocks]
   have:=Ace (M:=M1) (w:=w) (B:=keys (Aa0 G1)) (t:=.leaf .undef a.tmps[t]) (by rw [hb];exact h1) (by simp [T.tidy]) (by simp [Aao,LOK,L1]) (some t) (fun d hd=>by cases hd;exact ht) (by rw [hb];simpa using Evo.refl M1 _ w);have he:a.put (some t) a.tmps[t]=a:=by
    unfold Act.put;have:a.tmps.setIfInBounds t a.tmps[t]=a.tmps:=by
     apply Array.ext';rw [Array.toList_setIfInBounds];exact Agz (by rw [Array.getElem?_toList,Array.getElem?_eq_getElem hlt])
    show ({ a with tmps:=a.tmps.setIfInBounds t a.tmps[t] }:Act)=a;rw [this]
   simp only [T.erase,T.val,he,fin] at this;exact this.trans e1
  simp only [Abc]
  split
  ·rename_i t _ _;have ht:o.dst=some t:=by assumption
   cases Abt (get F t) with
   | true=>exact Afy l (fun o ho=>hl o (by simp [ho])) (one t (hl o (by simp) t ht))
   | false=>exact Afy l (fun o ho=>hl o (by simp [ho])) h
  ·exact Afy l (fun o ho=>hl o (by simp [ho])) h
  ·rename_i t _ _;have ht:o.dst=some t:=by assumption
   exact Afy l (fun o ho=>hl o (by simp [ho])) (one t (hl o (by simp) t ht))
  ·exact Afy l (fun o ho=>hl o (by simp [ho])) h
theorem Amw (hle:∀ {o:Oper} {A:Fr} {d:D} {ops:Array Oper},Aak E f Ag7 ops A o=some d->Aak E f call ops A o=some d) (hcall:Abq E call) (hgd:Good E M) (hm:E.P.follows .mixedOrders=true) {ops:Array Oper} (hfit:Aeq n ops) {Q:Exit->Act->World->Prop} {id:Nat} {F Fend:Fr} {a:Act} {w:World} (h:Post n R M B w0 F a w)
  (hback:Aeu ops=true) (hd:Abz E f V call ops (List.range ops.size) [] (Abc F ops.toList)=some Fend) (hQ:∀ a' w',Post n R M B w0 Fend a' w'->Q .normal a' w'):(Code.region id ops true).wp E.P Q a w:=by
 refine wp_region_any hm ?_;have h2:Post n R M B w0 (Abc F ops.toList) a { w with drawn:=w.drawn+1 }:=by
  obtain ⟨M1,G1,h1,e1⟩:=Afy ops.toList (fun o ho t ht=>by
   obtain ⟨i,hi,rfl⟩:=List.getElem_of_mem ho
   exact (hfit i _ (by rw [Array.getElem?_eq_getElem (by simpa using hi)];simp)).2 t ht) h
  exact ⟨M1,G1,h1.heapEq rfl,e1.heapEq rfl rfl rfl rfl⟩
 have hempty:Stretch E f V call ops (Abc F ops.toList) 0 [] []:=⟨by simp,⟨by simp,by simp⟩,List.Pairwise.nil,by simp,by simp,by simp,List.Pairwise.nil,List.Pairwise.nil⟩
 obtain ⟨e,rs,blk,hst,he,hset,_,hex,hend⟩:=Afp (E:=E) (f:=f) (V:=V) (call:=call) (ops:=ops) (F:=Abc F ops.toList) hle ops.size 0 (rs:=[]) (blk:=[]) (by omega) hempty (by simpa [appL,List.range_eq_range'] using hd);have hrep:∀ i,inL (Array.replicate ops.size false) i=false:=fun i=>by
  unfold inL;simp only [Array.getD_eq_getD_getElem?,Array.getElem?_replicate]
  split<;>rfl
 refine Asc hle hcall hgd hfit hback hQ ops.size (by simp) ?_ (fun i o _ hi=>by rw [hrep] at hi;cases hi) (fun j hj=>by rcases hset j hj with h | h;omega;exact .inr h) hst he (fun i hi=>by rw [hrep] at hi;cases hi) hend ?_
 ·unfold left;have:=List.length_filter_le (fun i=>!inL (Array.replicate ops.size false) i) (List.range ops.size);simpa using this
 ·have:appL (inL (Array.replicate ops.size false)) rs (Abc F ops.toList)=Abc F ops.toList:=by
   generalize Abc F ops.toList=F0;clear hst hend hset hex hempty
   induction rs generalizing F0 with
   | nil=>rfl
   | cons y rs ih=>obtain ⟨k,d⟩:=y;simp only [appL,hrep k,Bool.false_eq_true,if_false];exact ih F0
  rw [this];exact h2
end
end Go.Own
