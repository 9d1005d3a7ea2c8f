/- An interpreter of function bodies, sound. No conditions. -/
import Derived.Test.YtockohmmmlhhfabGreatDoorOwn14
import Derived.Test.YtockohmmmlhhfabGreatDoorOwn7
set_option linter.all false
namespace Go.Own
open D
section
variable {E:Env} {f:Nat} {V:List Nat} {F:Fr} {Q:Ex->Fr->Prop} {body:Code} {p:List Nat} {j:Nat} {s:St} {d d':D} {cs cs':List D}
def oneC:D->Bool
 | .agg _=>false
 | .fn _ _=>false
 | _=>true
theorem Aag:flatCs []=true:=rfl
theorem Aa1 (h:d.flat=true) (hs:flatCs cs=true):flatCs (d::cs)=true:=by simp only [flatCs,h,hs,Bool.and_self]
theorem Ab1 (hs:flatCs cs=true):(D.agg cs).flat=true:=by simp only [D.flat,hs]
theorem Afx (hs:flatCs cs=true):(D.tup cs).flat=true:=by simp only [D.flat,hs]
theorem Av4 {g:Nat} {pr:List D->Option (D×List D)} {ds:List D} {r:D} {outs:List D} (h:E.prim g=some pr) (h2:pr ds=some (r,outs)):Ret E g ds r outs:=
 Ret.of (n:=1) (by simp only [Ab8,h,h2])
theorem Bdr {g:Nat} {a b:ByteArray} (h:E.prim g=some Anw):Ret E g [.lit (.string a),.lit (.string b)] (.lit (.int .i64 (bcmp a b))) []:=
 Av4 h rfl
theorem Azt {g k b:Nat} {α:Type} {e:Enc α} {l:List α} (h:E.prim g=some (Ag9 k b)) (hk:∀ x,(e x).length=k) (hl:l.length*b<=140737488355328):Ret E g [.sl (l.map e)] (.own (l.map e)) []:=
 Av4 h (by
  show (if (∀ x∈l.map e,x.length=k)/\(l.map e).length*b<=140737488355328 then some (D.own (l.map e),([]:List D)) else none)=_
  rw [if_pos ⟨fun x hx=>by obtain ⟨a,_,rfl⟩:=List.mem_map.1 hx;exact hk a,by rw [List.length_map];exact hl⟩])
end
end Go.Own
namespace Go.Own
open D
theorem Acq:freezeCs []=some []:=rfl
theorem Aan {c c':D} {cs cs':List D} (h:c.freeze=some c') (hs:freezeCs cs=some cs'):freezeCs (c::cs)=some (c'::cs'):=by simp only [freezeCs,h,hs]
end Go.Own
namespace Go.Own
open D
def Ahj (s:Nat):D->Bool
 | alias s' p=>s' == s&&!p.isEmpty
 | sub s' p _ _=>s' == s&&!p.isEmpty
 | place s' p _ _=>s' == s&&!p.isEmpty
 | _=>false
def Aup (s:Nat):D->Bool
 | agg cs=>cs.any (Ahj s)
 | fn _ cs=>cs.any (Ahj s)
 | d=>Ahj s d
def Af3 (F:Fr) (s:Nat):Bool:=F.all fun x=>!Aup s x.2
theorem Ai0 {s:Nat} {q:Path} (hq:q≠[]):∀ {d:D},Ahj s d=false->kill1 (deadIn s q) d=d:=by
 have hp:∀ p:Path,p.isEmpty=true->D.pre q p=false:=fun p h=>by
  cases p with
  | nil=>cases q with
   | nil=>exact absurd rfl hq
   | cons _ _=>rfl
  | cons _ _=>cases h
 intro d h;cases d with
 | alias s' p=>
  simp only [Ahj,Bool.and_eq_false_iff,Bool.not_eq_false'] at h;simp only [kill1,deadIn];rcases h with h | h
  ·simp [h]
  ·simp [hp p h]
 | sub s' p a b=>
  simp only [Ahj,Bool.and_eq_false_iff,Bool.not_eq_false'] at h;simp only [kill1,deadIn];rcases h with h | h
  ·simp [h]
  ·simp [hp p h]
 | place s' p a b=>
  simp only [Ahj,Bool.and_eq_false_iff,Bool.not_eq_false'] at h;simp only [kill1,deadIn];rcases h with h | h
  ·simp [h]
  ·simp [hp p h]
 | _=>rfl
theorem Ak2 {s:Nat} {q:Path} (hq:q≠[]):∀ {cs:List D},cs.any (Ahj s)=false->cs.map (kill1 (deadIn s q))=cs
 | [],_=>rfl
 | c::cs,h=>by
  simp only [List.any_cons,Bool.or_eq_false_iff] at h;simp only [List.map_cons,Ai0 hq h.1,Ak2 hq h.2]
theorem Aqd {s:Nat} {q:Path} (hq:q≠[]):∀ {F:Fr},Af3 F s=true->killB F s q=F
 | [],_=>rfl
 | (k,d)::F,h=>by
  simp only [Af3,List.all_cons,Bool.and_eq_true,Bool.not_eq_true'] at h;have ih:=Aqd hq (F:=F) h.2;simp only [killB,killF,List.map_cons] at ih ⊢;rw [ih];have:kill2 (deadIn s q) d=d:=by
   have h1:=h.1;cases d with
   | agg cs=>simp only [Aup] at h1;simp only [kill2,Ak2 hq h1]
   | fn g cs=>simp only [Aup] at h1;simp only [kill2,Ak2 hq h1]
   | alias a b=>exact Ai0 (d:=alias a b) hq h1
   | sub a b c d=>exact Ai0 (d:=sub a b c d) hq h1
   | place a b c d=>exact Ai0 (d:=place a b c d) hq h1
   | _=>rfl
  rw [this]
theorem Aul {F:Fr} {s:Nat} {d:D}:get (put0 F s d) s=d:=by
 induction F with
 | nil=>simp [put0,get]
 | cons x F ih=>
  obtain ⟨k,e⟩:=x;simp only [put0]
  split
  ·simp [get]
  ·rename_i h;simp only [get,if_neg h];exact ih
theorem Azr {F:Fr} {s:Nat} {d d':D}:put0 (put0 F s d) s d'=put0 F s d':=by
 induction F with
 | nil=>simp [put0]
 | cons x F ih=>
  obtain ⟨k,e⟩:=x;simp only [put0]
  split
  ·simp [put0]
  ·rename_i h;simp only [put0,if_neg h,ih]
theorem Avz {F:Fr} {s:Nat} {es:List (List D)} (h:Af3 F s=true):Af3 (put0 F s (own es)) s=true:=by
 induction F with
 | nil=>rfl
 | cons x F ih=>
  obtain ⟨k,e⟩:=x;simp only [Af3,List.all_cons,Bool.and_eq_true] at h;simp only [put0]
  split
  ·simp only [Af3,List.all_cons,Bool.and_eq_true];exact ⟨rfl,h.2⟩
  ·simp only [Af3,List.all_cons,Bool.and_eq_true];exact ⟨h.1,ih h.2⟩
section
variable {α:Type} {e e':Enc α} {l:List α} {F:Fr} {s:Nat}
theorem As6 {l:List (List α)} (hg:get F s=.own (l.map (eOw e))) (hf:Fzn e id e') (hn:Af3 F s=true):∀ n,n<=l.length->chillS F s 0 n=put0 F s (.own ((l.take n).map (eSl e')++(l.drop n).map (eOw e)))
 | 0,_=>by
  simp only [chillS,List.take_zero,List.map_nil,List.nil_append,List.drop_zero];rw [← hg];have:∀ F:Fr,(∃ d,get F s=d/\d≠.undef)->put0 F s (get F s)=F:=by
   intro F
   induction F with
   | nil=>rintro ⟨d,h,h2⟩;exact absurd h.symm h2
   | cons x F ih=>
    obtain ⟨k,e⟩:=x;rintro ⟨d,h,h2⟩;simp only [get] at h ⊢;simp only [put0]
    split
    ·rename_i hk;subst hk;rfl
    ·rename_i hk;rw [if_neg hk] at h;rw [ih ⟨d,h,h2⟩]
  exact (this F ⟨_,hg,by simp⟩).symm
 | n+1,hn1=>by
  have ih:=As6 hg hf hn n (by omega);simp only [chillS,ih];have hd:l.drop n=l[n]::l.drop (n+1):=List.drop_eq_getElem_cons (by omega);have hlen:((l.take n).map (eSl e')).length=n:=by simp;omega
  have hat:((l.take n).map (eSl e')++(l.drop n).map (eOw e))[n]? = some [.own (l[n].map e)]:=by
   rw [List.getElem?_append_right (by omega),hlen,Nat.sub_self,hd];rfl
  have h1:getAt (put0 F s (.own ((l.take n).map (eSl e')++(l.drop n).map (eOw e)))) s [(n,0)]=some (.own (l[n].map e)):=by
   simp only [getAt,Aul,D.getP,D.elem,hat];rfl
  have hset:((l.take n).map (eSl e')++(l.drop n).map (eOw e)).set n [.sl (l[n].map e')]=(l.take (n+1)).map (eSl e')++(l.drop (n+1)).map (eOw e):=by
   rw [List.set_append_right _ _ (by omega),hlen,Nat.sub_self,hd,List.map_cons,List.set_cons_zero,List.take_add_one,List.getElem?_eq_getElem (by omega),Option.toList_some,List.map_append,List.append_assoc];rfl
  have h2:setAt (put0 F s (.own ((l.take n).map (eSl e')++(l.drop n).map (eOw e)))) s [(n,0)] (.sl (l[n].map e'))=some (put0 F s (.own ((l.take (n+1)).map (eSl e')++(l.drop (n+1)).map (eOw e)))):=by
   simp only [setAt,Aul,D.setP,D.elem,hat,List.getElem?_cons_zero,D.setElem,List.set_cons_zero,Option.map_some,Azr,hset]
  simp only [frzAt,h1,D.ex1,if_true,Ab6 hf,h2,Option.map_some];exact Aqd (by simp) (Avz hn)
theorem As5 {l:List (List α)} (hg:get F s=.own (l.map (eOw e))) (hf:Fzn e id e') (hn:Af3 F s=true):Aps F s 0=put0 F s (.own (l.map (eSl e'))):=by
 unfold Aps;rw [hg];simp only [Nat.reduceEqDiff,if_false];rw [As6 hg hf hn _ (by simp)];simp
theorem Baw {α:Type} {c:Prop} [Decidable c] {a:α} {x:Option α} (h:x=some a):(if c then some a else x)=some a:=by split<;>simp_all
end
end Go.Own
namespace Go.Own
open D
section
variable {E:Env} {f:Nat} {V:List Nat} {F:Fr} {o:Oper} {call:Aam} {α:Type} {e:Enc α} {l m:List α} {t et k s n off len:Nat} {ps:Path} {x:Operand} {z:D}
end
end Go.Own
namespace Go.Own
open D
end Go.Own
namespace Go.Own
theorem ne_eq {E:Env} {F F':Fr} {y:Operand} {a:List (List D)} (h:newElems E F y=some (a,F')):newElems E F y=some (a,newF E F y):=by
 unfold newF;rw [h]
end Go.Own
namespace Go.Own
open D
end Go.Own
namespace Go.Own
open D
theorem Aq4 {cs cs':List D} (h:freezeCs cs=some cs'):(D.agg cs).freeze=some (.agg cs'):=by simp only [D.freeze,h,Option.map_some]
theorem Aua {b:Bool} {cs cs':List D} (hb:b=true) (h:freezeCs cs=some cs'):coldD b (.agg cs)=some (.agg cs'):=by subst hb;exact Aq4 h
theorem Aet {b:Bool} {cs cs':List D} (hb:b=true) (h:freezeCs cs=some cs'):coldD b (.tup cs)=some (.tup cs'):=by
 subst hb;simp only [coldD,if_true,h,Option.map_some]
end Go.Own
namespace Go.Own
open D
def eqT (E:Env) (t:Nat) (xs ys:List D):Option Bool:=match E.P.underlying t with
 | some (.struct fs)=>if E.P.stoodInHeld t || E.P.eqGuardType E.P.depth t then none else eqFieldsD E.P xs ys fs.toList
 | _=>none
def eqs:List Bool->Option Bool
 | []=>some true
 | b::bs=>if b then eqs bs else some false
theorem Are:∀ l:List Bool,eqs l=some (l.all id)
 | []=>rfl
 | true::l=>by simp [eqs,Are l]
 | false::l=>by simp [eqs]
theorem Awk {E:Env} {t:Nat} {xs ys:List D} {b:Bool} (h:eqT E t xs ys=some b):binD E .eql t (.agg xs) (.agg ys)=some (.lit (.bool b))/\binD E .neq t (.agg xs) (.agg ys)=some (.lit (.bool !b)):=by
 unfold eqT at h;unfold binD
 split at h
 ·rename_i fs hu
  split at h
  ·cases h
  ·rename_i hg;simp only [hu,hg,h];exact ⟨rfl,rfl⟩
 ·cases h
theorem Awc {E:Env} {t:Nat} {xs ys:List D} {l:List Bool} (K:eqT E t xs ys=eqs l:=by kernel_rfl):binD E .eql t (.agg xs) (.agg ys)=some (.lit (.bool (l.all id))):=(Awk (K.trans (Are l))).1
theorem Arc {E:Env} {t:Nat} {xs ys:List D} {l:List Bool} (K:eqT E t xs ys=eqs l:=by kernel_rfl):binD E .neq t (.agg xs) (.agg ys)=some (.lit (.bool (!(l.all id)))):=(Awk (K.trans (Are l))).2
end Go.Own
namespace Go.Own
open D
abbrev VRes:=Bool×D×D
abbrev RowP:=Int×List (List D)
def rowD (p:RowP):List D:=[.lit (.int .i64 p.1),.sl p.2]
def Apc:List D->Option RowP
 | [.lit (.int .i64 i),.sl vs]=>some (i,vs)
 | _=>none
def Ae8:List (List D)->Option (List RowP)
 | []=>some []
 | r::rs=>match Apc r,Ae8 rs with
  | some p,some ps=>some (p::ps)
  | _,_=>none
theorem Aw3 {r:List D} {p:RowP} (h:Apc r=some p):r=rowD p:=by
 unfold Apc at h
 split at h
 ·cases h;rfl
 ·cases h
theorem Agn:∀ {rs:List (List D)} {ps:List RowP},Ae8 rs=some ps->rs=ps.map rowD
 | [],ps,h=>by cases h;rfl
 | r::rs,ps,h=>by
  simp only [Ae8] at h
  split at h
  ·rename_i p qs h1 h2;cases h;rw [List.map_cons,← Aw3 h1,← Agn h2]
  ·cases h
theorem Afu:∀ (ps:List RowP),Ae8 (ps.map rowD)=some ps
 | []=>rfl
 | p::ps=>by simp only [List.map_cons,Ae8,Afu ps];rfl
structure VF where
 chk:Nat
 sat:Nat
 cf:Nat
 cl:Nat
 cn:Nat
 vis:Nat
 srt:Nat
 cmp:Nat
def Anq (q:VF) (atoms:List (List D)) (rows:List RowP) (s o:D) (k:VRes->Ask):Ask:=
 .call q.sat [.sl (rows.map rowD),.sl atoms] fun x=>match x with
  | (.lit (.bool true),[])=>.call q.vis [.sl (rows.map rowD),s,o] fun y=>match y with
   | (.lit (.bool b),[.box [.map s'],.box [.own o']])=>k (b,.box [.map s'],.box [.own o'])
   | _=>.ret none
  | (.lit (.bool false),[])=>k (true,s,o)
  | _=>.ret none
def Ajj (q:VF) (step:List RowP->D->D->(VRes->Ask)->Ask) (rows:List RowP):List RowP->D->D->(VRes->Ask)->Ask
 | [],s,o,k=>k (true,s,o)
 | r::todo,s,o,k=>.call q.cf [.sl (rows.map rowD),.fn q.cl [.ref (rowD r)]] fun x=>match x with
  | (.lit (.bool true),[])=>Ajj q step rows todo s o k
  | (.lit (.bool false),[])=>.call q.cn [.sl (rows.map rowD)] fun y=>match y with
   | (.own rows',[])=>match Ae8 rows' with
    | some rs=>if rs.length=rows.length then step (rs++[r]) s o fun z=>if z.1=true then Ajj q step rows todo z.2.1 z.2.2 k else k z else .ret none
    | none=>.ret none
   | _=>.ret none
  | _=>.ret none
def Aj5 (q:VF) (atoms:List (List D)) (all:List RowP):Nat->List RowP->D->D->(VRes->Ask)->Ask
 | 0,rows,s,o,k=>Anq q atoms rows s o k
 | n+1,rows,s,o,k=>Ajj q (Aj5 q atoms all n) rows all s o k
abbrev K3:=Int×Int×Int
def k3V (k:K3):Value:=.agg #[.int .i64 k.1,.int .i64 k.2.1,.int .i64 k.2.2]
def Abd (m:List (K3×Bool)):D:=.map (m.map fun x=>(k3V x.1,D.lit (.bool x.2)))
def idsD (l:List Int):D:=.own (l.map fun i=>[.lit (.int .i64 i)])
def idsS (l:List Int):D:=.sl (l.map fun i=>[.lit (.int .i64 i)])
def outE (o:List (List Int)):D:=.own (o.map fun l=>[idsS l])
def Aix:List (List D)->Option (List Int)
 | []=>some []
 | [.lit (.int .i64 i)]::r=>(Aix r).map (i::·)
 | _::_=>none
def Ako:List (Value×D)->Option (List (K3×Bool))
 | []=>some []
 | (.agg cs,.lit (.bool b))::r=>match cs.toList with
  | [.int .i64 x,.int .i64 y,.int .i64 z]=>(Ako r).map (((x,y,z),b)::·)
  | _=>none
 | _::_=>none
def Aiy:List (List D)->Option (List (List Int))
 | []=>some []
 | [.sl l]::r=>match Aix l,Aiy r with
  | some x,some y=>some (x::y)
  | _,_=>none
 | _::_=>none
theorem An2:∀ {es:List (List D)} {l:List Int},Aix es=some l->es=l.map fun i=>[D.lit (.int .i64 i)]
 | [],l,h=>by cases h;rfl
 | e::es,l,h=>by
  unfold Aix at h
  split at h
  ·rename_i hh;cases hh
  ·rename_i i r hh;cases hh;rw [Option.map_eq_some_iff] at h;obtain ⟨m,h1,rfl⟩:=h;rw [An2 h1];rfl
  ·cases h
theorem Aln:∀ (l:List Int),Aix (l.map fun i=>[D.lit (.int .i64 i)])=some l
 | []=>rfl
 | i::l=>by simp only [List.map_cons,Aix,Aln l];rfl
theorem At6:∀ {es:List (Value×D)} {m:List (K3×Bool)},Ako es=some m->es=m.map fun x=>(k3V x.1,D.lit (.bool x.2))
 | [],m,h=>by cases h;rfl
 | e::es,m,h=>by
  unfold Ako at h
  split at h
  ·rename_i hh;cases hh
  ·rename_i cs b r hh;cases hh
   split at h
   ·rename_i x y z hc;rw [Option.map_eq_some_iff] at h;obtain ⟨m',h1,rfl⟩:=h;rw [List.map_cons,← At6 h1];have:cs=#[.int .i64 x,.int .i64 y,.int .i64 z]:=Array.ext' hc;rw [this];rfl
   ·cases h
  ·cases h
theorem Aqx:∀ (m:List (K3×Bool)),Ako (m.map fun x=>(k3V x.1,D.lit (.bool x.2)))=some m
 | []=>rfl
 | x::m=>by
  have ih:=Aqx m;simp only [k3V] at ih;simp only [List.map_cons,k3V,Ako,ih];rfl
theorem An3:∀ {es:List (List D)} {o:List (List Int)},Aiy es=some o->es=o.map fun l=>[idsS l]
 | [],o,h=>by cases h;rfl
 | e::es,o,h=>by
  unfold Aiy at h
  split at h
  ·rename_i hh;cases hh
  ·rename_i l r hh;cases hh
   split at h
   ·rename_i x y h1 h2;cases h;rw [List.map_cons,← An3 h2,An2 h1];rfl
   ·cases h
  ·cases h
theorem Alo:∀ (o:List (List Int)),Aiy (o.map fun l=>[idsS l])=some o
 | []=>rfl
 | l::o=>by
  have ih:=Alo o;simp only [idsS] at ih;simp only [List.map_cons,idsS,Aiy,Aln,ih]
def key3:List Int->K3
 | [x]=>(x,0,0)
 | [x,y]=>(x,y,0)
 | _=>(0,0,0)
def visF (ids:List Int) (m:List (K3×Bool)) (o:List (List Int)):Bool×List (K3×Bool)×List (List Int):=
 if Ajl (key3 ids) m false=true then (decide (o.length<=20000),m,o) else (decide (o.length+1<=20000),mset (key3 ids) true m,o++[ids])
def Ai9 (srt:Nat):List D->Ask
 | [.sl rows,.box [.map es],.box [.own os]]=>match Ae8 rows,Ako es,Aiy os with
  | some rs,some m,some o=>if (rs.length=1∨rs.length=2)/\o.length<=1000000 then
    .call srt [idsD (rs.map (·.1))] fun x=>match x with
     | (.tup [],[.own l])=>match Aix l with
      | some ids=>if ids.length=rs.length then .ret (some (.lit (.bool (visF ids m o).1),[.box [Abd (visF ids m o).2.1],.box [outE (visF ids m o).2.2]])) else .ret none
      | none=>.ret none
     | _=>.ret none
   else .ret none
  | _,_,_=>.ret none
 | _=>.ret none
theorem Axl {call:Nat->List D->Option (D×List D)} {srt:Nat} {ds:List D} {r:D} {outs:List D} (h:runAsk call (Ai9 srt ds)=some (r,outs)) :
  ∃ (rs:List RowP) (m:List (K3×Bool)) (o:List (List Int)) (ids:List Int),ds=[.sl (rs.map rowD),.box [Abd m],.box [outE o]]/\(rs.length=1∨rs.length=2)/\o.length<=1000000/\ids.length=rs.length /\
   call srt [idsD (rs.map (·.1))]=some (.tup [],[idsD ids])/\r=.lit (.bool (visF ids m o).1)/\outs=[.box [Abd (visF ids m o).2.1],.box [outE (visF ids m o).2.2]]:=by
 unfold Ai9 at h
 split at h
 case h_2=>simp [runAsk] at h
 rename_i rows es os
 split at h
 case h_2=>simp [runAsk] at h
 rename_i rs m o e1 e2 e3
 split at h
 case isFalse=>simp [runAsk] at h
 rename_i hc;simp only [runAsk] at h
 split at h
 case h_2=>cases h
 rename_i x hx
 split at h
 case h_2=>simp [runAsk] at h
 rename_i l
 split at h
 case h_2=>simp [runAsk] at h
 rename_i ids e4
 split at h
 case isFalse=>simp [runAsk] at h
 rename_i hl;simp only [runAsk,zJ,Prod.mk.injEq] at h;refine ⟨rs,m,o,ids,?_,hc.1,hc.2,hl,?_,h.1.symm,h.2.symm⟩
 ·rw [Agn e1,At6 e2,An3 e3];rfl
 ·rw [hx,An2 e4];rfl
def Ax0 (call:Nat->List D->Option (D×List D)) (q:VF) (atoms:List (List D)) (rows:List RowP) (s o:D) (z:VRes):Prop:=
 (call q.sat [.sl (rows.map rowD),.sl atoms]=some (.lit (.bool false),[])/\z=(true,s,o)) ∨
 (call q.sat [.sl (rows.map rowD),.sl atoms]=some (.lit (.bool true),[])/\∃ s' o',z.2.1=.box [.map s']/\z.2.2=.box [.own o']/\call q.vis [.sl (rows.map rowD),s,o]=some (.lit (.bool z.1),[.box [.map s'],.box [.own o']]))
def Ah3 (call:Nat->List D->Option (D×List D)) (q:VF) (step:List RowP->D->D->VRes->Prop) (rows:List RowP):List RowP->D->D->VRes->Prop
 | [],s,o,z=>z=(true,s,o)
 | r::todo,s,o,z=>(call q.cf [.sl (rows.map rowD),.fn q.cl [.ref (rowD r)]]=some (.lit (.bool true),[])/\Ah3 call q step rows todo s o z) ∨
  (call q.cf [.sl (rows.map rowD),.fn q.cl [.ref (rowD r)]]=some (.lit (.bool false),[])/\∃ rs y,call q.cn [.sl (rows.map rowD)]=some (.own (rs.map rowD),[])/\rs.length=rows.length/\step (rs++[r]) s o y/\((y.1=true/\Ah3 call q step rows todo y.2.1 y.2.2 z)∨(y.1=false/\z=y)))
def VisR (call:Nat->List D->Option (D×List D)) (q:VF) (atoms:List (List D)) (all:List RowP):Nat->List RowP->D->D->VRes->Prop
 | 0,rows,s,o,z=>Ax0 call q atoms rows s o z
 | n+1,rows,s,o,z=>Ah3 call q (VisR call q atoms all n) rows all s o z
section
variable {call:Nat->List D->Option (D×List D)} {q:VF} {x:D×List D}
theorem Baz {atoms:List (List D)} {rows:List RowP} {s o:D} {k:VRes->Ask} (h:runAsk call (Anq q atoms rows s o k)=some x):∃ z,Ax0 call q atoms rows s o z/\runAsk call (k z)=some x:=by
 unfold Anq at h;simp only [runAsk] at h
 split at h
 case h_2=>cases h
 rename_i r hr
 split at h
 ·simp only [runAsk] at h
  split at h
  case h_2=>cases h
  rename_i r2 hr2
  split at h
  ·exact ⟨_,.inr ⟨hr,_,_,rfl,rfl,hr2⟩,h⟩
  ·simp [runAsk] at h
 ·exact ⟨_,.inl ⟨hr,rfl⟩,h⟩
 ·simp [runAsk] at h
theorem Ap5 {step:List RowP->D->D->(VRes->Ask)->Ask} {R:List RowP->D->D->VRes->Prop} (hs:∀ rows s o k,runAsk call (step rows s o k)=some x->∃ z,R rows s o z/\runAsk call (k z)=some x) {rows:List RowP}:∀ {todo:List RowP} {s o:D} {k:VRes->Ask},runAsk call (Ajj q step rows todo s o k)=some x->∃ z,Ah3 call q R rows todo s o z/\runAsk call (k z)=some x
 | [],s,o,k,h=>⟨_,rfl,h⟩
 | r::todo,s,o,k,h=>by
  simp only [Ajj,runAsk] at h
  split at h
  case h_2=>cases h
  rename_i y hy
  split at h
  ·obtain ⟨z,h1,h2⟩:=Ap5 hs h;exact ⟨z,.inl ⟨hy,h1⟩,h2⟩
  ·simp only [runAsk] at h
   split at h
   case h_2=>cases h
   rename_i y2 hy2
   split at h
   ·split at h
    ·rename_i rs hrs
     split at h
     ·rename_i hle;rw [Agn hrs] at hy2;obtain ⟨z,h1,h2⟩:=hs _ _ _ _ h;by_cases hz:z.1=true
      ·rw [if_pos hz] at h2;obtain ⟨z',h3,h4⟩:=Ap5 hs h2;exact ⟨z',.inr ⟨hy,_,z,hy2,hle,h1,.inl ⟨hz,h3⟩⟩,h4⟩
      ·rw [if_neg hz] at h2;exact ⟨z,.inr ⟨hy,_,z,hy2,hle,h1,.inr ⟨by simpa using hz,rfl⟩⟩,h2⟩
     ·simp [runAsk] at h
    ·simp [runAsk] at h
   ·simp [runAsk] at h
  ·simp [runAsk] at h
theorem At9 {atoms:List (List D)} {all:List RowP}:∀ {n:Nat} {rows:List RowP} {s o:D} {k:VRes->Ask},runAsk call (Aj5 q atoms all n rows s o k)=some x->∃ z,VisR call q atoms all n rows s o z/\runAsk call (k z)=some x
 | 0,rows,s,o,k,h=>Baz h
 | n+1,rows,s,o,k,h=>Ap5 (fun rows s o k h=>At9 (n:=n) h) h
end
def vioR (l:List (List D)) (e:Int):D:=.tup [.own l,.lit (.int .i64 e)]
def endA (q:VF) (z:VRes):Ask:=if z.1=true then (match z.2.2 with
  | .box [.own es]=>.call q.srt [.own es,.fn q.cmp []] fun x=>match x with
   | (.tup [],[.own es'])=>match Aiy es' with
    | some _=>.ret (some (vioR es' 0,[]))
    | none=>.ret none
   | _=>.ret none
  | _=>.ret none) else .ret (some (vioR [] 3,[]))
def Ai8 (q:VF):List D->Ask
 | [.agg [.lit (.string nm),.sl ats,.sl rows],.agg [.lit (.int .i64 vars),.sl atoms]]=>.call q.chk [.agg [.lit (.string nm),.sl ats,.sl rows],.agg [.lit (.int .i64 vars),.sl atoms]] fun x=>match x with
  | (.lit (.int .i64 e),[])=>if e=0 then (match Ae8 rows with
   | some all=>if 1<=vars/\vars<=2/\all.length<=1000000 then Aj5 q atoms all vars.toNat [] (.box [.map []]) (.box [.own []]) (endA q) else .ret none
   | none=>.ret none) else .ret (some (vioR [] e,[]))
  | _=>.ret none
 | _=>.ret none
def EndR (call:Nat->List D->Option (D×List D)) (q:VF) (z:VRes) (r:D):Prop:=
 (z.1=false/\r=vioR [] 3)∨(z.1=true/\∃ (es:List (List D)) (o':List (List Int)),z.2.2=.box [.own es]/\call q.srt [.own es,.fn q.cmp []]=some (.tup [],[outE o'])/\∃ l,outE o'=.own l/\r=vioR l 0)
theorem Axk {call:Nat->List D->Option (D×List D)} {q:VF} {ds:List D} {r:D} {outs:List D} (h:runAsk call (Ai8 q ds)=some (r,outs)) :
  ∃ nm ats rows vars atoms e,ds=[.agg [.lit (.string nm),.sl ats,.sl rows],.agg [.lit (.int .i64 vars),.sl atoms]]/\call q.chk ds=some (.lit (.int .i64 e),[])/\outs=[] /\
   ((e≠0/\r=vioR [] e)∨(e=0/\∃ all n z,rows=all.map rowD/\vars=(n:Nat)/\1<=n/\n<=2/\all.length<=1000000/\VisR call q atoms all n [] (.box [.map []]) (.box [.own []]) z/\EndR call q z r)):=by
 unfold Ai8 at h
 split at h
 case h_2=>simp [runAsk] at h
 rename_i nm ats rows vars atoms;simp only [runAsk] at h
 split at h
 case h_2=>cases h
 rename_i x hx
 split at h
 case h_2=>simp [runAsk] at h
 rename_i e;refine ⟨nm,ats,rows,vars,atoms,e,rfl,hx,?_⟩;by_cases he:e=0
 ·rw [if_pos he] at h
  split at h
  case h_2=>simp [runAsk] at h
  rename_i all hall
  split at h
  case isFalse=>simp [runAsk] at h
  rename_i hv;obtain ⟨z,h1,h2⟩:=At9 h;have key:outs=[]/\EndR call q z r:=by
   unfold endA at h2
   split at h2
   ·rename_i hz
    split at h2
    ·rename_i es hes;simp only [runAsk] at h2
     split at h2
     case h_2=>cases h2
     rename_i y hy
     split at h2
     ·rename_i es'
      split at h2
      ·rename_i o' ho';simp only [runAsk,zJ,Prod.mk.injEq] at h2;rw [An3 ho'] at hy h2;exact ⟨h2.2.symm,.inr ⟨hz,es,o',hes,hy,_,rfl,h2.1.symm⟩⟩
      ·simp [runAsk] at h2
     ·simp [runAsk] at h2
    ·simp [runAsk] at h2
   ·rename_i hz;simp only [runAsk,zJ,Prod.mk.injEq] at h2;exact ⟨h2.2.symm,.inl ⟨by simpa using hz,h2.1.symm⟩⟩
  exact ⟨key.1,.inr ⟨he,all,vars.toNat,z,Agn hall,by omega,by omega,by omega,hv.2.2,h1,key.2⟩⟩
 ·rw [if_neg he] at h;simp only [runAsk,zJ,Prod.mk.injEq] at h;exact ⟨h.2.symm,.inl ⟨he,h.1.symm⟩⟩
end Go.Own
