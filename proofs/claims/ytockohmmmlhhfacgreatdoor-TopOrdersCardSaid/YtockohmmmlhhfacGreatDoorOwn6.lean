/- An interpreter of function bodies, sound. No conditions. -/
import Derived.Test.YtockohmmmlhhfacGreatDoorOwn5
set_option linter.all false
namespace Go.Own
open D
end Go.Own
namespace Go.Own
open D
def Runs (E:Env) (f:Nat) (V:List Nat) (cd:Code) (F:Fr) (x:Ex×Fr):Prop:=∃ N,∀ n,N<=n->Aae E f V (Abv E n) n cd F=some x
def To (E:Env) (f:Nat) (V:List Nat) (cd:Code) (F:Fr) (Q:Ex->Fr->Prop):Prop:=∃ e F',Runs E f V cd F (e,F')/\Q e F'
def Ac2:Aav:=fun _ _=>none
section
variable {E:Env} {f:Nat} {V:List Nat} {F F':Fr} {Q:Ex->Fr->Prop}
theorem To.skip (k:Q .normal F):To E f V .skip F Q:=⟨_,_,⟨0,fun _ _=>rfl⟩,k⟩
theorem To.exit {id:Nat} (k:Q (.exit id) (trim E f V 3 id F)):To E f V (.exit id) F Q:=⟨_,_,⟨0,fun _ _=>rfl⟩,k⟩
theorem To.ret (k:Q .ret F):To E f V .ret F Q:=⟨_,_,⟨0,fun _ _=>rfl⟩,k⟩
def Aqg (E:Env) (f:Nat) (V:List Nat) (b:Code) (Q:Ex->Fr->Prop):Ex->Fr->Prop
 | .normal,F=>To E f V b F Q
 | e,F=>Q e F
theorem To.seq {a b:Code} (h:To E f V a F (Aqg E f V b Q)):To E f V (.seq a b) F Q:=by
 obtain ⟨e,F1,⟨N,hN⟩,h2⟩:=h;cases e with
 | normal=>
  obtain ⟨e2,F2,⟨K,hK⟩,k2⟩:=h2;exact ⟨e2,F2,⟨max N K,fun n hn=>by simp only [Aae,hN n (by omega)];exact hK n (by omega)⟩,k2⟩
 | exit i=>exact ⟨_,_,⟨N,fun n hn=>by simp only [Aae,hN n hn]⟩,h2⟩
 | ret=>exact ⟨_,_,⟨N,fun n hn=>by simp only [Aae,hN n hn]⟩,h2⟩
theorem To.cond {y:Operand} {a b:Code} {t:Bool} (hy:opd E F y=some (.lit (.bool t))) (h1:t=true->To E f V a (trim E f V 1 (Ahg y) F) Q) (h2:t=false->To E f V b (trim E f V 2 (Ahg y) F) Q):To E f V (.cond y a b) F Q:=by
 cases t with
 | true=>obtain ⟨e,F1,⟨N,hN⟩,k2⟩:=h1 rfl;exact ⟨e,F1,⟨N,fun n hn=>by simp only [Aae,hy,if_true];exact hN n hn⟩,k2⟩
 | false=>obtain ⟨e,F1,⟨N,hN⟩,k2⟩:=h2 rfl;exact ⟨e,F1,⟨N,fun n hn=>by simp only [Aae,hy,Bool.false_eq_true,if_false];exact hN n hn⟩,k2⟩
def Amx (id:Nat) (Q:Ex->Fr->Prop):Ex->Fr->Prop
 | .exit i,F=>if i=id then Q .normal F else Q (.exit i) F
 | e,F=>Q e F
theorem To.block {id:Nat} {b:Code} (h:To E f V b F (Amx id Q)):To E f V (.block id b) F Q:=by
 obtain ⟨e,F1,⟨N,hN⟩,h2⟩:=h;cases e with
 | normal=>exact ⟨_,F1,⟨N,fun n hn=>by simp only [Aae,hN n hn]⟩,h2⟩
 | ret=>exact ⟨_,F1,⟨N,fun n hn=>by simp only [Aae,hN n hn]⟩,h2⟩
 | exit i=>
  simp only [Amx] at h2;by_cases hi:i=id
  ·rw [if_pos hi] at h2;exact ⟨_,F1,⟨N,fun n hn=>by simp only [Aae,hN n hn,if_pos hi]⟩,h2⟩
  ·rw [if_neg hi] at h2;exact ⟨_,F1,⟨N,fun n hn=>by simp only [Aae,hN n hn,if_neg hi]⟩,h2⟩
theorem To.loop {b:Code} (h:To E f V b F (Aqg E f V (.loop b) Q)):To E f V (.loop b) F Q:=by
 obtain ⟨e,F1,⟨N,hN⟩,h2⟩:=h;cases e with
 | normal=>
  obtain ⟨e2,F2,⟨K,hK⟩,k2⟩:=h2;refine ⟨e2,F2,⟨max N K+1,fun n hn=>?_⟩,k2⟩;obtain ⟨m,rfl⟩:∃ m,n=m+1:=⟨n-1,by omega⟩
  have hm:=hK m (by omega);simp only [Aae] at hm ⊢;simp only [iter,hN (m+1) (by omega)];exact Aqz (fun F y hy=>Aej (Aob (Nat.le_succ m)) (Nat.le_succ m) hy) (Nat.le_refl m) hm
 | exit i=>
  refine ⟨_,_,⟨N+1,fun n hn=>?_⟩,h2⟩;obtain ⟨m,rfl⟩:∃ m,n=m+1:=⟨n-1,by omega⟩
  simp only [Aae,iter,hN (m+1) (by omega)]
 | ret=>
  refine ⟨_,_,⟨N+1,fun n hn=>?_⟩,h2⟩;obtain ⟨m,rfl⟩:∃ m,n=m+1:=⟨n-1,by omega⟩
  simp only [Aae,iter,hN (m+1) (by omega)]
end
def Bdv (E:Env) (f:Nat) (fd:Func) (n:Nat) (r:D) (outs:List D):Ex->Fr->Prop
 | .exit _,_=>False
 | _,F=>Af7 E f fd n F=some (r,outs)
theorem Ret.of_to {E:Env} {f:Nat} {fd:Func} {cd:Code} {ds:List D} {r:D} {outs:List D} {F0:Fr} (hp:E.prim f=none) (hf:E.P.funcs[f]? = some fd) (hb:fd.body=some cd) (hl:ds.length<=fd.ntmps/\fd.ntmps<1000000)
  (h0:norm (E.vars f++Abn E f 0 ds.length) (Ae2 E f 0 ds)=F0) (hr:To E f (E.vars f++Abn E f 0 ds.length) cd F0 (Bdv E f fd ds.length r outs)):Ret E f ds r outs:=by
 obtain ⟨e,F,⟨N,hN⟩,h2⟩:=hr;subst h0;refine Ret.of (n:=N+1) ?_;simp only [Abv,hp,hf,hb,if_pos hl,hN N (Nat.le_refl N)];cases e with
 | exit i=>exact h2.elim
 | normal=>exact h2
 | ret=>exact h2
end Go.Own
namespace Go.Own
open D
inductive Kt | seq (b:Code) | block (id:Nat) | loop (b:Code)
def dn:Code->List Kt->Code×List Kt
 | .seq a b,ks=>dn a (.seq b::ks)
 | .block id b,ks=>dn b (.block id::ks)
 | c,ks=>(c,ks)
def go:Code->List Nat->List Kt->Code×List Kt
 | .seq a b,i::p,ks=>match i with
  | 0=>go a p (.seq b::ks)
  | _=>go b p ks
 | .cond _ a b,i::p,ks=>match i with
  | 0=>go a p ks
  | _=>go b p ks
 | .block id b,_::p,ks=>go b p (.block id::ks)
 | .loop b,_::p,ks=>go b p (.loop b::ks)
 | c,_,ks=>(c,ks)
def Adz:List Kt->Option (Code×List Kt)
 | []=>none
 | .seq b::ks=>some (dn b ks)
 | .block _::ks=>Adz ks
 | .loop b::ks=>some (.loop b,ks)
def Aht (id:Nat):List Kt->Option (List Kt)
 | []=>none
 | .block i::ks=>if id=i then some ks else Aht id ks
 | .seq _::ks=>Aht id ks
 | .loop _::ks=>Aht id ks
section
variable {E:Env} {f:Nat} {V:List Nat} {F F':Fr} {Q:Ex->Fr->Prop}
def kTo (E:Env) (f:Nat) (V:List Nat):List Kt->(Ex->Fr->Prop)->Ex->Fr->Prop
 | [],Q=>Q
 | .seq b::ks,Q=>Aqg E f V b (kTo E f V ks Q)
 | .block id::ks,Q=>Amx id (kTo E f V ks Q)
 | .loop b::ks,Q=>Aqg E f V (.loop b) (kTo E f V ks Q)
def AtC (E:Env) (f:Nat) (V:List Nat) (c:Code×List Kt) (F:Fr) (Q:Ex->Fr->Prop):Prop:=To E f V c.1 F (kTo E f V c.2 Q)
theorem Ai9:∀ (c:Code) (ks:List Kt) {F:Fr},AtC E f V (dn c ks) F Q->AtC E f V (c,ks) F Q
 | .seq a b,ks,_,h=>To.seq (Ai9 a (.seq b::ks) h)
 | .block id b,ks,_,h=>To.block (Ai9 b (.block id::ks) h)
 | .skip,_,_,h=>h
 | .region ..,_,_,h=>h
 | .cond ..,_,_,h=>h
 | .loop _,_,_,h=>h
 | .exit _,_,_,h=>h
 | .ret,_,_,h=>h
 | .rangeFunc ..,_,_,h=>h
 | .scope _,_,_,h=>h
 | .label _,_,_,h=>h
 | .goto _,_,_,h=>h
 | .refuse _,_,_,h=>h
theorem Al2:∀ {ks:List Kt} {c:Code×List Kt} {F:Fr},Adz ks=some c->AtC E f V c F Q->kTo E f V ks Q .normal F
 | [],c,_,h,_=>by simp [Adz] at h
 | .seq b::ks,c,F,h,k=>by
  simp only [Adz,zJ] at h;subst h;exact Ai9 b ks k
 | .block id::ks,c,F,h,k=>Al2 (ks:=ks) h k
 | .loop b::ks,c,F,h,k=>by
  simp only [Adz,zJ] at h;subst h;exact k
theorem Aih {id:Nat}:∀ {ks ks':List Kt} {F:Fr},Aht id ks=some ks'->kTo E f V ks' Q .normal F->kTo E f V ks Q (.exit id) F
 | [],_,_,h,_=>by simp [Aht] at h
 | .seq _::ks,ks',F,h,k=>Aih (ks:=ks) h k
 | .loop _::ks,ks',F,h,k=>Aih (ks:=ks) h k
 | .block i::ks,ks',F,h,k=>by
  simp only [Aht] at h;simp only [kTo,Amx]
  split at h
  ·rename_i hi;simp only [zJ] at h;subst h;rw [if_pos hi];exact k
  ·rename_i hi;rw [if_neg hi];exact Aih h k
theorem An2:∀ {ks:List Kt} {F:Fr},Q .ret F->kTo E f V ks Q .ret F
 | [],_,k=>k
 | .seq _::ks,_,k=>An2 (ks:=ks) k
 | .loop _::ks,_,k=>An2 (ks:=ks) k
 | .block _::ks,_,k=>An2 (ks:=ks) k
theorem An1:∀ {ks:List Kt} {F:Fr},Adz ks=none->Q .normal F->kTo E f V ks Q .normal F
 | [],_,_,k=>k
 | .seq _::ks,_,h,_=>by simp [Adz] at h
 | .loop _::ks,_,h,_=>by simp [Adz] at h
 | .block _::ks,_,h,k=>An1 (ks:=ks) h k
abbrev St:=Blk×Fr
def frd (draw:Bool) (ops:Array Oper) (i:Nat) (s:St):Fr:=bif draw&&!Abe ops i then Ab6 (Aab ops s.1 i) s.2 else s.2
def pts (draw:Bool) (ops:Array Oper) (i:Nat) (s:St) (dst:Option Nat) (d:D):St:=
 bif draw then (bif Abe ops i then ([],fin s.2 dst d) else ((i,dst.toList,none)::s.1,set0 s.2 dst d)) else (s.1,fin s.2 dst d)
def Afj (E:Env) (f:Nat) (V:List Nat) (call:Aav) (ops:Array Oper) (draw:Bool) (i:Nat) (s:St):Option St:=match ops[i]? with
 | none=>none
 | some o=>
  bif draw then
   bif Abe ops i then match wantedD ops s.2 o with
    | some true=>(opC E f V call s.2 o).map fun F'=>([],F')
    | some false=>some ([],fin s.2 o.dst (tup []))
    | none=>none
   else match Aak E f call ops (Ab6 (Aab ops s.1 i) s.2) o with
    | some d=>bif Ab5 ops (Ab6 (Aab ops s.1 i) s.2) o&&Ad4 s.2 o&&Af9 s.1 o&&Adp ops s.1 i d then some ((i,o.dst.toList,none)::s.1,set0 s.2 o.dst d) else none
    | none=>effS E f V call ops s.1 i s.2 o
  else match wantedD ops s.2 o with
   | some true=>(opC E f V call s.2 o).map fun F'=>(s.1,F')
   | some false=>some (s.1,fin s.2 o.dst (tup []))
   | none=>none
def Aji (E:Env) (f:Nat) (V:List Nat) (call:Aav) (ops:Array Oper) (draw:Bool) (l:List Nat) (s:St):Option Fr:=
 if draw then Acp E f V call ops l s.1 s.2 else opsC E f V call ops l s.2
theorem Ba3 {call:Aav} {ops:Array Oper} {draw:Bool} {i:Nat} {l:List Nat} {s s':St} (h:Afj E f V call ops draw i s=some s'):Aji E f V call ops draw (i::l) s=Aji E f V call ops draw l s':=by
 obtain ⟨blk,F⟩:=s;unfold Afj at h;cases ho:ops[i]? with
 | none=>simp [ho] at h
 | some o=>
  simp only [ho] at h;cases draw with
  | true=>
   simp only [cond_true] at h;simp only [Aji,if_true,Acp,ho];cases ha:Abe ops i with
   | true=>
    simp only [ha,cond_true] at h;simp only [if_true];cases hw:wantedD ops F o with
    | none=>simp [hw] at h
    | some b=>
     cases b with
     | true=>
      simp only [hw,Option.map_eq_some_iff] at h;obtain ⟨F',h1,rfl⟩:=h;simp only [h1]
     | false=>
      simp only [hw,zJ] at h;subst h;rfl
   | false=>
    simp only [ha,cond_false] at h;simp only [Bool.false_eq_true,if_false]
    split at h
    ·rename_i d hp;cases hc:(Ab5 ops (Ab6 (Aab ops blk i) F) o&&Ad4 F o&&Af9 blk o&&Adp ops blk i d) with
     | false=>rw [hc] at h;simp at h
     | true=>
      rw [hc] at h;simp only [cond_true,zJ] at h;subst h;simp only [hp,hc,if_true];rfl
    ·rename_i hp;simp only [hp,h]
  | false=>
   simp only [cond_false] at h;simp only [Aji,Bool.false_eq_true,if_false,opsC,ho];cases hw:wantedD ops F o with
   | none=>simp [hw] at h
   | some b=>
    cases b with
    | true=>
     simp only [hw,Option.map_eq_some_iff] at h;obtain ⟨F',h1,rfl⟩:=h;simp only [h1]
    | false=>
     simp only [hw,zJ] at h;subst h;rfl
theorem Aop {c c':Aav} (h:Ad7 c c') {ops:Array Oper} {draw:Bool} {i:Nat} {s s':St} (hc:Afj E f V c ops draw i s=some s'):Afj E f V c' ops draw i s=some s':=by
 unfold Afj at hc ⊢
 split at hc
 ·cases hc
 ·rename_i o ho;cases draw with
  | true=>
   simp only [cond_true] at hc ⊢;cases ha:Abe ops i with
   | true=>
    simp only [ha,cond_true] at hc ⊢
    split at hc
    ·simp only [Option.map_eq_some_iff] at hc ⊢;obtain ⟨F',h1,h2⟩:=hc;exact ⟨F',Akb h h1,h2⟩
    ·exact hc
    ·cases hc
   | false=>
    simp only [ha,cond_false] at hc ⊢
    split at hc
    ·rename_i d hp;rw [Aom h hp];exact hc
    ·rename_i hp;rw [Ash c' hc hp];exact Awd h hc
  | false=>
   simp only [cond_false] at hc ⊢
   split at hc
   ·simp only [Option.map_eq_some_iff] at hc ⊢;obtain ⟨F',h1,h2⟩:=hc;exact ⟨F',Akb h h1,h2⟩
   ·exact hc
   ·cases hc
def Pt (E:Env) (f:Nat) (V:List Nat) (body:Code) (p:List Nat) (F:Fr) (Q:Ex->Fr->Prop):Prop:=AtC E f V (go body p []) F Q
variable {body:Code} {p p':List Nat}
variable {j:Nat} {s s':St}
theorem Ax3 {n j:Nat} (h:j<n):(List.range n).drop j=j::(List.range n).drop (j+1):=by
 rw [List.drop_eq_getElem_cons (by simpa using h)];simp
theorem Ajg {c:Aav}:Ad7 Ac2 c:=fun f ds x h=>by cases h
end
end Go.Own
