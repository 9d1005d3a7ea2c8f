/- An interpreter of function bodies, sound. No conditions. -/
import Derived.Test.YtockohmmmlhhfabGreatDoorOwn5
set_option linter.all false
namespace Go.Own
open D
abbrev Aj8:=Nat×List D
def Axz (E:Env) (F:Fr) (f:Nat) (c:Operand) (args:List Arg):Option (List D):=
 match passMoves E f 0 F args with
 | none=>none
 | some (ms,F1)=>match lentFrom E f F1 c 0 args with
  | none=>none
  | some l=>match holeC F1 l with
   | none=>none
   | some (ld,F2)=>passRest E f F1 F2 c ld 0 args ms
def opQ (E:Env) (F:Fr) (o:Oper):List Aj8:=match o.op with
 | .call c=>match c.callee with
  | .value x=>match opd E F x with
   | some (fn g caps)=>((Axz E F g x (argsOf c.args.toList caps.length)).map fun ds=>(g,ds)).toList
   | _=>[]
  | _=>[]
 | _=>[]
def valQ (E:Env) (F:Fr) (o:Oper):List Aj8:=match o.op with
 | .call c=>match c.callee with
  | .value x=>match opd E F x with
   | some (fn g caps)=>((passRest E g F F x none 0 (argsOf c.args.toList caps.length) ((argsOf c.args.toList caps.length).map fun _=>none)).map fun ds=>(g,ds)).toList
   | _=>[]
  | _=>[]
 | _=>[]
def opsQ (E:Env) (f:Nat) (V:List Nat) (call:Aam) (ops:Array Oper):List Nat->Fr->List Aj8
 | [],_=>[]
 | i::r,F=>match ops[i]? with
  | none=>opsQ E f V call ops r F
  | some o=>match wantedD ops F o with
   | some true=>opQ E F o++(match opC E f V call F o with
    | some F'=>opsQ E f V call ops r F'
    | none=>[])
   | some false=>opsQ E f V call ops r (fin F o.dst (tup []))
   | none=>[]
def Ajf (E:Env) (f:Nat) (V:List Nat) (call:Aam) (ops:Array Oper):List Nat->Blk->Fr->List Aj8
 | [],_,_=>[]
 | i::r,blk,F=>match ops[i]? with
  | none=>[]
  | some o=>if Abk ops i then match wantedD ops F o with
    | some true=>opQ E F o++(match opC E f V call F o with
     | some F'=>Ajf E f V call ops r [] F'
     | none=>[])
    | some false=>Ajf E f V call ops r [] (fin F o.dst (tup []))
    | none=>[]
   else valQ E (Ab0 (Aa9 ops blk i) F) o++(match Aak E f call ops (Ab0 (Aa9 ops blk i) F) o with
    | some d=>Ajf E f V call ops r ((i,dstL o,none)::blk) (set0 F o.dst d)
    | none=>opQ E (Ab0 (Aa9 ops blk i) F) o++match effS E f V call ops blk i F o with
     | some b=>Ajf E f V call ops r b.1 b.2
     | none=>[])
def regQ (E:Env) (f:Nat) (V:List Nat) (call:Aam) (ops:Array Oper) (draw:Bool) (F:Fr):List Aj8:=
 if draw then Ajf E f V call ops (List.range ops.size) [] (Abc F ops.toList) else opsQ E f V call ops (List.range ops.size) F
def Af6 (c c':Aam) (l:List Aj8):Prop:=∀ q∈l,∀ x,c q.1 q.2=some x->c' q.1 q.2=some x
theorem Af6.left {c c':Aam} {l m:List Aj8} (h:Af6 c c' (l++m)):Af6 c c' l:=fun q hq=>h q (List.mem_append_left _ hq)
theorem Af6.right {c c':Aam} {l m:List Aj8} (h:Af6 c c' (l++m)):Af6 c c' m:=fun q hq=>h q (List.mem_append_right _ hq)
theorem Bc2 {E:Env} {c c':Aam} {F:Fr} {f:Nat} {x:Operand} {bs:List Arg} {r:D×Fr} (h:∀ ds,Axz E F f x bs=some ds->∀ y,c f ds=some y->c' f ds=some y) (hc:callC E c F f x bs=some r):callC E c' F f x bs=some r:=by
 unfold callC at hc ⊢;unfold Axz at h
 split at hc
 ·cases hc
 ·rename_i ms F1 h1;simp only [h1] at h
  split at hc
  ·cases hc
  ·rename_i l h2;simp only [h2] at h
   split at hc
   ·cases hc
   ·rename_i ld F2 h3;simp only [h3] at h
    split at hc
    ·cases hc
    ·rename_i ds h4
     split at hc
     ·cases hc
     ·rename_i r outs hcl;simp only [h ds h4 _ hcl];exact hc
theorem Axx {E:Env} {c c':Aam} {f:Nat} {V:List Nat} {F F':Fr} {o:Oper} (h:Af6 c c' (opQ E F o)) (hc:opC E f V c F o=some F'):opC E f V c' F o=some F':=by
 unfold opC at hc ⊢;unfold opQ at h;cases hq:o.op with
 | call cl=>
  rw [hq] at hc h;simp only at hc h ⊢;cases hcl:cl.callee with
  | value x=>
   rw [hcl] at hc h;simp only at hc h ⊢;cases ho:opd E F x with
   | none=>simp [ho] at hc
   | some d=>
    cases d with
    | fn g caps=>
     simp only [ho,Option.bind_eq_some_iff] at hc h ⊢;obtain ⟨r,hr,hc⟩:=hc;refine ⟨r,Bc2 (fun ds hds y hy=>?_) hr,hc⟩;rw [hds] at h;exact h (g,ds) (by simp) y hy
    | _=>simp [ho] at hc
  | builtin b=>rw [hcl] at hc;cases b<;>exact hc
  | invoke a b=>rw [hcl] at hc;exact hc
 | makeFunc fn _ _=>rw [hq] at hc;cases fn<;>exact hc
 | makeMap _ r=>rw [hq] at hc;cases r<;>exact hc
 | slice _ _ _ _ mx=>rw [hq] at hc;cases mx<;>exact hc
 | extract x _=>rw [hq] at hc;cases x<;>exact hc
 | move x=>rw [hq] at hc;cases x<;>exact hc
 | _=>rw [hq] at hc;exact hc
theorem Bgn {E:Env} {c c':Aam} {f:Nat} {F:Fr} {o:Oper} {d:D} (h:Af6 c c' (valQ E F o)) (hc:valC E f c F o=some d):valC E f c' F o=some d:=by
 unfold valC at hc ⊢;unfold valQ at h;cases hq:o.op with
 | call cl=>
  rw [hq] at hc h;simp only at hc h ⊢;cases hcl:cl.callee with
  | value x=>
   rw [hcl] at hc h;simp only at hc h ⊢;cases ho:opd E F x with
   | none=>simp [ho] at hc
   | some d=>
    cases d with
    | fn g caps=>
     simp only [ho] at hc h ⊢
     split at hc
     ·rename_i hs;rw [if_pos hs];cases hp:passRest E g F F x none 0 (argsOf cl.args.toList caps.length) ((argsOf cl.args.toList caps.length).map fun _=>none) with
      | none=>rw [hp] at hc;cases hc
      | some ds=>
       rw [hp] at hc h;cases hcd:c g ds with
       | none=>simp [hcd] at hc
       | some x=>
        simp only [hcd] at hc;simp only [h (g,ds) (by simp) x hcd];exact hc
     ·cases hc
    | _=>simp [ho] at hc
  | builtin b=>rw [hcl] at hc;cases b<;>exact hc
  | invoke a b=>rw [hcl] at hc;exact hc
 | makeFunc fn _ _=>rw [hq] at hc;cases fn<;>exact hc
 | makeMap _ r=>rw [hq] at hc;cases r<;>exact hc
 | slice _ _ _ _ mx=>rw [hq] at hc;cases mx<;>exact hc
 | extract x _=>rw [hq] at hc;cases x<;>exact hc
 | move x=>rw [hq] at hc;cases x<;>exact hc
 | _=>rw [hq] at hc;exact hc
theorem Bdo {E:Env} {c c':Aam} {f:Nat} {ops:Array Oper} {F:Fr} {o:Oper} {d:D} (h:Af6 c c' (valQ E F o)) (hc:Aak E f c ops F o=some d):Aak E f c' ops F o=some d:=by
 unfold Aak at hc ⊢
 split at hc
 ·exact Bgn h hc
 ·exact hc
 ·cases hc
theorem Ams {E:Env} {c c':Aam} {f:Nat} {V:List Nat} {ops:Array Oper}:∀ {l:List Nat} {F F':Fr},Af6 c c' (opsQ E f V c ops l F)->opsC E f V c ops l F=some F'->opsC E f V c' ops l F=some F'
 | [],_,_,_,hc=>hc
 | i::l,F,F',h,hc=>by
  simp only [opsC] at hc ⊢;simp only [opsQ] at h;cases ho:ops[i]? with
  | none=>simp only [ho] at hc h ⊢;exact Ams h hc
  | some o=>
   simp only [ho] at hc h ⊢;cases hw:wantedD ops F o with
   | none=>simp [hw] at hc
   | some b=>
    cases b with
    | true=>
     simp only [hw] at hc h ⊢;cases h1:opC E f V c F o with
     | none=>simp [h1] at hc
     | some F1=>
      simp only [h1] at hc h;simp only [Axx h.left h1];exact Ams h.right hc
    | false=>simp only [hw] at hc h ⊢;exact Ams h hc
theorem Be3 {E:Env} {c c':Aam} {f:Nat} {V:List Nat} {ops:Array Oper} {blk:Blk} {i:Nat} {F:Fr} {o:Oper} {b:Blk×Fr} (hl:Af6 c c' (opQ E (Ab0 (Aa9 ops blk i) F) o)) (h:effS E f V c ops blk i F o=some b):effS E f V c' ops blk i F o=some b:=by
 have hC:∀ {r},effC E f V c (Ab0 (Aa9 ops blk i) F) o=some r->effC E f V c' (Ab0 (Aa9 ops blk i) F) o=some r:=fun {r} h=>by
  unfold effC at h ⊢
  split at h
  ·exact h
  split at h
  ·exact h
  split at h
  ·rename_i z F' hz ho;simp only [hz,Axx hl ho];exact h
  ·cases h
 unfold effS at h ⊢
 split at h
 ·exact h
 split at h
 ·split at h
  ·rename_i r hr;simp only [hC hr];exact h
  ·cases h
 ·cases h
theorem Ai7 {E:Env} {c c':Aam} {f:Nat} {V:List Nat} {ops:Array Oper}:∀ {l:List Nat} {blk:Blk} {F F':Fr},Af6 c c' (Ajf E f V c ops l blk F)->Abz E f V c ops l blk F=some F'->Abz E f V c' ops l blk F=some F'
 | [],_,_,_,_,hc=>hc
 | i::l,blk,F,F',h,hc=>by
  simp only [Abz] at hc ⊢;simp only [Ajf] at h;cases ho:ops[i]? with
  | none=>simp [ho] at hc
  | some o=>
   simp only [ho] at hc h ⊢;by_cases ha:Abk ops i=true
   ·simp only [if_pos ha] at hc h ⊢;cases hw:wantedD ops F o with
    | none=>simp [hw] at hc
    | some b=>
     cases b with
     | true=>
      simp only [hw] at hc h ⊢;cases h1:opC E f V c F o with
      | none=>simp [h1] at hc
      | some F1=>
       simp only [h1] at hc h;simp only [Axx h.left h1];exact Ai7 h.right hc
     | false=>simp only [hw] at hc h ⊢;exact Ai7 h hc
   ·simp only [if_neg ha] at hc h ⊢;cases hp:Aak E f c ops (Ab0 (Aa9 ops blk i) F) o with
    | none=>
     simp only [hp] at hc h
     split at hc
     ·rename_i b hb;simp only [hb] at h;rw [Amv c' hb hp];simp only [Be3 h.right.left hb];exact Ai7 h.right.right hc
     ·cases hc
    | some d=>
     simp only [hp] at hc h;simp only [Bdo h.left hp]
     split at hc
     ·rename_i hs;rw [if_pos hs];exact Ai7 h.right hc
     ·cases hc
theorem Bgi {E:Env} {c c':Aam} {f:Nat} {V:List Nat} {ops:Array Oper} {draw:Bool} {F F':Fr} (h:Af6 c c' (regQ E f V c ops draw F)) (hc:regC E f V c ops draw F=some F'):regC E f V c' ops draw F=some F':=by
 unfold regC at hc ⊢;unfold regQ at h
 split at hc
 ·rename_i hd;rw [if_pos hd] at h ⊢
  split at hc
  ·rename_i hb;rw [if_pos hb];simp only [Option.map_eq_some_iff] at hc ⊢;obtain ⟨F1,h1,h2⟩:=hc;exact ⟨F1,Ai7 h h1,h2⟩
  ·cases hc
 ·rename_i hd;rw [if_neg hd] at h ⊢;simp only [Option.map_eq_some_iff] at hc ⊢;obtain ⟨F1,h1,h2⟩:=hc;exact ⟨F1,Ams h h1,h2⟩
end Go.Own
namespace Go.Own
open D
def Runs (E:Env) (f:Nat) (V:List Nat) (cd:Code) (F:Fr) (x:Ex×Fr):Prop:=∃ N,∀ n,N<=n->Aae E f V (Ab8 E n) n cd F=some x
def To (E:Env) (f:Nat) (V:List Nat) (cd:Code) (F:Fr) (Q:Ex->Fr->Prop):Prop:=∃ e F',Runs E f V cd F (e,F')/\Q e F'
def Acf:Aam:=fun _ _=>none
section
variable {E:Env} {f:Nat} {V:List Nat} {F F':Fr} {Q:Ex->Fr->Prop}
theorem To.skip (k:Q .normal F):To E f V .skip F Q:=⟨_,_,⟨0,fun _ _=>rfl⟩,k⟩
theorem To.exit {id:Nat} (k:Q (.exit id) (trim E f V 3 id F)):To E f V (.exit id) F Q:=⟨_,_,⟨0,fun _ _=>rfl⟩,k⟩
theorem To.ret (k:Q .ret F):To E f V .ret F Q:=⟨_,_,⟨0,fun _ _=>rfl⟩,k⟩
def Ar0 (E:Env) (f:Nat) (V:List Nat) (b:Code) (Q:Ex->Fr->Prop):Ex->Fr->Prop
 | .normal,F=>To E f V b F Q
 | e,F=>Q e F
theorem To.seq {a b:Code} (h:To E f V a F (Ar0 E f V b Q)):To E f V (.seq a b) F Q:=by
 obtain ⟨e,F1,⟨N,hN⟩,h2⟩:=h;cases e with
 | normal=>
  obtain ⟨e2,F2,⟨K,hK⟩,k2⟩:=h2;exact ⟨e2,F2,⟨max N K,fun n hn=>by simp only [Aae,hN n (by omega)];exact hK n (by omega)⟩,k2⟩
 | exit i=>exact ⟨_,_,⟨N,fun n hn=>by simp only [Aae,hN n hn]⟩,h2⟩
 | ret=>exact ⟨_,_,⟨N,fun n hn=>by simp only [Aae,hN n hn]⟩,h2⟩
theorem To.cond {y:Operand} {a b:Code} {t:Bool} (hy:opd E F y=some (.lit (.bool t))) (h1:t=true->To E f V a (trim E f V 1 (Ahe y) F) Q) (h2:t=false->To E f V b (trim E f V 2 (Ahe y) F) Q):To E f V (.cond y a b) F Q:=by
 cases t with
 | true=>obtain ⟨e,F1,⟨N,hN⟩,k2⟩:=h1 rfl;exact ⟨e,F1,⟨N,fun n hn=>by simp only [Aae,hy,if_true];exact hN n hn⟩,k2⟩
 | false=>obtain ⟨e,F1,⟨N,hN⟩,k2⟩:=h2 rfl;exact ⟨e,F1,⟨N,fun n hn=>by simp only [Aae,hy,Bool.false_eq_true,if_false];exact hN n hn⟩,k2⟩
def Anl (id:Nat) (Q:Ex->Fr->Prop):Ex->Fr->Prop
 | .exit i,F=>if i=id then Q .normal F else Q (.exit i) F
 | e,F=>Q e F
theorem To.block {id:Nat} {b:Code} (h:To E f V b F (Anl id Q)):To E f V (.block id b) F Q:=by
 obtain ⟨e,F1,⟨N,hN⟩,h2⟩:=h;cases e with
 | normal=>exact ⟨_,F1,⟨N,fun n hn=>by simp only [Aae,hN n hn]⟩,h2⟩
 | ret=>exact ⟨_,F1,⟨N,fun n hn=>by simp only [Aae,hN n hn]⟩,h2⟩
 | exit i=>
  simp only [Anl] at h2;by_cases hi:i=id
  ·rw [if_pos hi] at h2;exact ⟨_,F1,⟨N,fun n hn=>by simp only [Aae,hN n hn,if_pos hi]⟩,h2⟩
  ·rw [if_neg hi] at h2;exact ⟨_,F1,⟨N,fun n hn=>by simp only [Aae,hN n hn,if_neg hi]⟩,h2⟩
theorem To.loop {b:Code} (h:To E f V b F (Ar0 E f V (.loop b) Q)):To E f V (.loop b) F Q:=by
 obtain ⟨e,F1,⟨N,hN⟩,h2⟩:=h;cases e with
 | normal=>
  obtain ⟨e2,F2,⟨K,hK⟩,k2⟩:=h2;refine ⟨e2,F2,⟨max N K+1,fun n hn=>?_⟩,k2⟩;obtain ⟨m,rfl⟩:∃ m,n=m+1:=⟨n-1,by omega⟩
  have hm:=hK m (by omega);simp only [Aae] at hm ⊢;simp only [iter,hN (m+1) (by omega)];exact Ark (fun F y hy=>Aew (Aox (Nat.le_succ m)) (Nat.le_succ m) hy) (Nat.le_refl m) hm
 | exit i=>
  refine ⟨_,_,⟨N+1,fun n hn=>?_⟩,h2⟩;obtain ⟨m,rfl⟩:∃ m,n=m+1:=⟨n-1,by omega⟩
  simp only [Aae,iter,hN (m+1) (by omega)]
 | ret=>
  refine ⟨_,_,⟨N+1,fun n hn=>?_⟩,h2⟩;obtain ⟨m,rfl⟩:∃ m,n=m+1:=⟨n-1,by omega⟩
  simp only [Aae,iter,hN (m+1) (by omega)]
end
def Bdv (E:Env) (f:Nat) (fd:Func) (n:Nat) (r:D) (outs:List D):Ex->Fr->Prop
 | .exit _,_=>False
 | _,F=>Af0 E f fd n F=some (r,outs)
theorem Ret.of_to {E:Env} {f:Nat} {fd:Func} {cd:Code} {ds:List D} {r:D} {outs:List D} {F0:Fr} (hp:E.prim f=none) (hf:E.P.funcs[f]? = some fd) (hb:fd.body=some cd) (hl:ds.length<=fd.ntmps/\fd.ntmps<1000000)
  (h0:norm (E.vars f++Ac3 E f 0 ds.length) (Adj E f 0 ds)=F0) (hr:To E f (E.vars f++Ac3 E f 0 ds.length) cd F0 (Bdv E f fd ds.length r outs)):Ret E f ds r outs:=by
 obtain ⟨e,F,⟨N,hN⟩,h2⟩:=hr;subst h0;refine Ret.of (n:=N+1) ?_;simp only [Ab8,hp,hf,hb,if_pos hl,hN N (Nat.le_refl N)];cases e with
 | exit i=>exact h2.elim
 | normal=>exact h2
 | ret=>exact h2
end Go.Own
namespace Go.Own
open D
inductive Kt | seq (b:Code) | block (id:Nat) | loop (b:Code)
def dn:Code->List Kt->Code×List Kt
 | .seq a b,ks=>dn a (.seq b::ks)
 | .block id b,ks=>dn b (.block id::ks)
 | c,ks=>(c,ks)
def go:Code->List Nat->List Kt->Code×List Kt
 | .seq a b,i::p,ks=>match i with
  | 0=>go a p (.seq b::ks)
  | _=>go b p ks
 | .cond _ a b,i::p,ks=>match i with
  | 0=>go a p ks
  | _=>go b p ks
 | .block id b,_::p,ks=>go b p (.block id::ks)
 | .loop b,_::p,ks=>go b p (.loop b::ks)
 | c,_,ks=>(c,ks)
def Aee:List Kt->Option (Code×List Kt)
 | []=>none
 | .seq b::ks=>some (dn b ks)
 | .block _::ks=>Aee ks
 | .loop b::ks=>some (.loop b,ks)
def Ahw (id:Nat):List Kt->Option (List Kt)
 | []=>none
 | .block i::ks=>if id=i then some ks else Ahw id ks
 | .seq _::ks=>Ahw id ks
 | .loop _::ks=>Ahw id ks
section
variable {E:Env} {f:Nat} {V:List Nat} {F F':Fr} {Q:Ex->Fr->Prop}
def kTo (E:Env) (f:Nat) (V:List Nat):List Kt->(Ex->Fr->Prop)->Ex->Fr->Prop
 | [],Q=>Q
 | .seq b::ks,Q=>Ar0 E f V b (kTo E f V ks Q)
 | .block id::ks,Q=>Anl id (kTo E f V ks Q)
 | .loop b::ks,Q=>Ar0 E f V (.loop b) (kTo E f V ks Q)
def AtC (E:Env) (f:Nat) (V:List Nat) (c:Code×List Kt) (F:Fr) (Q:Ex->Fr->Prop):Prop:=To E f V c.1 F (kTo E f V c.2 Q)
theorem Aic:∀ (c:Code) (ks:List Kt) {F:Fr},AtC E f V (dn c ks) F Q->AtC E f V (c,ks) F Q
 | .seq a b,ks,_,h=>To.seq (Aic a (.seq b::ks) h)
 | .block id b,ks,_,h=>To.block (Aic b (.block id::ks) h)
 | .skip,_,_,h=>h
 | .region ..,_,_,h=>h
 | .cond ..,_,_,h=>h
 | .loop _,_,_,h=>h
 | .exit _,_,_,h=>h
 | .ret,_,_,h=>h
 | .rangeFunc ..,_,_,h=>h
 | .scope _,_,_,h=>h
 | .label _,_,_,h=>h
 | .goto _,_,_,h=>h
 | .refuse _,_,_,h=>h
theorem Alg:∀ {ks:List Kt} {c:Code×List Kt} {F:Fr},Aee ks=some c->AtC E f V c F Q->kTo E f V ks Q .normal F
 | [],c,_,h,_=>by simp [Aee] at h
 | .seq b::ks,c,F,h,k=>by
  simp only [Aee,zJ] at h;subst h;exact Aic b ks k
 | .block id::ks,c,F,h,k=>Alg (ks:=ks) h k
 | .loop b::ks,c,F,h,k=>by
  simp only [Aee,zJ] at h;subst h;exact k
theorem Aii {id:Nat}:∀ {ks ks':List Kt} {F:Fr},Ahw id ks=some ks'->kTo E f V ks' Q .normal F->kTo E f V ks Q (.exit id) F
 | [],_,_,h,_=>by simp [Ahw] at h
 | .seq _::ks,ks',F,h,k=>Aii (ks:=ks) h k
 | .loop _::ks,ks',F,h,k=>Aii (ks:=ks) h k
 | .block i::ks,ks',F,h,k=>by
  simp only [Ahw] at h;simp only [kTo,Anl]
  split at h
  ·rename_i hi;simp only [zJ] at h;subst h;rw [if_pos hi];exact k
  ·rename_i hi;rw [if_neg hi];exact Aii h k
theorem Anp:∀ {ks:List Kt} {F:Fr},Q .ret F->kTo E f V ks Q .ret F
 | [],_,k=>k
 | .seq _::ks,_,k=>Anp (ks:=ks) k
 | .loop _::ks,_,k=>Anp (ks:=ks) k
 | .block _::ks,_,k=>Anp (ks:=ks) k
theorem Ano:∀ {ks:List Kt} {F:Fr},Aee ks=none->Q .normal F->kTo E f V ks Q .normal F
 | [],_,_,k=>k
 | .seq _::ks,_,h,_=>by simp [Aee] at h
 | .loop _::ks,_,h,_=>by simp [Aee] at h
 | .block _::ks,_,h,k=>Ano (ks:=ks) h k
abbrev St:=Blk×Fr
def frd (draw:Bool) (ops:Array Oper) (i:Nat) (s:St):Fr:=bif draw&&!Abk ops i then Ab0 (Aa9 ops s.1 i) s.2 else s.2
def pts (draw:Bool) (ops:Array Oper) (i:Nat) (s:St) (dst:Option Nat) (d:D):St:=
 bif draw then (bif Abk ops i then ([],fin s.2 dst d) else ((i,dst.toList,none)::s.1,set0 s.2 dst d)) else (s.1,fin s.2 dst d)
def Afw (E:Env) (f:Nat) (V:List Nat) (call:Aam) (ops:Array Oper) (draw:Bool) (i:Nat) (s:St):Option St:=match ops[i]? with
 | none=>none
 | some o=>
  bif draw then
   bif Abk ops i then match wantedD ops s.2 o with
    | some true=>(opC E f V call s.2 o).map fun F'=>([],F')
    | some false=>some ([],fin s.2 o.dst (tup []))
    | none=>none
   else match Aak E f call ops (Ab0 (Aa9 ops s.1 i) s.2) o with
    | some d=>bif Abi ops (Ab0 (Aa9 ops s.1 i) s.2) o&&Ade s.2 o&&Afm s.1 o&&Ae4 ops s.1 i d then some ((i,o.dst.toList,none)::s.1,set0 s.2 o.dst d) else none
    | none=>effS E f V call ops s.1 i s.2 o
  else match wantedD ops s.2 o with
   | some true=>(opC E f V call s.2 o).map fun F'=>(s.1,F')
   | some false=>some (s.1,fin s.2 o.dst (tup []))
   | none=>none
def Ajn (E:Env) (f:Nat) (V:List Nat) (call:Aam) (ops:Array Oper) (draw:Bool) (l:List Nat) (s:St):Option Fr:=
 if draw then Abz E f V call ops l s.1 s.2 else opsC E f V call ops l s.2
theorem Azs {call:Aam} {ops:Array Oper} {draw:Bool} {i:Nat} {l:List Nat} {s s':St} (h:Afw E f V call ops draw i s=some s'):Ajn E f V call ops draw (i::l) s=Ajn E f V call ops draw l s':=by
 obtain ⟨blk,F⟩:=s;unfold Afw at h;cases ho:ops[i]? with
 | none=>simp [ho] at h
 | some o=>
  simp only [ho] at h;cases draw with
  | true=>
   simp only [cond_true] at h;simp only [Ajn,if_true,Abz,ho];cases ha:Abk ops i with
   | true=>
    simp only [ha,cond_true] at h;simp only [if_true];cases hw:wantedD ops F o with
    | none=>simp [hw] at h
    | some b=>
     cases b with
     | true=>
      simp only [hw,Option.map_eq_some_iff] at h;obtain ⟨F',h1,rfl⟩:=h;simp only [h1]
     | false=>
      simp only [hw,zJ] at h;subst h;rfl
   | false=>
    simp only [ha,cond_false] at h;simp only [Bool.false_eq_true,if_false]
    split at h
    ·rename_i d hp;cases hc:(Abi ops (Ab0 (Aa9 ops blk i) F) o&&Ade F o&&Afm blk o&&Ae4 ops blk i d) with
     | false=>rw [hc] at h;simp at h
     | true=>
      rw [hc] at h;simp only [cond_true,zJ] at h;subst h;simp only [hp,hc,if_true];rfl
    ·rename_i hp;simp only [hp,h]
  | false=>
   simp only [cond_false] at h;simp only [Ajn,Bool.false_eq_true,if_false,opsC,ho];cases hw:wantedD ops F o with
   | none=>simp [hw] at h
   | some b=>
    cases b with
    | true=>
     simp only [hw,Option.map_eq_some_iff] at h;obtain ⟨F',h1,rfl⟩:=h;simp only [h1]
    | false=>
     simp only [hw,zJ] at h;subst h;rfl
theorem Ape {c c':Aam} (h:Adh c c') {ops:Array Oper} {draw:Bool} {i:Nat} {s s':St} (hc:Afw E f V c ops draw i s=some s'):Afw E f V c' ops draw i s=some s':=by
 unfold Afw at hc ⊢
 split at hc
 ·cases hc
 ·rename_i o ho;cases draw with
  | true=>
   simp only [cond_true] at hc ⊢;cases ha:Abk ops i with
   | true=>
    simp only [ha,cond_true] at hc ⊢
    split at hc
    ·simp only [Option.map_eq_some_iff] at hc ⊢;obtain ⟨F',h1,h2⟩:=hc;exact ⟨F',Akl h h1,h2⟩
    ·exact hc
    ·cases hc
   | false=>
    simp only [ha,cond_false] at hc ⊢
    split at hc
    ·rename_i d hp;rw [Aiq h hp];exact hc
    ·rename_i hp;rw [Amv c' hc hp];exact Awi h hc
  | false=>
   simp only [cond_false] at hc ⊢
   split at hc
   ·simp only [Option.map_eq_some_iff] at hc ⊢;obtain ⟨F',h1,h2⟩:=hc;exact ⟨F',Akl h h1,h2⟩
   ·exact hc
   ·cases hc
def Pt (E:Env) (f:Nat) (V:List Nat) (body:Code) (p:List Nat) (F:Fr) (Q:Ex->Fr->Prop):Prop:=AtC E f V (go body p []) F Q
variable {body:Code} {p p':List Nat}
variable {j:Nat} {s s':St}
theorem Axd {n j:Nat} (h:j<n):(List.range n).drop j=j::(List.range n).drop (j+1):=by
 rw [List.drop_eq_getElem_cons (by simpa using h)];simp
theorem Ajm {c:Aam}:Adh Acf c:=fun f ds x h=>by cases h
end
end Go.Own
