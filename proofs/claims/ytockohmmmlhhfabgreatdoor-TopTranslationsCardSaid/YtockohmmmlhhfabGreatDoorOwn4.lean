/- An interpreter of function bodies, sound. No conditions. -/
import Derived.Test.YtockohmmmlhhfabGreatDoorOwn3
set_option linter.all false
namespace Go.Own
open D
abbrev Aam:=Nat->List D->Option (D×List D)
def Adh (c c':Aam):Prop:=∀ f ds x,c f ds=some x->c' f ds=some x
theorem Bam {E:Env} {c c':Aam} (h:Adh c c') {F:Fr} {f:Nat} {x:Operand} {bs:List Arg} {r:D×Fr} (hc:callC E c F f x bs=some r):callC E c' F f x bs=some r:=by
 unfold callC at hc ⊢
 split at hc
 ·cases hc
 ·split at hc
  ·cases hc
  ·split at hc
   ·cases hc
   ·split at hc
    ·cases hc
    ·rename_i h4 _ _ h3 _ h2 _ _ _ h1
     split at hc
     ·cases hc
     ·rename_i r outs hcl;simp only [h _ _ _ hcl];exact hc
theorem Akl {E:Env} {c c':Aam} (h:Adh c c') {f:Nat} {V:List Nat} {F F':Fr} {o:Oper} (hc:opC E f V c F o=some F'):opC E f V c' F o=some F':=by
 unfold opC at hc ⊢;cases hq:o.op with
 | call cl=>
  rw [hq] at hc;simp only at hc ⊢;cases hcl:cl.callee with
  | value x=>
   rw [hcl] at hc;simp only at hc ⊢;cases ho:opd E F x with
   | none=>simp [ho] at hc
   | some d=>
    cases d with
    | fn g caps=>
     simp only [ho,Option.bind_eq_some_iff] at hc ⊢;obtain ⟨r,hr,hc⟩:=hc;exact ⟨r,Bam h hr,hc⟩
    | _=>simp [ho] at hc
  | builtin b=>rw [hcl] at hc;cases b<;>exact hc
  | invoke a b=>rw [hcl] at hc;exact hc
 | makeFunc fn _ _=>rw [hq] at hc;cases fn<;>exact hc
 | makeMap _ r=>rw [hq] at hc;cases r<;>exact hc
 | slice _ _ _ _ mx=>rw [hq] at hc;cases mx<;>exact hc
 | extract x _=>rw [hq] at hc;cases x<;>exact hc
 | move x=>rw [hq] at hc;cases x<;>exact hc
 | _=>rw [hq] at hc;exact hc
theorem Bds {E:Env} {c c':Aam} (h:Adh c c') {f:Nat} {F:Fr} {o:Oper} {d:D} (hc:valC E f c F o=some d):valC E f c' F o=some d:=by
 unfold valC at hc ⊢;cases hq:o.op with
 | call cl=>
  rw [hq] at hc;simp only at hc ⊢;cases hcl:cl.callee with
  | value x=>
   rw [hcl] at hc;simp only at hc ⊢;cases ho:opd E F x with
   | none=>simp [ho] at hc
   | some d=>
    cases d with
    | fn g caps=>
     simp only [ho] at hc ⊢
     split at hc
     ·rename_i hs;rw [if_pos hs]
      split at hc
      ·rename_i ds hp;cases hcd:c g ds with
       | none=>simp [hcd] at hc
       | some x=>
        rw [hcd] at hc;simp only [h _ _ _ hcd];exact hc
      ·cases hc
     ·cases hc
    | _=>simp [ho] at hc
  | builtin b=>rw [hcl] at hc;cases b<;>exact hc
  | invoke a b=>rw [hcl] at hc;exact hc
 | makeFunc fn _ _=>rw [hq] at hc;cases fn<;>exact hc
 | makeMap _ r=>rw [hq] at hc;cases r<;>exact hc
 | slice _ _ _ _ mx=>rw [hq] at hc;cases mx<;>exact hc
 | extract x _=>rw [hq] at hc;cases x<;>exact hc
 | move x=>rw [hq] at hc;cases x<;>exact hc
 | _=>rw [hq] at hc;exact hc
theorem Aiq {E:Env} {c c':Aam} (h:Adh c c') {f:Nat} {ops:Array Oper} {F:Fr} {o:Oper} {d:D} (hc:Aak E f c ops F o=some d):Aak E f c' ops F o=some d:=by
 unfold Aak at hc ⊢
 split at hc
 ·exact Bds h hc
 ·exact hc
 ·cases hc
theorem Baq {E:Env} {c:Aam} {f:Nat} {V:List Nat} {F:Fr} {o:Oper} {r:List (Nat×D)×List (Nat×Path)} (h:effC E f V c F o=some r):(∀ cl x,o.op=.call cl->cl.callee≠.value x)∨∃ cl g u rest,o.op=.call cl/\cl.callee=.value (.func g)/\cl.args.toList=.tmp u::rest/\E.mode g 0=.inout:=by
 unfold effC at h
 split at h
 ·rename_i r hr;left;intro cl x hq _;unfold Acx at hr;rw [hq] at hr;cases hr
 split at h
 ·rename_i r hr;left;intro cl x hq _;unfold Aj0 at hr;rw [hq] at hr;cases hr
 split at h
 case h_2=>cases h
 rename_i z F' hz _;unfold Ad5 at hz
 split at hz
 case h_2=>rename_i hop;left;intro cl x hq;rw [hop] at hq;cases hq
 case h_3=>rename_i hop;left;intro cl x hq;rw [hop] at hq;cases hq
 case h_4=>rename_i hop;left;intro cl x hq;rw [hop] at hq;cases hq
 case h_5=>cases hz
 rename_i cl hop
 split at hz
 case h_1=>rename_i hcl;left;intro cl' x hq hc;rw [hop] at hq;cases hq;rw [hcl] at hc;cases hc
 case h_3=>cases hz
 rename_i g hcl;unfold Ajc at hz
 split at hz
 case h_2=>cases hz
 rename_i u rest t hargs hdst
 split at hz
 case h_2=>cases hz
 split at hz
 case isFalse=>cases hz
 rename_i hc;simp only [Bool.and_eq_true] at hc;exact .inr ⟨cl,g,u,rest,hop,hcl,hargs,by simpa using hc.1.1⟩
theorem Ba3 {E:Env} {c c':Aam} {f:Nat} {F:Fr} {o:Oper} (h:∀ cl x,o.op=.call cl->cl.callee≠.value x):valC E f c F o=valC E f c' F o:=by
 unfold valC;cases hq:o.op with
 | call cl=>
  simp only;cases hcl:cl.callee with
  | value x=>exact absurd hcl (h cl x hq)
  | builtin b=>cases b<;>rfl
  | invoke a b=>rfl
 | makeFunc fn _ _=>cases fn<;>rfl
 | makeMap _ r=>cases r<;>rfl
 | slice _ _ _ _ mx=>cases mx<;>rfl
 | extract x _=>cases x<;>rfl
 | move x=>cases x<;>rfl
 | _=>rfl
theorem Bc6 {E:Env} {c c':Aam} (hl:Adh c c') {f:Nat} {V:List Nat} {F:Fr} {o:Oper} {r:List (Nat×D)×List (Nat×Path)} (h:effC E f V c F o=some r):effC E f V c' F o=some r:=by
 unfold effC at h ⊢
 split at h
 ·exact h
 split at h
 ·exact h
 split at h
 ·rename_i z F' hz ho;simp only [hz,Akl hl ho];exact h
 ·cases h
theorem Awi {E:Env} {c c':Aam} (hl:Adh c c') {f:Nat} {V:List Nat} {ops:Array Oper} {blk:Blk} {i:Nat} {F:Fr} {o:Oper} {b:Blk×Fr} (h:effS E f V c ops blk i F o=some b):effS E f V c' ops blk i F o=some b:=by
 unfold effS at h ⊢
 split at h
 ·exact h
 split at h
 ·split at h
  ·rename_i r hr;simp only [Bc6 hl hr];exact h
  ·cases h
 ·cases h
theorem Aqh {E:Env} {f:Nat} {ops:Array Oper} {blk:Blk} {i:Nat} {F:Fr} {o:Oper} {d:D} (h:Aia E f ops blk i F o=some d):(∃ t u,o.op=.load t u)∨∃ t u j,o.op=.fieldAddr t u j:=by
 unfold Aia at h
 split at h
 ·rename_i hl;unfold Ans at hl
  split at hl
  ·rename_i ho _;exact .inl ⟨_,_,ho⟩
  ·rename_i ho _;exact .inr ⟨_,_,_,ho⟩
  ·cases hl
 ·cases h
theorem Axe {E:Env} {c:Aam} {f f':Nat} {V:List Nat} {ops:Array Oper} {blk:Blk} {i:Nat} {F A:Fr} {o:Oper} {r:List (Nat×D)×List (Nat×Path)} (h:effC E f V c F o=some r):Aia E f' ops blk i A o=none:=by
 cases hl:Aia E f' ops blk i A o with
 | none=>rfl
 | some d=>
  rcases Aqh hl with ⟨t,u,ho⟩ | ⟨t,u,j,ho⟩
  ·unfold effC Acx Aj0 Ad5 at h;simp [ho] at h
  ·unfold effC Acx Aj0 Ad5 at h;simp [ho] at h
theorem Amv {E:Env} {c:Aam} (c':Aam) {f:Nat} {V:List Nat} {ops:Array Oper} {blk:Blk} {i:Nat} {F A:Fr} {o:Oper} {b:Blk×Fr} (h:effS E f V c ops blk i F o=some b) (hp:Aak E f c ops A o=none):Aak E f c' ops A o=none:=by
 have no:(∀ cl x,o.op=.call cl->cl.callee≠.value x)->Aak E f c' ops A o=none:=fun hn=>by
  unfold Aak at hp ⊢;rw [Ba3 hn (c':=c)];exact hp
 unfold effS at h
 split at h
 ·rename_i d hd;rcases Aqh hd with ⟨t,u,ho⟩ | ⟨t,u,j,ho⟩
  ·exact no fun cl x hc=>by rw [ho] at hc;cases hc
  ·exact no fun cl x hc=>by rw [ho] at hc;cases hc
 split at h
 ·split at h
  ·rename_i r hr;rcases Baq hr with hn | ⟨cl,g,u,rest,h1,h2,h3,h4⟩
   ·exact no hn
   ·have hv:∀ c,valC E f c A o=none:=fun c=>by
     have hs:Aiz E g (argsOf cl.args.toList 0).length=false:=by
      unfold Aiz;rw [List.all_eq_false];refine ⟨0,by rw [List.mem_range,h3];simp [argsOf],by rw [h4];decide⟩
     unfold valC;simp only [h1,h2,opd,List.length_nil,hs,Bool.false_eq_true,if_false]
    unfold Aak at hp ⊢;rw [hv] at hp ⊢;exact hp
  ·cases h
 ·cases h
theorem Anu {E:Env} {c c':Aam} (h:Adh c c') {f:Nat} {V:List Nat} {ops:Array Oper}:∀ {l:List Nat} {F F':Fr},opsC E f V c ops l F=some F'->opsC E f V c' ops l F=some F'
 | [],_,_,hc=>hc
 | i::l,F,F',hc=>by
  simp only [opsC] at hc ⊢
  split at hc
  ·exact Anu h hc
  ·split at hc
   ·rename_i o _ _ _
    split at hc
    ·rename_i F1 h1;simp only [Akl h h1];exact Anu h hc
    ·cases hc
   ·exact Anu h hc
   ·cases hc
theorem Aif {E:Env} {c c':Aam} (h:Adh c c') {f:Nat} {V:List Nat} {ops:Array Oper}:∀ {l:List Nat} {blk:Blk} {F F':Fr},Abz E f V c ops l blk F=some F'->Abz E f V c' ops l blk F=some F'
 | [],_,_,_,hc=>hc
 | i::l,blk,F,F',hc=>by
  simp only [Abz] at hc ⊢
  split at hc
  ·cases hc
  ·split at hc
   ·rename_i ha;rw [if_pos ha]
    split at hc
    ·split at hc
     ·rename_i F1 h1;simp only [Akl h h1];exact Aif h hc
     ·cases hc
    ·exact Aif h hc
    ·cases hc
   ·rename_i ha;rw [if_neg ha]
    split at hc
    ·rename_i d hp;simp only [Aiq h hp]
     split at hc
     ·rename_i hs;rw [if_pos hs];exact Aif h hc
     ·cases hc
    ·rename_i hp
     split at hc
     ·rename_i b hb;rw [Amv c' hb hp];simp only [Awi h hb];exact Aif h hc
     ·cases hc
theorem Bdp {E:Env} {c c':Aam} (h:Adh c c') {f:Nat} {V:List Nat} {ops:Array Oper} {draw:Bool} {F F':Fr} (hc:regC E f V c ops draw F=some F'):regC E f V c' ops draw F=some F':=by
 unfold regC at hc ⊢
 split at hc
 ·rename_i hd;rw [if_pos hd]
  split at hc
  ·rename_i hb;rw [if_pos hb];simp only [Option.map_eq_some_iff] at hc ⊢;obtain ⟨F1,h1,h2⟩:=hc;exact ⟨F1,Aif h h1,h2⟩
  ·cases hc
 ·rename_i hd;rw [if_neg hd];simp only [Option.map_eq_some_iff] at hc ⊢;obtain ⟨F1,h1,h2⟩:=hc;exact ⟨F1,Anu h h1,h2⟩
theorem Ark {b b':Fr->Option (Ex×Fr)} (h:∀ F x,b F=some x->b' F=some x):∀ {n m:Nat} {F:Fr} {x:Ex×Fr},n<=m->iter n b F=some x->iter m b' F=some x
 | 0,_,_,_,_,hc=>by simp [iter] at hc
 | n+1,0,_,_,hm,_=>by omega
 | n+1,m+1,F,x,hm,hc=>by
  simp only [iter] at hc ⊢;cases hb:b F with
  | none=>simp [hb] at hc
  | some q=>
   rw [hb] at hc;rw [h _ _ hb];obtain ⟨e,F1⟩:=q;cases e with
   | normal=>exact Ark h (by omega) hc
   | exit id=>exact hc
   | ret=>exact hc
theorem Aew {E:Env} {c c':Aam} (h:Adh c c') {f:Nat} {V:List Nat} {n m:Nat} (hn:n<=m):∀ {cd:Code} {F:Fr} {x:Ex×Fr},Aae E f V c n cd F=some x->Aae E f V c' m cd F=some x
 | .skip,_,_,hc=>hc
 | .exit _,_,_,hc=>hc
 | .ret,_,_,hc=>hc
 | .region _ ops draw,F,x,hc=>by
  simp only [Aae,Option.map_eq_some_iff] at hc ⊢;obtain ⟨F1,h1,h2⟩:=hc;exact ⟨F1,Bdp h h1,h2⟩
 | .seq a b,F,x,hc=>by
  simp only [Aae] at hc ⊢;cases hr:Aae E f V c n a F with
  | none=>simp [hr] at hc
  | some q=>
   rw [hr] at hc;rw [Aew h hn hr];obtain ⟨e,F1⟩:=q;cases e with
   | normal=>exact Aew h hn hc
   | exit id=>exact hc
   | ret=>exact hc
 | .cond y a b,F,x,hc=>by
  simp only [Aae] at hc ⊢
  split at hc
  ·split at hc
   ·rename_i ht;rw [if_pos ht];exact Aew h hn hc
   ·rename_i ht;rw [if_neg ht];exact Aew h hn hc
  ·cases hc
 | .block id b,F,x,hc=>by
  simp only [Aae] at hc ⊢;cases hr:Aae E f V c n b F with
  | none=>simp [hr] at hc
  | some q=>
   rw [hr] at hc;rw [Aew h hn hr];exact hc
 | .loop b,F,x,hc=>by
  simp only [Aae] at hc ⊢;exact Ark (fun F y hy=>Aew h hn hy) hn hc
 | .rangeFunc ..,_,_,hc=>by simp [Aae] at hc
 | .scope _,_,_,hc=>by simp [Aae] at hc
 | .label _,_,_,hc=>by simp [Aae] at hc
 | .goto _,_,_,hc=>by simp [Aae] at hc
 | .refuse _,_,_,hc=>by simp [Aae] at hc
theorem At5 {c c':Aam} (h:Adh c c'):∀ (q:Ask) {x:D×List D},runAsk c q=some x->runAsk c' q=some x
 | .ret _,_,hc=>hc
 | .call f ds k,x,hc=>by
  simp only [runAsk] at hc ⊢
  split at hc
  ·rename_i r hr;rw [h f ds r hr];exact At5 h (k r) hc
  ·cases hc
theorem Aox {E:Env}:∀ {n m:Nat},n<=m->Adh (Ab8 E n) (Ab8 E m)
 | 0,_,_=>fun f ds x hc=>by simp [Ab8] at hc
 | n+1,0,hm=>by omega
 | n+1,m+1,hm=>fun f ds x hc=>by
  have ih:=Aox (E:=E) (n:=n) (m:=m) (by omega);simp only [Ab8] at hc ⊢
  split at hc
  ·split at hc
   ·exact hc
   ·split at hc
    ·exact At5 ih _ hc
    ·cases hc
  ·split at hc
   ·cases hc
   ·split at hc
    ·cases hc
    ·split at hc
     ·rename_i hl;rw [if_pos hl];cases hr:Aae E f (E.vars f++Ac3 E f 0 ds.length) (Ab8 E n) n _ (norm (E.vars f++Ac3 E f 0 ds.length) (Adj E f 0 ds)) with
      | none=>rw [hr] at hc;cases hc
      | some q=>
       rw [hr] at hc;rw [Aew ih (by omega) hr];exact hc
     ·cases hc
def Ret (E:Env) (f:Nat) (ds:List D) (r:D) (outs:List D):Prop:=∃ n,∀ m,n<=m->Ab8 E m f ds=some (r,outs)
theorem Ret.of {E:Env} {n f:Nat} {ds:List D} {r:D} {outs:List D} (h:Ab8 E n f ds=some (r,outs)):Ret E f ds r outs:=⟨n,fun _ hm=>Aox hm f ds _ h⟩
end Go.Own
