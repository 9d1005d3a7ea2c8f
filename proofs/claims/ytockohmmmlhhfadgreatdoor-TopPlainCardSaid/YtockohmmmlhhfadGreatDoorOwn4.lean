/- An interpreter of function bodies, sound. No conditions. -/
import Derived.Test.YtockohmmmlhhfadGreatDoorOwn3
set_option linter.all false
namespace Go.Own
open D
abbrev Aan:=Nat->List D->Option (D×List D)
def Adn (c c':Aan):Prop:=∀ f ds x,c f ds=some x->c' f ds=some x
theorem Bds {E:Env} {c c':Aan} (h:Adn c c') {F:Fr} {f:Nat} {x:Operand} {bs:List Arg} {r:D×Fr} (hc:callC E c F f x bs=some r):callC E c' F f x bs=some r:=by
 unfold callC at hc ⊢
 split at hc
 ·cases hc
 ·split at hc
  ·cases hc
  ·split at hc
   ·cases hc
   ·split at hc
    ·cases hc
    ·rename_i h4 _ _ h3 _ h2 _ _ _ h1
     split at hc
     ·cases hc
     ·rename_i r outs hcl;simp only [h _ _ _ hcl];exact hc
theorem Alo {E:Env} {c c':Aan} (h:Adn c c') {f:Nat} {V:List Nat} {F F':Fr} {o:Oper} (hc:opC E f V c F o=some F'):opC E f V c' F o=some F':=by
 unfold opC at hc ⊢;cases hq:o.op with
 | call cl=>
  rw [hq] at hc;simp only at hc ⊢;cases hcl:cl.callee with
  | value x=>
   rw [hcl] at hc;simp only at hc ⊢;cases ho:opd E F x with
   | none=>simp [ho] at hc
   | some d=>
    cases d with
    | fn g caps=>
     simp only [ho,Option.bind_eq_some_iff] at hc ⊢;obtain ⟨r,hr,hc⟩:=hc;exact ⟨r,Bds h hr,hc⟩
    | _=>simp [ho] at hc
  | builtin b=>rw [hcl] at hc;cases b<;>exact hc
  | invoke a b=>rw [hcl] at hc;exact hc
 | makeFunc fn _ _=>rw [hq] at hc;cases fn<;>exact hc
 | makeMap _ r=>rw [hq] at hc;cases r<;>exact hc
 | slice _ _ _ _ mx=>rw [hq] at hc;cases mx<;>exact hc
 | extract x _=>rw [hq] at hc;cases x<;>exact hc
 | move x=>rw [hq] at hc;cases x<;>exact hc
 | _=>rw [hq] at hc;exact hc
theorem Bhn {E:Env} {c c':Aan} (h:Adn c c') {f:Nat} {F:Fr} {o:Oper} {d:D} (hc:valC E f c F o=some d):valC E f c' F o=some d:=by
 unfold valC at hc ⊢;cases hq:o.op with
 | call cl=>
  rw [hq] at hc;simp only at hc ⊢;cases hcl:cl.callee with
  | value x=>
   rw [hcl] at hc;simp only at hc ⊢;cases ho:opd E F x with
   | none=>simp [ho] at hc
   | some d=>
    cases d with
    | fn g caps=>
     simp only [ho] at hc ⊢
     split at hc
     ·rename_i hs;rw [if_pos hs]
      split at hc
      ·rename_i ds hp;cases hcd:c g ds with
       | none=>simp [hcd] at hc
       | some x=>
        rw [hcd] at hc;simp only [h _ _ _ hcd];exact hc
      ·cases hc
     ·cases hc
    | _=>simp [ho] at hc
  | builtin b=>rw [hcl] at hc;cases b<;>exact hc
  | invoke a b=>rw [hcl] at hc;exact hc
 | makeFunc fn _ _=>rw [hq] at hc;cases fn<;>exact hc
 | makeMap _ r=>rw [hq] at hc;cases r<;>exact hc
 | slice _ _ _ _ mx=>rw [hq] at hc;cases mx<;>exact hc
 | extract x _=>rw [hq] at hc;cases x<;>exact hc
 | move x=>rw [hq] at hc;cases x<;>exact hc
 | _=>rw [hq] at hc;exact hc
theorem Ajn {E:Env} {c c':Aan} (h:Adn c c') {f:Nat} {ops:Array Oper} {F:Fr} {o:Oper} {d:D} (hc:Aal E f c ops F o=some d):Aal E f c' ops F o=some d:=by
 unfold Aal at hc ⊢
 split at hc
 ·exact Bhn h hc
 ·exact hc
 ·cases hc
theorem Be2 {E:Env} {c:Aan} {f:Nat} {V:List Nat} {F:Fr} {o:Oper} {r:List (Nat×D)×List (Nat×Path)} (h:effC E f V c F o=some r):(∀ cl x,o.op=.call cl->cl.callee≠.value x)∨∃ cl g u rest,o.op=.call cl/\cl.callee=.value (.func g)/\cl.args.toList=.tmp u::rest/\E.mode g 0=.inout:=by
 unfold effC at h
 split at h
 ·rename_i r hr;left;intro cl x hq _;unfold Ad5 at hr;rw [hq] at hr;cases hr
 split at h
 ·rename_i r hr;left;intro cl x hq _;unfold Ajy at hr;rw [hq] at hr;cases hr
 split at h
 case h_2=>cases h
 rename_i z F' hz _;unfold Ade at hz
 split at hz
 case h_2=>rename_i hop;left;intro cl x hq;rw [hop] at hq;cases hq
 case h_3=>rename_i hop;left;intro cl x hq;rw [hop] at hq;cases hq
 case h_4=>rename_i hop;left;intro cl x hq;rw [hop] at hq;cases hq
 case h_5=>cases hz
 rename_i cl hop
 split at hz
 case h_1=>rename_i hcl;left;intro cl' x hq hc;rw [hop] at hq;cases hq;rw [hcl] at hc;cases hc
 case h_3=>cases hz
 rename_i g hcl;unfold Aka at hz
 split at hz
 case h_2=>cases hz
 rename_i u rest t hargs hdst
 split at hz
 case h_2=>cases hz
 split at hz
 case isFalse=>cases hz
 rename_i hc;simp only [Bool.and_eq_true] at hc;exact .inr ⟨cl,g,u,rest,hop,hcl,hargs,by simpa using hc.1.1⟩
theorem Bd4 {E:Env} {c c':Aan} {f:Nat} {F:Fr} {o:Oper} (h:∀ cl x,o.op=.call cl->cl.callee≠.value x):valC E f c F o=valC E f c' F o:=by
 unfold valC;cases hq:o.op with
 | call cl=>
  simp only;cases hcl:cl.callee with
  | value x=>exact absurd hcl (h cl x hq)
  | builtin b=>cases b<;>rfl
  | invoke a b=>rfl
 | makeFunc fn _ _=>cases fn<;>rfl
 | makeMap _ r=>cases r<;>rfl
 | slice _ _ _ _ mx=>cases mx<;>rfl
 | extract x _=>cases x<;>rfl
 | move x=>cases x<;>rfl
 | _=>rfl
theorem Bfu {E:Env} {c c':Aan} (hl:Adn c c') {f:Nat} {V:List Nat} {F:Fr} {o:Oper} {r:List (Nat×D)×List (Nat×Path)} (h:effC E f V c F o=some r):effC E f V c' F o=some r:=by
 unfold effC at h ⊢
 split at h
 ·exact h
 split at h
 ·exact h
 split at h
 ·rename_i z F' hz ho;simp only [hz,Alo hl ho];exact h
 ·cases h
theorem Ayv {E:Env} {c c':Aan} (hl:Adn c c') {f:Nat} {V:List Nat} {ops:Array Oper} {blk:Blk} {i:Nat} {F:Fr} {o:Oper} {b:Blk×Fr} (h:effS E f V c ops blk i F o=some b):effS E f V c' ops blk i F o=some b:=by
 unfold effS at h ⊢
 split at h
 ·exact h
 split at h
 ·split at h
  ·rename_i r hr;simp only [Bfu hl hr];exact h
  ·cases h
 ·cases h
theorem Arz {E:Env} {f:Nat} {ops:Array Oper} {blk:Blk} {i:Nat} {F:Fr} {o:Oper} {d:D} (h:Aj2 E f ops blk i F o=some d):(∃ t u,o.op=.load t u)∨∃ t u j,o.op=.fieldAddr t u j:=by
 unfold Aj2 at h
 split at h
 ·rename_i hl;unfold Ap7 at hl
  split at hl
  ·rename_i ho _;exact .inl ⟨_,_,ho⟩
  ·rename_i ho _;exact .inr ⟨_,_,_,ho⟩
  ·cases hl
 ·cases h
theorem Azt {E:Env} {c:Aan} {f f':Nat} {V:List Nat} {ops:Array Oper} {blk:Blk} {i:Nat} {F A:Fr} {o:Oper} {r:List (Nat×D)×List (Nat×Path)} (h:effC E f V c F o=some r):Aj2 E f' ops blk i A o=none:=by
 cases hl:Aj2 E f' ops blk i A o with
 | none=>rfl
 | some d=>
  rcases Arz hl with ⟨t,u,ho⟩ | ⟨t,u,j,ho⟩
  ·unfold effC Ad5 Ajy Ade at h;simp [ho] at h
  ·unfold effC Ad5 Ajy Ade at h;simp [ho] at h
theorem Aof {E:Env} {c:Aan} (c':Aan) {f:Nat} {V:List Nat} {ops:Array Oper} {blk:Blk} {i:Nat} {F A:Fr} {o:Oper} {b:Blk×Fr} (h:effS E f V c ops blk i F o=some b) (hp:Aal E f c ops A o=none):Aal E f c' ops A o=none:=by
 have no:(∀ cl x,o.op=.call cl->cl.callee≠.value x)->Aal E f c' ops A o=none:=fun hn=>by
  unfold Aal at hp ⊢;rw [Bd4 hn (c':=c)];exact hp
 unfold effS at h
 split at h
 ·rename_i d hd;rcases Arz hd with ⟨t,u,ho⟩ | ⟨t,u,j,ho⟩
  ·exact no fun cl x hc=>by rw [ho] at hc;cases hc
  ·exact no fun cl x hc=>by rw [ho] at hc;cases hc
 split at h
 ·split at h
  ·rename_i r hr;rcases Be2 hr with hn | ⟨cl,g,u,rest,h1,h2,h3,h4⟩
   ·exact no hn
   ·have hv:∀ c,valC E f c A o=none:=fun c=>by
     have hs:Ajx E g (argsOf cl.args.toList 0).length=false:=by
      unfold Ajx;rw [List.all_eq_false];refine ⟨0,by rw [List.mem_range,h3];simp [argsOf],by rw [h4];decide⟩
     unfold valC;simp only [h1,h2,opd,List.length_nil,hs,Bool.false_eq_true,if_false]
    unfold Aal at hp ⊢;rw [hv] at hp ⊢;exact hp
  ·cases h
 ·cases h
theorem Apb {E:Env} {c c':Aan} (h:Adn c c') {f:Nat} {V:List Nat} {ops:Array Oper}:∀ {l:List Nat} {F F':Fr},opsC E f V c ops l F=some F'->opsC E f V c' ops l F=some F'
 | [],_,_,hc=>hc
 | i::l,F,F',hc=>by
  simp only [opsC] at hc ⊢
  split at hc
  ·exact Apb h hc
  ·split at hc
   ·rename_i o _ _ _
    split at hc
    ·rename_i F1 h1;simp only [Alo h h1];exact Apb h hc
    ·cases hc
   ·exact Apb h hc
   ·cases hc
theorem Aj8 {E:Env} {c c':Aan} (h:Adn c c') {f:Nat} {V:List Nat} {ops:Array Oper}:∀ {l:List Nat} {blk:Blk} {F F':Fr},Ac3 E f V c ops l blk F=some F'->Ac3 E f V c' ops l blk F=some F'
 | [],_,_,_,hc=>hc
 | i::l,blk,F,F',hc=>by
  simp only [Ac3] at hc ⊢
  split at hc
  ·cases hc
  ·split at hc
   ·rename_i ha;rw [if_pos ha]
    split at hc
    ·split at hc
     ·rename_i F1 h1;simp only [Alo h h1];exact Aj8 h hc
     ·cases hc
    ·exact Aj8 h hc
    ·cases hc
   ·rename_i ha;rw [if_neg ha]
    split at hc
    ·rename_i d hp;simp only [Ajn h hp]
     split at hc
     ·rename_i hs;rw [if_pos hs];exact Aj8 h hc
     ·cases hc
    ·rename_i hp
     split at hc
     ·rename_i b hb;rw [Aof c' hb hp];simp only [Ayv h hb];exact Aj8 h hc
     ·cases hc
theorem Bhg {E:Env} {c c':Aan} (h:Adn c c') {f:Nat} {V:List Nat} {ops:Array Oper} {draw:Bool} {F F':Fr} (hc:regC E f V c ops draw F=some F'):regC E f V c' ops draw F=some F':=by
 unfold regC at hc ⊢
 split at hc
 ·rename_i hd;rw [if_pos hd]
  split at hc
  ·rename_i hb;rw [if_pos hb];simp only [Option.map_eq_some_iff] at hc ⊢;obtain ⟨F1,h1,h2⟩:=hc;exact ⟨F1,Aj8 h h1,h2⟩
  ·cases hc
 ·rename_i hd;rw [if_neg hd];simp only [Option.map_eq_some_iff] at hc ⊢;obtain ⟨F1,h1,h2⟩:=hc;exact ⟨F1,Apb h h1,h2⟩
theorem At9 {b b':Fr->Option (Ex×Fr)} (h:∀ F x,b F=some x->b' F=some x):∀ {n m:Nat} {F:Fr} {x:Ex×Fr},n<=m->iter n b F=some x->iter m b' F=some x
 | 0,_,_,_,_,hc=>by simp [iter] at hc
 | n+1,0,_,_,hm,_=>by omega
 | n+1,m+1,F,x,hm,hc=>by
  simp only [iter] at hc ⊢;cases hb:b F with
  | none=>simp [hb] at hc
  | some q=>
   rw [hb] at hc;rw [h _ _ hb];obtain ⟨e,F1⟩:=q;cases e with
   | normal=>exact At9 h (by omega) hc
   | exit id=>exact hc
   | ret=>exact hc
theorem Af6 {E:Env} {c c':Aan} (h:Adn c c') {f:Nat} {V:List Nat} {n m:Nat} (hn:n<=m):∀ {cd:Code} {F:Fr} {x:Ex×Fr},Aah E f V c n cd F=some x->Aah E f V c' m cd F=some x
 | .skip,_,_,hc=>hc
 | .exit _,_,_,hc=>hc
 | .ret,_,_,hc=>hc
 | .region _ ops draw,F,x,hc=>by
  simp only [Aah,Option.map_eq_some_iff] at hc ⊢;obtain ⟨F1,h1,h2⟩:=hc;exact ⟨F1,Bhg h h1,h2⟩
 | .seq a b,F,x,hc=>by
  simp only [Aah] at hc ⊢;cases hr:Aah E f V c n a F with
  | none=>simp [hr] at hc
  | some q=>
   rw [hr] at hc;rw [Af6 h hn hr];obtain ⟨e,F1⟩:=q;cases e with
   | normal=>exact Af6 h hn hc
   | exit id=>exact hc
   | ret=>exact hc
 | .cond y a b,F,x,hc=>by
  simp only [Aah] at hc ⊢
  split at hc
  ·split at hc
   ·rename_i ht;rw [if_pos ht];exact Af6 h hn hc
   ·rename_i ht;rw [if_neg ht];exact Af6 h hn hc
  ·cases hc
 | .block id b,F,x,hc=>by
  simp only [Aah] at hc ⊢;cases hr:Aah E f V c n b F with
  | none=>simp [hr] at hc
  | some q=>
   rw [hr] at hc;rw [Af6 h hn hr];exact hc
 | .loop b,F,x,hc=>by
  simp only [Aah] at hc ⊢;exact At9 (fun F y hy=>Af6 h hn hy) hn hc
 | .rangeFunc ..,_,_,hc=>by simp [Aah] at hc
 | .scope _,_,_,hc=>by simp [Aah] at hc
 | .label _,_,_,hc=>by simp [Aah] at hc
 | .goto _,_,_,hc=>by simp [Aah] at hc
 | .refuse _,_,_,hc=>by simp [Aah] at hc
theorem Aux {c c':Aan} (h:Adn c c'):∀ (q:Ask) {x:D×List D},runAsk c q=some x->runAsk c' q=some x
 | .ret _,_,hc=>hc
 | .call f ds k,x,hc=>by
  simp only [runAsk] at hc ⊢
  split at hc
  ·rename_i r hr;rw [h f ds r hr];exact Aux h (k r) hc
  ·cases hc
theorem Aqf {E:Env}:∀ {n m:Nat},n<=m->Adn (Abb E n) (Abb E m)
 | 0,_,_=>fun f ds x hc=>by simp [Abb] at hc
 | n+1,0,hm=>by omega
 | n+1,m+1,hm=>fun f ds x hc=>by
  have ih:=Aqf (E:=E) (n:=n) (m:=m) (by omega);simp only [Abb] at hc ⊢
  split at hc
  ·split at hc
   ·exact hc
   ·split at hc
    ·exact Aux ih _ hc
    ·cases hc
  ·split at hc
   ·cases hc
   ·split at hc
    ·cases hc
    ·split at hc
     ·rename_i hl;rw [if_pos hl];cases hr:Aah E f (E.vars f++Ac4 E f 0 ds.length) (Abb E n) n _ (norm (E.vars f++Ac4 E f 0 ds.length) (Adp E f 0 ds)) with
      | none=>rw [hr] at hc;cases hc
      | some q=>
       rw [hr] at hc;rw [Af6 ih (by omega) hr];exact hc
     ·cases hc
def Ret (E:Env) (f:Nat) (ds:List D) (r:D) (outs:List D):Prop:=∃ n,∀ m,n<=m->Abb E m f ds=some (r,outs)
theorem Ret.of {E:Env} {n f:Nat} {ds:List D} {r:D} {outs:List D} (h:Abb E n f ds=some (r,outs)):Ret E f ds r outs:=⟨n,fun _ hm=>Aqf hm f ds _ h⟩
end Go.Own
