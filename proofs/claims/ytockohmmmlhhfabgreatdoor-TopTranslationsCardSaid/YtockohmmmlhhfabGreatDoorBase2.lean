/- What it asks of this program. No conditions. -/
import Derived.Test.YtockohmmmlhhfabGreatDoorProg
import Derived.Lib.Walk
import Derived.WalkKit
import Derived.Laws.BitsAllLaws
import Derived.Laws.BitsLemmas
import Derived.Test.YtockohmmmlhhfabGreatDoorBase1
import Derived.Test.YtockohmmmlhhfabGreatDoorTopTranslationsLaw3
import Derived.Test.YtockohmmmlhhfabGreatDoorOwn32
import Derived.Test.YtockohmmmlhhfabGreatDoorTopTranslationsLaw5
import Derived.Test.YtockohmmmlhhfabGreatDoorOwn20
import Derived.Test.YtockohmmmlhhfabGreatDoorOwn31
set_option linter.all false

namespace Go.Own.Zer
open Go.Proofs Go.Lib Go.RowKit
set_option maxHeartbeats 2000000 in
set_option maxRecDepth 100000 in
theorem zero (w:World):Calls Tryz.prog 99 #[.int .u32 0] w fun e w'=>e=.returned (.int .i64 32)/\w'=w:=by
 go_enter Tryz.func99,Tryz.ntmps99
 go_wp2
 all_goals go_ret
 all_goals exact ⟨rfl,rfl⟩
set_option maxHeartbeats 2000000 in
set_option maxRecDepth 100000 in
theorem some_ (n:Int) (h0:0<n) (h1:n<4294967296) (k:Nat) (hk:k<32) (w:World)
  (hcell:w.cell? ⟨0,(bits .and .u32 n (-n % 4294967296)*125613361 % 4294967296 / 134217728).toNat,none⟩=some (.int .u8 (k:Int))) :
  Calls Tryz.prog 99 #[.int .u32 n] w fun e w'=>e=.returned (.int .i64 (k:Int))/\w'=w:=by
 have hz:(n == 0)=false:=by simp;omega
 go_enter Tryz.func99,Tryz.ntmps99
 go_wp2
 all_goals go_ret
 all_goals exact ⟨rfl,rfl⟩
end Go.Own.Zer

namespace Go.Own
open Go.Proofs
set_option maxRecDepth 100000
theorem mixed:Tryz.prog.follows .mixedOrders=true:=by kernel_rfl
theorem Bdn:Ar9 env:=by
 intro f p ds r outs hp h;have hp:Ay1 f=some p:=hp;unfold Ay1 at hp
 split at hp
 ·cases hp;cases h
 ·cases hp;cases h
 ·cases hp;obtain ⟨z,hz⟩:=Clo76.ok;exact Alc (E:=env) (by decide) (enters_of Tryz.func76 (by kernel_rfl) rfl) hz h
 ·cases hp;obtain ⟨z,hz⟩:=Clo90.ok;exact Alc (E:=env) (by decide) (enters_of Tryz.func90 (by kernel_rfl) rfl) hz h
 ·cases hp;obtain ⟨z,hz⟩:=Clo95.ok;exact Alc (E:=env) (by decide) (enters_of Tryz.func95 (by kernel_rfl) rfl) hz h
 ·cases hp;exact Axi (E:=env) (g:=0) (by decide) (enters_of Tryz.func99 (by kernel_rfl) rfl) Zer.zero Zer.some_ (fun M h=>h) h
 ·cases hp;exact Bat (E:=env) (by decide) (by decide) (fun a b w=>by show Sem.run Tryz.prog _ w=_;rw [run_callFunc_extern Tryz.func154 (by kernel_rfl) (by kernel_rfl) (by kernel_rfl) (e:=Extern.BytealgCompare.compare) (by kernel_rfl),Lib.run_compareString];rfl) h
 ·cases hp
theorem Bc9:Ar7 env:=by
 intro call hc f q ds r outs hq h;have hq:Axj f=some q:=hq;unfold Axj at hq
 split at hq
 ·cases hq;exact Vio.fnok hc h
 ·cases hq;exact Vio.fnokVis hc h
 ·cases hq
theorem Bc7:∀ f,Tryz.prog.funcs.size<=f->Ayg f=[]:=by
 have hs:Tryz.prog.funcs.size=182:=by kernel_rfl
 have hu:Api.under 182=true:=by kernel_rfl
 intro f hf;rw [hs] at hf;unfold Ayg;cases h:Api.find f with
 | none=>rfl
 | some v=>have:=KT.find_under hu h;omega
theorem Axf:envB env=true:=by kernel_rfl
theorem envOK:EnvOK env:=Bar mixed Bdn Bc9 Axf Bc7
end Go.Own
