/- What it asks of this program. No conditions. -/
import Derived.Test.YtmiedlcblpiemaaDoorProg
import Derived.Lib.Walk
import Derived.WalkKit
import Derived.Laws.BitsAllLaws
import Derived.Laws.BitsLemmas
import Derived.Test.YtmiedlcblpiemaaDoorBase1
import Derived.Test.YtmiedlcblpiemaaDoorBasisSoundLaw3
import Derived.Test.YtmiedlcblpiemaaDoorBasisSoundLaw5
import Derived.Test.YtmiedlcblpiemaaDoorBasisSoundLaw9
import Derived.Test.YtmiedlcblpiemaaDoorOwn21
import Derived.Test.YtmiedlcblpiemaaDoorOwn34
set_option linter.all false

namespace Go.Own.Zer
open Go.Proofs Go.Lib Go.RowKit
set_option maxHeartbeats 2000000 in
set_option maxRecDepth 100000 in
theorem zero (w:World):Calls Tryd.prog 73 #[.int .u32 0] w fun e w'=>e=.returned (.int .i64 32)/\w'=w:=by
 go_enter Tryd.func73,Tryd.ntmps73
 go_wp2
 all_goals go_ret
 all_goals exact ⟨rfl,rfl⟩
set_option maxHeartbeats 2000000 in
set_option maxRecDepth 100000 in
theorem some_ (n:Int) (h0:0<n) (h1:n<4294967296) (k:Nat) (hk:k<32) (w:World)
  (hcell:w.cell? ⟨0,(bits .and .u32 n (-n % 4294967296)*125613361 % 4294967296 / 134217728).toNat,none⟩=some (.int .u8 (k:Int))) :
  Calls Tryd.prog 73 #[.int .u32 n] w fun e w'=>e=.returned (.int .i64 (k:Int))/\w'=w:=by
 have hz:(n == 0)=false:=by simp;omega
 go_enter Tryd.func73,Tryd.ntmps73
 go_wp2
 all_goals go_ret
 all_goals exact ⟨rfl,rfl⟩
end Go.Own.Zer

namespace Go.Own
open Go.Proofs
set_option maxRecDepth 100000
theorem mixed:Tryd.prog.follows .mixedOrders=true:=by kernel_rfl
theorem Bfl:Ase env:=by
 intro f p ds r outs hp h;have hp:Azp f=some p:=hp;unfold Azp at hp
 split at hp
 ·cases hp;obtain ⟨z,hz⟩:=Clo14.ok;exact Aqw (E:=env) (by decide) (enters_of Tryd.func14 (by kernel_rfl) rfl) hz h
 ·cases hp;cases h
 ·cases hp;cases h
 ·cases hp;obtain ⟨z,hz⟩:=Clo69.ok;exact Aqw (E:=env) (by decide) (enters_of Tryd.func69 (by kernel_rfl) rfl) hz h
 ·cases hp;exact Az5 (E:=env) (g:=0) (by decide) (enters_of Tryd.func73 (by kernel_rfl) rfl) Zer.zero Zer.some_ (fun M h=>h) h
 ·cases hp
theorem Bep:Asb env:=by
 intro call hc f q ds r outs hq h;have hq:Az8 f=some q:=hq;unfold Az8 at hq
 split at hq
 ·cases hq;exact Hol.fnok hc h
 ·cases hq;exact Blk.fnok hc h
 ·cases hq
theorem Bem:∀ f,Tryd.prog.funcs.size<=f->Ba2 f=[]:=by
 have hs:Tryd.prog.funcs.size=136:=by kernel_rfl
 have hu:Aqc.under 136=true:=by kernel_rfl
 intro f hf;rw [hs] at hf;unfold Ba2;cases h:Aqc.find f with
 | none=>rfl
 | some v=>have:=KT.find_under hu h;omega
theorem Ayz:envB env=true:=by kernel_rfl
theorem envOK:EnvOK env:=Bcu mixed Bfl Bep Ayz Bem
end Go.Own
