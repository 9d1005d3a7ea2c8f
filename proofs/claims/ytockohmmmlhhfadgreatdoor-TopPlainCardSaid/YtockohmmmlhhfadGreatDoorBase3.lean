/- What it asks of this program. No conditions. -/
import Derived.Test.YtockohmmmlhhfadGreatDoorProg
import Derived.Lib.Walk
import Derived.WalkKit
import Derived.Laws.BitsAllLaws
import Derived.Laws.BitsLemmas
import Derived.Test.YtockohmmmlhhfadGreatDoorOwn25
set_option linter.all false

namespace Go.Own.Zer
open Go.Proofs Go.Lib Go.RowKit
set_option maxHeartbeats 2000000 in
set_option maxRecDepth 100000 in
theorem zero (w:World):Calls Tryz.prog 57 #[.int .u32 0] w fun e w'=>e=.returned (.int .i64 32)/\w'=w:=by
 go_enter Tryz.func57,Tryz.ntmps57
 go_wp2
 all_goals go_ret
 all_goals exact ⟨rfl,rfl⟩
set_option maxHeartbeats 2000000 in
set_option maxRecDepth 100000 in
theorem some_ (n:Int) (h0:0<n) (h1:n<4294967296) (k:Nat) (hk:k<32) (w:World)
  (hcell:w.cell? ⟨0,(bits .and .u32 n (-n % 4294967296)*125613361 % 4294967296 / 134217728).toNat,none⟩=some (.int .u8 (k:Int))) :
  Calls Tryz.prog 57 #[.int .u32 n] w fun e w'=>e=.returned (.int .i64 (k:Int))/\w'=w:=by
 have hz:(n == 0)=false:=by simp;omega
 go_enter Tryz.func57,Tryz.ntmps57
 go_wp2
 all_goals go_ret
 all_goals exact ⟨rfl,rfl⟩
end Go.Own.Zer
