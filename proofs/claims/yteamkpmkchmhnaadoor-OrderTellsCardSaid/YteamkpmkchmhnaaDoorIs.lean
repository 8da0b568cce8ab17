/- errors.Is at two numbers of api.Errno that are one. -/
import Derived.Test.YteamkpmkchmhnaaDoorAs
import Derived.WideLaws
namespace Go.Proofs.YteamkpmkchmhnaaDoor
open Go.RowKit Go.Extern.Stop Go.Stop Go.Extern

theorem Tryd.comparableE (w : World) : (ReflectliteType.method (fun t => do Rtype.noPackHeld "Comparable" t; (fun a => Value.bool a.comparable) <$> typeInfo t) #[.agg #[.pointer (some ⟨1, 48, none⟩)]]).run Tryd.prog w = .ok (.bool true) w := by kernel_rfl

theorem Tryd.eqE (n : Int) (w : World) : (Go.binOp .eql 32 (.iface 48 (.int .i64 n)) (.iface 48 (.int .i64 n))).run Tryd.prog w = .ok (.bool (decide (n = n))) w := by kernel_rfl

set_option maxRecDepth 100000 in
set_option maxHeartbeats 2000000 in
theorem is_hit (n : Int) (w : World) :
    Calls Tryd.prog 25 #[.iface 48 (.int .i64 n), .iface 48 (.int .i64 n)] w fun ev w' => ev = .returned (.bool true) ∧ w' = w := by
  have h44 := @run_callFunc_extern Tryd.prog 44 _ ReflectliteType.typeOf Tryd.func44 (by kernel_rfl) (by kernel_rfl) (by kernel_rfl) (by kernel_rfl)
  have h102 := @run_callFunc_extern Tryd.prog 102 _ (ReflectliteType.method (fun t => do Rtype.noPackHeld "Comparable" t; pure (.bool (← typeInfo t).comparable))) Tryd.func102 (by kernel_rfl) (by kernel_rfl) (by kernel_rfl) (by kernel_rfl)
  have tO := Tryd.typeOfE
  have mC := Tryd.methodComparable
  have cE := Tryd.comparableE
  have eE := Tryd.eqE n
  go_enter Tryd.func25, Tryd.ntmps25
  go_wp2
  refine wp_loop_rounds 1 ?_
  rw [rounds_succ]
  go_wp2
  go_ret
  exact ⟨rfl, rfl⟩
end Go.Proofs.YteamkpmkchmhnaaDoor
