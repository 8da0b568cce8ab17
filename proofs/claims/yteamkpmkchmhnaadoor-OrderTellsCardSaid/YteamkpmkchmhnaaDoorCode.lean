/- tambourlaw01.Code: an error's number. -/
import Derived.Test.YteamkpmkchmhnaaDoorIs
import Derived.Test.YteamkpmkchmhnaaDoorLinMem
namespace Go.Proofs.YteamkpmkchmhnaaDoor
open Go.RowKit

/-- The listed variable's cell. -/
def EType (w : World) : Prop := w.cell? ⟨0, 0, none⟩ = some (.iface 113 (.agg #[.pointer (some ⟨1, 32, none⟩)]))

theorem as_any (n : Int) (g : Nat) (old : Value) (w : World) (hg : EType w) (ht : w.cell? ⟨g, 0, none⟩ = some old) (hf : w.frozen? ⟨g, 0, none⟩ = false) :
    Calls Tryd.prog 24 #[.iface 48 (.int .i64 n), .iface 58 (.pointer (some ⟨g, 0, none⟩))] w fun e w' => e = .returned (.bool true) ∧ w'.cell? ⟨g, 0, none⟩ = some (.int .i64 n) ∧ Kept (fun k => k = g) w w' := by
  refine (as_hit n ⟨g, 0, none⟩ old w hg ht hf).mono ?_
  rintro e w' ⟨rfl, rfl⟩
  have hk := ((((Kept.refl (fun _ => False) w).alloc (.cells #[.pointer (some ⟨g, 0, none⟩)] 58)).alloc (.cells #[.pointer (some ⟨1, 58, none⟩), .pointer (some ⟨w.heap.size, 0, none⟩), .int .u64 150] 86)).alloc (.cells #[.pointer (some ⟨1, 58, none⟩), .pointer (some ⟨w.heap.size, 0, none⟩), .int .u64 150] 86)).alloc (.cells #[.int .i64 n] 48)
  exact ⟨rfl, World.cell?_setCell_same _ _ _ (hk.at ht (fun h => h)), (hk.mono (fun _ _ h => h.elim)).setCell _ _ (.inr rfl)⟩

set_option maxRecDepth 100000 in
set_option maxHeartbeats 1000000 in
theorem code_any (c : Nat) (w : World) (hg : EType w) :
    Calls Tryd.prog 9 #[errV c] w fun e w' => e = .returned (.int .i64 (c : Nat)) ∧ Below w.heap.size w w' := by
  by_cases h0 : c = 0
  · subst h0
    have e0 : errV 0 = .nilIface := rfl
    rw [e0]
    go_enter Tryd.func9, Tryd.ntmps9
    go_wp2_with fail
    go_ret
    exact ⟨rfl, Below.refl _ _⟩
  · have e0 : errV c = .iface 48 (.int .i64 (c : Nat)) := by unfold errV; rw [if_neg h0]
    rw [e0]
    have HG := Lib.hid hg
    clear hg e0
    go_enter Tryd.func9, Tryd.ntmps9
    go_wp2_with fail
    refine (as_any (c : Nat) w.heap.size (.int .i64 0) _ (((Kept.refl (fun _ => False) w).alloc _).at HG.out (fun h => h)) (by go_simp) (by go_simp)).mono ?_
    rintro e w2 ⟨rfl, hc, hk⟩
    have HB := Lib.hid ((((Kept.refl (fun k => k = w.heap.size) w).alloc _).trans hk).below (Nat.le_refl _) (fun k h e => by omega))
    clear hk
    go_wp2_with fail
    refine (is_hit (c : Nat) w2).mono ?_
    rintro e w3 ⟨rfl, rfl⟩
    go_wp2_with fail
    go_ret
    exact ⟨rfl, HB.out⟩
end Go.Proofs.YteamkpmkchmhnaaDoor
