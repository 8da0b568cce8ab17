/- tambourref01.Same: are two rows of strings alike. -/
import Derived.Test.YteamkpmkchmhnaaDoorHeads
namespace Go.Proofs.YteamkpmkchmhnaaDoor
open Go.RowKit Go.Maps Go.WideMaps

theorem take_eq_succ {ss tt : List BA} {k : Nat} (h : ss.take k = tt.take k) (h1 : k < ss.length) (h2 : k < tt.length) : ss.take (k + 1) = tt.take (k + 1) ↔ ss[k] = tt[k] := by
  rw [List.take_succ_eq_append_getElem h1, List.take_succ_eq_append_getElem h2, h, List.append_cancel_left_eq]
  exact ⟨fun e => (List.cons.inj e).1, fun e => by rw [e]⟩

set_option maxHeartbeats 400000 in
theorem same_any (a : Option Addr) (c n : Nat) (ss : List BA) (b : Option Addr) (d m : Nat) (tt : List BA) (w : World) (hn : ss.length = n) (hm : n ≤ 1000000000) (hc : RdS w a ss) (hn2 : tt.length = m) (hm2 : m ≤ 1000000000) (hd : RdS w b tt) :
    Calls Tryd.prog 8 #[.slice a n c, .slice b m d] w fun e w' => (∃ r : Bool, e = .returned (.bool r) ∧ (r = true ↔ ss = tt)) ∧ Kept (fun _ => False) w w' := by
  have HN := Lib.hid hn
  have HC := Lib.hid hc
  have HM := Lib.hid hn2
  have HD := Lib.hid hd
  clear hn hc hn2 hd
  go_enter Tryd.func8, Tryd.ntmps8
  by_cases hnm : n = m
  · subst hnm
    go_wp2
    go_loopw [5] (fun i wr => ∃ k : Nat, k ≤ n ∧ i = .int .i64 k ∧ ss.take k = tt.take k ∧ Kept (fun _ => False) w wr) (fun i _ => n - (intOf i).toNat)
    case atStart => exact ⟨0, Nat.zero_le _, rfl, rfl, Kept.refl _ _⟩
    case round =>
      obtain ⟨k, hk, rfl, hp, hkk⟩ := hrel
      by_cases hlt : k < n
      · obtain ⟨b1, off1, rfl, hcell1⟩ := HC.out k (by rw [HN.out]; exact hlt)
        obtain ⟨b2, off2, rfl, hcell2⟩ := HD.out k (by rw [HM.out]; exact hlt)
        have hc1 := hkk.at hcell1 (fun h => h)
        have hc2 := hkk.at hcell2 (fun h => h)
        have hst := take_eq_succ hp (by rw [HN.out]; exact hlt) (by rw [HM.out]; exact hlt)
        clear hcell1 hcell2
        generalize ss[k]'(by rw [HN.out]; exact hlt) = x at hc1 hst
        generalize tt[k]'(by rw [HM.out]; exact hlt) = y at hc2 hst
        have HST := Lib.hid hst
        have HP := Lib.hid hp
        have HK := Lib.hid hkk
        clear hst hp hkk
        go_wp2
        by_cases e : x = y
        · have hb : (x.toList == y.toList) = true := by rw [eqB]; simp [e]
          have HE := Lib.hid e
          clear e
          go_region
          all_goals go_wp2
          all_goals go_roundw
          case rel => exact ⟨k + 1, by omega, by go_num, HST.out.2 HE.out, HK.out.drew⟩
          case measure => simp [intOf]; omega
        · have hb : (x.toList == y.toList) = false := by rw [eqB]; simp [e]
          have HE := Lib.hid e
          clear e
          go_region
          all_goals go_wp2
          go_ret
          refine ⟨⟨false, rfl, ?_⟩, HK.out.drew⟩
          refine ⟨fun h => by simp at h, fun h => ?_⟩
          exact absurd (HST.out.1 (by rw [h])) HE.out
      · obtain rfl : k = n := by omega
        have HK := Lib.hid hkk
        have HP := Lib.hid hp
        clear hkk hp
        go_wp2
        go_ret
        refine ⟨⟨true, rfl, ?_⟩, HK.out⟩
        refine ⟨fun _ => ?_, fun _ => rfl⟩
        have := HP.out
        rwa [List.take_of_length_le (by rw [HN.out]; exact Nat.le_refl _), List.take_of_length_le (by rw [HM.out]; exact Nat.le_refl _)] at this
  · go_wp2
    go_ret
    refine ⟨⟨false, rfl, ?_⟩, Kept.refl _ _⟩
    refine ⟨fun h => by simp at h, fun h => ?_⟩
    exact absurd (by rw [← HN.out, ← HM.out, h]) hnm
end Go.Proofs.YteamkpmkchmhnaaDoor
