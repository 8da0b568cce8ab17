/- container/heap over '*ready' (a slice of strings): up, down, Push, Pop. -/
import Derived.Test.YteamkpmkchmhnaaDoorHeapS
namespace Go.Proofs.YteamkpmkchmhnaaDoor
open Go.RowKit

def IsH (l : List BA) : Prop := IsHeap ByteArray.empty ltB l l.length

theorem RS.drew {w : World} {r : Nat} {v : Value} {l : List BA} (h : RS w r v l) : RS w.drew r v l := ⟨h.ptr, h.own⟩

set_option maxRecDepth 100000 in
set_option maxHeartbeats 400000 in
theorem up_any (r g n c j : Nat) (l : List BA) (w : World) (h : RS w r (.slice (some ⟨g, 0, none⟩) n c) l) (hj : j < n) (hu : UpInv ByteArray.empty ltB l j n) :
    Calls Tryd.prog 38 #[.iface 52 (.pointer (some ⟨r, 0, none⟩)), .int .i64 j] w fun e w' => e = .returned (.tuple #[]) ∧
      ∃ l', RS w' r (.slice (some ⟨g, 0, none⟩) n c) l' ∧ l'.Perm l ∧ IsH l' ∧ Kept (fun k => k = g) w w' := by
  have hm := h.own.le
  have hln := Lib.hid h.own.len
  have hm' : n ≤ 9223372036854775807 := by rw [hln.out]; exact hm
  have hmL := fun n w => meth_Less0 n r w
  have hmS := fun n w => meth_Swap0 n r w
  go_enter Tryd.func38, Tryd.ntmps38
  go_wp2_with fail
  go_loopw [1] (fun q wr => ∃ l' k, q = .int .i64 (k : Nat) ∧ k < n ∧ l'.length = l.length ∧ RS wr r (.slice (some ⟨g, 0, none⟩) n c) l' ∧ l'.Perm l ∧ UpInv ByteArray.empty ltB l' k n ∧ Kept (fun k => k = g) w wr)
    (fun q _ => (intOf q).toNat)
  case atStart => exact ⟨l, j, rfl, hj, rfl, h, List.Perm.refl _, hu, Kept.refl _ _⟩
  case round =>
    obtain ⟨l1, k, rfl, hk, hl1, hrs, hperm, hup, hkept⟩ := hrel
    have hcx := cell_of_one hrs.ptr
    by_cases k0 : k = 0
    · subst k0
      have HQ := Lib.hid (show ∃ l', RS wr r (.slice (some ⟨g, 0, none⟩) n c) l' ∧ l'.Perm l ∧ IsH l' ∧ Kept (fun k => k = g) w wr from
        ⟨l1, hrs, hperm, by unfold IsH; rw [hl1, ← hln.out]; exact upInv_end0 _ hup, hkept⟩)
      clear hrs hperm hup hkept hl1
      go_wp2_with fail
      go_end0
      exact ⟨rfl, HQ.out⟩
    · obtain ⟨i, hi⟩ : ∃ i : Nat, i = (k - 1) / 2 := ⟨_, rfl⟩
      have hi' : ((k : Int) - 1) / 2 = (i : Int) := by omega
      have hne : ((i : Int) == (k : Int)) = false := by simp; omega
      have k1 : 1 ≤ k := by omega
      have hik : i < k := by omega
      have hkl : k < l1.length := by rw [hl1, ← hln.out]; exact hk
      have HI := Lib.hid hi
      have HR := Lib.hid hrs
      have HU := Lib.hid hup
      have HL := Lib.hid hl1
      clear hi k0 hrs hup hl1
      cases hlt : ltB (l1[k]'hkl) (l1[i]'(by omega))
      · have HQ := Lib.hid (show ∃ l', RS wr r (.slice (some ⟨g, 0, none⟩) n c) l' ∧ l'.Perm l ∧ IsH l' ∧ Kept (fun k => k = g) w wr from
          ⟨l1, HR.out, hperm, by
            unfold IsH
            rw [HL.out, ← hln.out]
            refine upInv_end _ HU.out ?_
            rw [← HI.out, getD_at _ hkl, getD_at _ (by omega)]
            exact hlt, hkept⟩)
        have HLT := Lib.hid hlt
        clear hlt hperm hkept
        go_wp2_with fail
        refine (rLess_any g n c l1 k i hkl (by omega) wr HR.out.own.len.symm HR.out.own).mono ?_
        rintro e w1 ⟨rfl, rfl⟩
        rw [HLT.out]
        go_wp2_with fail
        go_end0
        obtain ⟨l', a1, a2, a3, a4⟩ := HQ.out
        exact ⟨rfl, l', a1.drew, a2, a3, a4.drew⟩
      · have HLT := Lib.hid hlt
        have HU2 := Lib.hid (upInv_step ByteArray.empty ltB_LO HU.out (by omega) hk (by rw [HL.out, ← hln.out]; exact Nat.le_refl _) (by rw [← HI.out, getD_at _ hkl, getD_at _ (by omega)]; exact hlt))
        clear hlt
        go_wp2_with fail
        refine (rLess_any g n c l1 k i hkl (by omega) wr HR.out.own.len.symm HR.out.own).mono ?_
        rintro e w1 ⟨rfl, rfl⟩
        rw [HLT.out]
        go_wp2_with fail
        refine (rSwap_any g n c l1 i k (by omega) hkl wr.drew HR.out.own.len.symm HR.out.drew.own).mono ?_
        rintro e w2 ⟨rfl, ho2, hk2⟩
        have HR2 := Lib.hid (show RS w2 r (.slice (some ⟨g, 0, none⟩) n c) (swp l1 i k) from ⟨hk2.heap HR.out.drew.ptr (fun e => HR.out.ne (by rw [← e]; rfl)), ho2⟩)
        have HK2 := Lib.hid (hkept.drew.trans hk2)
        have HP2 := Lib.hid ((swpD_perm ByteArray.empty (l := l1) (i := i) (j := k) (by omega) hkl).trans hperm)
        clear ho2 hk2 hkept hperm
        go_wp2_with fail
        go_roundw
        case rel => exact ⟨_, i, rfl, by omega, by rw [swpD_length]; exact HL.out, HR2.out, HP2.out, by rw [HI.out]; exact HU2.out, HK2.out⟩
        case measure => simp [intOf]; omega

def SomeBool (e : Ending) : Prop := ∃ b, e = .returned (.bool b)

set_option maxRecDepth 100000 in
set_option maxHeartbeats 1600000 in
theorem down_any (r g n c : Nat) (l : List BA) (w : World) (m : Nat) (hmn : m + 1 = n) (hn8 : n ≤ 8000000000000) (h : RS w r (.slice (some ⟨g, 0, none⟩) n c) l) (hu : DownInv ByteArray.empty ltB l 0 m) :
    Calls Tryd.prog 39 #[.iface 52 (.pointer (some ⟨r, 0, none⟩)), .int .i64 0, .int .i64 m] w fun e w' => SomeBool e ∧
      ∃ l', RS w' r (.slice (some ⟨g, 0, none⟩) n c) l' ∧ l'.Perm l ∧ IsHeap ByteArray.empty ltB l' m ∧ l'.getD m ByteArray.empty = l.getD m ByteArray.empty ∧ Kept (fun k => k = g) w w' := by
  have hln := Lib.hid h.own.len
  have hmn' := Lib.hid hmn
  have hm' : m < 8000000000000 := by omega
  clear hmn hn8
  have hmL := fun n w => meth_Less0 n r w
  have hmS := fun n w => meth_Swap0 n r w
  go_enter Tryd.func39, Tryd.ntmps39
  go_wp2_with fail
  go_loopw [7] (fun q wr => ∃ l' i, q = .int .i64 (i : Nat) ∧ i ≤ m ∧ l'.length = l.length ∧ RS wr r (.slice (some ⟨g, 0, none⟩) n c) l' ∧ l'.Perm l ∧ DownInv ByteArray.empty ltB l' i m ∧ l'.getD m ByteArray.empty = l.getD m ByteArray.empty ∧ Kept (fun k => k = g) w wr)
    (fun q _ => m - (intOf q).toNat)
  case atStart => exact ⟨l, 0, rfl, Nat.zero_le _, rfl, h, List.Perm.refl _, hu, rfl, Kept.refl _ _⟩
  case round =>
    obtain ⟨l1, i, rfl, him, hl1, hrs, hperm, hdn, hlast, hkept⟩ := hrel
    have hcx := cell_of_one hrs.ptr
    have HR := Lib.hid hrs
    have HU := Lib.hid hdn
    have HL := Lib.hid hl1
    have HA := Lib.hid hlast
    clear hrs hdn hl1 hlast
    by_cases hend : m ≤ 2 * i + 1
    · have HQ := Lib.hid (show ∃ l', RS wr r (.slice (some ⟨g, 0, none⟩) n c) l' ∧ l'.Perm l ∧ IsHeap ByteArray.empty ltB l' m ∧ l'.getD m ByteArray.empty = l.getD m ByteArray.empty ∧ Kept (fun k => k = g) w wr from
        ⟨l1, HR.out, hperm, downInv_end0 _ HU.out hend, HA.out, hkept⟩)
      clear hperm hkept
      go_wp2_with fail
      all_goals (go_ret; exact ⟨⟨_, rfl⟩, HQ.out⟩)
    · have hll : l1.length = m + 1 := by rw [HL.out, ← hln.out, hmn'.out]
      obtain ⟨j1, hj1⟩ : ∃ j1 : Nat, j1 = 2 * i + 1 := ⟨_, rfl⟩
      obtain ⟨j2, hj2⟩ : ∃ j2 : Nat, j2 = 2 * i + 2 := ⟨_, rfl⟩
      have e1 : 2 * (i : Int) + 1 = (j1 : Int) := by omega
      have e2 : (j1 : Int) + 1 = (j2 : Int) := by omega
      have b1 : j1 < m := by omega
      have b1' : i < j1 := by omega
      have b1'' : i < j2 := by omega
      have bi : i < l1.length := by omega
      have bj1 : j1 < l1.length := by omega
      have hpath : ∃ j, (j1 = j ∨ j2 = j) ∧ j < m ∧ (j - 1) / 2 = i ∧ 0 < j ∧ (∀ c, 0 < c → c < m → (c - 1) / 2 = i → ltB (l1.getD c ByteArray.empty) (l1.getD j ByteArray.empty) = false) ∧
          ((m ≤ j2 ∧ j1 = j) ∨ (j2 < m ∧ ∃ hj2 : j2 < l1.length, (ltB l1[j2] l1[j1] = false ∧ j1 = j) ∨ (ltB l1[j2] l1[j1] = true ∧ j2 = j))) := by
        by_cases h2 : j2 < m
        · have hj2' : j2 < l1.length := by omega
          cases hlt : ltB l1[j2] l1[j1]
          · refine ⟨j1, .inl rfl, b1, by omega, by omega, ?_, .inr ⟨h2, hj2', .inl ⟨hlt, rfl⟩⟩⟩
            intro c hc0 hcm hci
            have : c = j1 ∨ c = j2 := by omega
            rcases this with rfl | rfl
            · exact ltB_LO.irr _
            · rw [getD_at _ hj2', getD_at _ bj1]
              exact hlt
          · refine ⟨j2, .inr rfl, h2, by omega, by omega, ?_, .inr ⟨h2, hj2', .inr ⟨hlt, rfl⟩⟩⟩
            intro c hc0 hcm hci
            have : c = j1 ∨ c = j2 := by omega
            rcases this with rfl | rfl
            · rw [getD_at _ hj2', getD_at _ bj1]
              exact ltB_LO.asymm hlt
            · exact ltB_LO.irr _
        · refine ⟨j1, .inl rfl, b1, by omega, by omega, ?_, .inl ⟨by omega, rfl⟩⟩
          intro c hc0 hcm hci
          have : c = j1 := by omega
          subst this
          exact ltB_LO.irr _
      obtain ⟨j, _, hjm, hjp, hj0, hmin, hpath⟩ := hpath
      have HJP := Lib.hid hjp
      have HMIN := Lib.hid hmin
      have bj : j < l1.length := by omega
      have HLL := Lib.hid hll
      have hij : i < j := by omega
      clear hjp hmin hj1 hj2 hll hend
      have HRD := Lib.hid HR.out.drew
      rcases hpath with ⟨p1, rfl⟩ | ⟨p2, bj2, ⟨plt, rfl⟩ | ⟨plt, rfl⟩⟩
      · have HR1 := HR
        have HK1 := Lib.hid hkept
        clear hkept
        cases hlt : ltB (l1[j1]'bj) (l1[i]'bi)
        all_goals
          have HLT := Lib.hid hlt
          clear hlt
          go_wp2_with fail
        · refine (rLess_any g n c l1 j1 i bj bi _ HR1.out.own.len.symm HR1.out.own).mono ?_
          rintro e w1 ⟨rfl, rfl⟩
          rw [HLT.out]
          go_wp2_with fail
          all_goals
            go_ret
            refine ⟨⟨_, rfl⟩, l1, HR1.out.drew, hperm, downInv_end _ ltB_LO HU.out HMIN.out ?_, HA.out, HK1.out.drew⟩
            rw [getD_at _ bj, getD_at _ bi]
            exact HLT.out
        · have HU2 := Lib.hid (downInv_step ByteArray.empty ltB_LO HU.out HJP.out hj0 hjm (by rw [HLL.out]; omega) HMIN.out (by rw [getD_at _ bj, getD_at _ bi]; exact HLT.out))
          refine (rLess_any g n c l1 j1 i bj bi _ HR1.out.own.len.symm HR1.out.own).mono ?_
          rintro e w1 ⟨rfl, rfl⟩
          rw [HLT.out]
          go_wp2_with fail
          refine (rSwap_any g n c l1 i j1 bi bj _ HR1.out.own.len.symm HR1.out.drew.own).mono ?_
          rintro e w2 ⟨rfl, ho2, hk2⟩
          have HR2 := Lib.hid (show RS w2 r (.slice (some ⟨g, 0, none⟩) n c) (swp l1 i j1) from ⟨hk2.heap HR1.out.drew.ptr (fun e => HR1.out.ne (by rw [← e]; rfl)), ho2⟩)
          have HK2 := Lib.hid (HK1.out.drew.trans hk2)
          have HP2 := Lib.hid ((swpD_perm ByteArray.empty (l := l1) (i := i) (j := j1) bi bj).trans hperm)
          clear ho2 hk2 hperm
          go_wp2_with fail
          go_roundw
          case rel => exact ⟨_, j1, rfl, by omega, by rw [swpD_length]; exact HL.out, HR2.out, HP2.out, HU2.out, by rw [getD_swpD _ bi bj, if_neg (by omega), if_neg (by omega)]; exact HA.out, HK2.out⟩
          case measure => simp [intOf]; omega
      · have HR1 := HRD
        have HK1 := Lib.hid hkept.drew
        have HPL := Lib.hid plt
        clear hkept plt
        cases hlt : ltB (l1[j1]'bj) (l1[i]'bi)
        all_goals
          have HLT := Lib.hid hlt
          clear hlt
          go_wp2_with fail
          refine (rLess_any g n c l1 j2 j1 bj2 bj1 wr HR.out.own.len.symm HR.out.own).mono ?_
          rintro e w1 ⟨rfl, rfl⟩
          rw [HPL.out]
          go_wp2_with fail
        · refine (rLess_any g n c l1 j1 i bj bi _ HR1.out.own.len.symm HR1.out.own).mono ?_
          rintro e w1 ⟨rfl, rfl⟩
          rw [HLT.out]
          go_wp2_with fail
          all_goals
            go_ret
            refine ⟨⟨_, rfl⟩, l1, HR1.out.drew, hperm, downInv_end _ ltB_LO HU.out HMIN.out ?_, HA.out, HK1.out.drew⟩
            rw [getD_at _ bj, getD_at _ bi]
            exact HLT.out
        · have HU2 := Lib.hid (downInv_step ByteArray.empty ltB_LO HU.out HJP.out hj0 hjm (by rw [HLL.out]; omega) HMIN.out (by rw [getD_at _ bj, getD_at _ bi]; exact HLT.out))
          refine (rLess_any g n c l1 j1 i bj bi _ HR1.out.own.len.symm HR1.out.own).mono ?_
          rintro e w1 ⟨rfl, rfl⟩
          rw [HLT.out]
          go_wp2_with fail
          refine (rSwap_any g n c l1 i j1 bi bj _ HR1.out.own.len.symm HR1.out.drew.own).mono ?_
          rintro e w2 ⟨rfl, ho2, hk2⟩
          have HR2 := Lib.hid (show RS w2 r (.slice (some ⟨g, 0, none⟩) n c) (swp l1 i j1) from ⟨hk2.heap HR1.out.drew.ptr (fun e => HR1.out.ne (by rw [← e]; rfl)), ho2⟩)
          have HK2 := Lib.hid (HK1.out.drew.trans hk2)
          have HP2 := Lib.hid ((swpD_perm ByteArray.empty (l := l1) (i := i) (j := j1) bi bj).trans hperm)
          clear ho2 hk2 hperm
          go_wp2_with fail
          go_roundw
          case rel => exact ⟨_, j1, rfl, by omega, by rw [swpD_length]; exact HL.out, HR2.out, HP2.out, HU2.out, by rw [getD_swpD _ bi bj, if_neg (by omega), if_neg (by omega)]; exact HA.out, HK2.out⟩
          case measure => simp [intOf]; omega
      · have HR1 := HRD
        have HK1 := Lib.hid hkept.drew
        have HPL := Lib.hid plt
        clear hkept plt
        cases hlt : ltB (l1[j2]'bj) (l1[i]'bi)
        all_goals
          have HLT := Lib.hid hlt
          clear hlt
          go_wp2_with fail
          refine (rLess_any g n c l1 j2 j1 bj2 bj1 wr HR.out.own.len.symm HR.out.own).mono ?_
          rintro e w1 ⟨rfl, rfl⟩
          rw [HPL.out]
          go_wp2_with fail
        · refine (rLess_any g n c l1 j2 i bj bi _ HR1.out.own.len.symm HR1.out.own).mono ?_
          rintro e w1 ⟨rfl, rfl⟩
          rw [HLT.out]
          go_wp2_with fail
          all_goals
            go_ret
            refine ⟨⟨_, rfl⟩, l1, HR1.out.drew, hperm, downInv_end _ ltB_LO HU.out HMIN.out ?_, HA.out, HK1.out.drew⟩
            rw [getD_at _ bj, getD_at _ bi]
            exact HLT.out
        · have HU2 := Lib.hid (downInv_step ByteArray.empty ltB_LO HU.out HJP.out hj0 hjm (by rw [HLL.out]; omega) HMIN.out (by rw [getD_at _ bj, getD_at _ bi]; exact HLT.out))
          refine (rLess_any g n c l1 j2 i bj bi _ HR1.out.own.len.symm HR1.out.own).mono ?_
          rintro e w1 ⟨rfl, rfl⟩
          rw [HLT.out]
          go_wp2_with fail
          refine (rSwap_any g n c l1 i j2 bi bj _ HR1.out.own.len.symm HR1.out.drew.own).mono ?_
          rintro e w2 ⟨rfl, ho2, hk2⟩
          have HR2 := Lib.hid (show RS w2 r (.slice (some ⟨g, 0, none⟩) n c) (swp l1 i j2) from ⟨hk2.heap HR1.out.drew.ptr (fun e => HR1.out.ne (by rw [← e]; rfl)), ho2⟩)
          have HK2 := Lib.hid (HK1.out.drew.trans hk2)
          have HP2 := Lib.hid ((swpD_perm ByteArray.empty (l := l1) (i := i) (j := j2) bi bj).trans hperm)
          clear ho2 hk2 hperm
          go_wp2_with fail
          go_roundw
          case rel => exact ⟨_, j2, rfl, by omega, by rw [swpD_length]; exact HL.out, HR2.out, HP2.out, HU2.out, by rw [getD_swpD _ bi bj, if_neg (by omega), if_neg (by omega)]; exact HA.out, HK2.out⟩
          case measure => simp [intOf]; omega
end Go.Proofs.YteamkpmkchmhnaaDoor
