/- container/heap over '*ready' (a slice of strings): Push, Pop. -/
import Derived.Test.YteamkpmkchmhnaaDoorHeapUp
namespace Go.Proofs.YteamkpmkchmhnaaDoor
open Go.RowKit

theorem Kept.two {w w' : World} {r g : Nat} {v : Value} (h : Kept (fun k => k = g) w w') (hv : v.ownBlock = some g) : Kept (fun k => k = r ∨ v.ownBlock = some k) w w' :=
  h.mono fun k _ e => .inr (by rw [hv, e])

/-- What Push leaves. -/
def PushPost (r : Nat) (v : Value) (l : List BA) (x : BA) (w w' : World) : Prop :=
  ∃ v' l', RS w' r v' l' ∧ l'.Perm (x :: l) ∧ IsH l' ∧ Kept (fun k => k = r ∨ v.ownBlock = some k) w w' ∧ (∀ k, v'.ownBlock = some k → v.ownBlock = some k ∨ w.heap.size ≤ k)

set_option maxRecDepth 100000 in
set_option maxHeartbeats 400000 in
theorem heapPush_any (r : Nat) (v : Value) (l : List BA) (x : BA) (w : World) (h : RS w r v l) (hh : IsH l) (hm : l.length ≤ 1000000000000) :
    Calls Tryd.prog 21 #[.iface 52 (.pointer (some ⟨r, 0, none⟩)), .iface 9 (.string x)] w fun e w' => e = .returned (.tuple #[]) ∧ PushPost r v l x w w' := by
  have hmP := fun n w => meth_Push n r w
  have hmL := fun n w => meth_Len0 n r w
  go_enter Tryd.func21, Tryd.ntmps21
  go_wp2_with fail
  refine (rPush_any r v l x w h (by omega)).mono ?_
  rintro e w1 ⟨rfl, v1, hr1, hk1, hv1⟩
  obtain ⟨g, cap, hv⟩ := hr1.own.shape (by simp)
  have HV : Hid (∀ k, Value.ownBlock v1 = some k → Value.ownBlock v = some k ∨ w.heap.size ≤ k) := hv1
  have HK := Lib.hid hk1
  clear hv1 hk1
  subst hv
  generalize hn : (l ++ [x]).length = n at hr1 HV
  have hn' : n = l.length + 1 := by rw [← hn]; simp
  have hc1 := cell_of_one hr1.ptr
  have hn8 : n ≤ 2000000000000 := by omega
  have hn0 : 1 ≤ n := by omega
  have HR := Lib.hid hr1
  have HN := Lib.hid hn'
  clear hr1 hn hn'
  obtain ⟨j, hj⟩ : ∃ j : Nat, n = j + 1 := ⟨n - 1, by omega⟩
  subst hj
  go_wp2_with (go_at_call 22; refine (rLen_any _ _ _ _).mono ?_; rintro e w' ⟨rfl, rfl⟩)
  have hj' : j = l.length := by have := HN.out; omega
  refine (up_any r g (j + 1) cap j (l ++ [x]) w1 HR.out (by omega) (by rw [hj']; exact upInv_start _ hh x rfl)).mono ?_
  rintro e w2 ⟨rfl, l2, hr2, hp2, hi2, hk2⟩
  have HF : Hid (PushPost r v l x w w2) := by
    refine ⟨_, l2, hr2, hp2.trans ?_, hi2, HK.out.then hk2 (fun i hi e => ?_), fun k hk => HV.out k hk⟩
    · exact (List.perm_append_comm (l₁ := l) (l₂ := [x]))
    · subst e
      rcases HV.out i rfl with h1 | h1
      · exact .inr h1
      · omega
  clear hr2 hp2 hi2 hk2
  go_wp2_with fail
  go_end0
  exact ⟨rfl, HF.out⟩

/-- What Pop leaves. -/
def PopPost (r : Nat) (v : Value) (l : List BA) (w : World) (e : Ending) (w' : World) : Prop :=
  ∃ x v' l', e = .returned (.iface 9 (.string x)) ∧ RS w' r v' l' ∧ l.Perm (x :: l') ∧ IsH l' ∧ (∀ y ∈ l, ltB y x = false) ∧ Kept (fun k => k = r ∨ v.ownBlock = some k) w w' ∧ v'.ownBlock = v.ownBlock

set_option maxRecDepth 100000 in
set_option maxHeartbeats 400000 in
theorem heapPop_any (r : Nat) (v : Value) (l : List BA) (w : World) (h : RS w r v l) (hh : IsH l) (hm : l.length ≤ 1000000000000) (h0 : 0 < l.length) :
    Calls Tryd.prog 23 #[.iface 52 (.pointer (some ⟨r, 0, none⟩))] w (PopPost r v l w) := by
  have hmP := fun n w => meth_Pop n r w
  have hmL := fun n w => meth_Len0 n r w
  have hmS := fun n w => meth_Swap0 n r w
  obtain ⟨g, cap, hv⟩ := h.own.shape h0
  subst hv
  generalize hn : l.length = n at h h0 hm
  obtain ⟨j, hj⟩ : ∃ j : Nat, n = j + 1 := ⟨n - 1, by omega⟩
  subst hj
  have hc := cell_of_one h.ptr
  have HR := Lib.hid h
  have HN := Lib.hid hn
  have hl0 : 0 < l.length := by omega
  have hlj : j < l.length := by omega
  clear h hn
  go_enter Tryd.func23, Tryd.ntmps23
  go_wp2_with (go_at_call 22; refine (rLen_any _ _ _ _).mono ?_; rintro e w' ⟨rfl, rfl⟩)
  refine (rSwap_any g (j + 1) cap l 0 j hl0 hlj w HN.out HR.out.own).mono ?_
  rintro e w1 ⟨rfl, ho1, hk1⟩
  have HR1 := Lib.hid (show RS w1 r (.slice (some ⟨g, 0, none⟩) (j + 1) cap) (swp l 0 j) from ⟨hk1.heap HR.out.ptr (fun e => HR.out.ne (by rw [← e]; rfl)), ho1⟩)
  have HK1 := Lib.hid hk1
  have hc1 := cell_of_one HR1.out.ptr
  clear ho1 hk1
  go_wp2_with fail
  refine (down_any r g (j + 1) cap (swp l 0 j) w1 j rfl (by omega) HR1.out (downInv_start _ (by unfold IsH at hh; rw [HN.out] at hh; exact hh) HN.out.symm)).mono ?_
  rintro e w2 ⟨⟨b, rfl⟩, l2, hr2, hp2, hi2, hl2, hk2⟩
  have hlen2 : l2.length = j + 1 := by rw [hp2.length_eq, swpD_length, HN.out]
  obtain ⟨l3, x, hl3⟩ : ∃ l3 x, l2 = l3 ++ [x] := by
    have := List.dropLast_concat_getLast (l := l2) (by intro e; rw [e] at hlen2; simp at hlen2)
    exact ⟨_, _, this.symm⟩
  subst hl3
  have hj3 : l3.length = j := by simpa using hlen2
  have hx : x = l.getD 0 ByteArray.empty := by
    rw [getD_swpD _ hl0 hlj, if_pos rfl] at hl2
    rw [← hl2]
    simp [List.getD_eq_getElem?_getD, ← hj3]
  have HF : Hid (∀ w3, RS w3 r (.slice (some ⟨g, 0, none⟩) j cap) l3 → Kept (fun k => k = r) w2 w3 → PopPost r (.slice (some ⟨g, 0, none⟩) (j + 1) cap) l w (.returned (.iface 9 (.string x))) w3) := by
    intro w3 hr3 hk3
    have hperm : l.Perm (x :: l3) := ((swpD_perm _ hl0 hlj).symm.trans hp2.symm).trans List.perm_append_comm
    refine ⟨x, _, l3, rfl, hr3, hperm, ?_, ?_, ?_, rfl⟩
    · unfold IsH
      rw [hj3]
      intro k k0 kn
      have := hi2 k k0 kn
      simp only [List.getD_eq_getElem?_getD] at this ⊢
      rw [List.getElem?_append_left (by omega), List.getElem?_append_left (by omega)] at this
      exact this
    · intro y hy
      obtain ⟨k, hk, rfl⟩ := List.mem_iff_getElem.1 hy
      rw [hx, ← getD_at ByteArray.empty hk]
      exact IsHeap.least _ ltB_LO hh k hk
    · refine ((HK1.out.trans hk2).two rfl).then hk3 (fun i _ e => .inl e)
  have HR2 := Lib.hid hr2
  have hc2 := cell_of_one hr2.ptr
  clear hr2 hp2 hi2 hl2 hk2 hlen2 hj3 hx
  go_wp2_with fail
  refine (rPop_any r g j cap l3 x w2 HR2.out).mono ?_
  rintro e w3 ⟨rfl, hr3, hk3⟩
  have HF2 := Lib.hid (HF.out w3 hr3 hk3)
  clear hr3 hk3
  go_wp2_with fail
  go_ret
  exact HF2.out
end Go.Proofs.YteamkpmkchmhnaaDoor
