/- tambourlaw06.awake: it answers true. -/
import Derived.Test.YteamkpmkchmhnaaDoorSame
namespace Go.Proofs.YteamkpmkchmhnaaDoor
open Go.RowKit Go.Maps Go.WideMaps

def sA : BA := { data := #[97] }
def sB : BA := { data := #[98] }
def sC : BA := { data := #[99] }
def S0 : List (Nd BA) := [⟨sC, [sA]⟩, ⟨sB, [sA]⟩, ⟨sA, []⟩]

theorem lt_CB : ltB sC sB = false := by kernel_rfl
theorem ne_AB : sA ≠ sB := by decide
theorem ne_AC : sA ≠ sC := by decide
theorem ne_BC : sB ≠ sC := by decide

theorem S0_nodup : (names S0).Nodup := by decide

theorem S0_greedy : Greedy ltB S0 [sA, sB, sC] := by
  intro k hk
  have h3 : k = 0 ∨ k = 1 ∨ k = 2 := by simp at hk; omega
  have hm : ∀ y ∈ S0, y = ⟨sC, [sA]⟩ ∨ y = ⟨sB, [sA]⟩ ∨ y = ⟨sA, []⟩ := fun y hy => by simpa [S0] using hy
  rcases h3 with rfl | rfl | rfl
  · refine ⟨⟨⟨sA, []⟩, by simp [S0], rfl, by simp [rdy]⟩, fun y hy hr => ?_⟩
    rcases hm y hy with rfl | rfl | rfl
    · simp [rdy] at hr
    · simp [rdy] at hr
    · exact ltB_LO.irr _
  · refine ⟨⟨⟨sB, [sA]⟩, by simp [S0], rfl, by simp [rdy, Ne.symm ne_AB]⟩, fun y hy hr => ?_⟩
    rcases hm y hy with rfl | rfl | rfl
    · exact lt_CB
    · exact ltB_LO.irr _
    · simp [rdy] at hr
  · refine ⟨⟨⟨sC, [sA]⟩, by simp [S0], rfl, by simp [rdy, Ne.symm ne_AC, Ne.symm ne_BC]⟩, fun y hy hr => ?_⟩
    rcases hm y hy with rfl | rfl | rfl
    · exact ltB_LO.irr _
    · simp [rdy] at hr
    · simp [rdy] at hr

theorem S0_lin : LinRes ltB S0 [sA, sB, sC] 0 := .ok S0_nodup _ S0_greedy rfl

theorem S0_heads {l : List BA} (hs : Srt l) (hn : l.Nodup) (hm : ∀ s, s ∈ l ↔ s ∈ names S0 ∧ ∀ x ∈ S0, s ∉ x.deps) : l = [sB, sC] := by
  have hm' : ∀ s, s ∈ l ↔ s = sB ∨ s = sC := fun s => by
    rw [hm]
    simp only [names, S0, List.map_cons, List.map_nil, List.mem_cons, List.not_mem_nil, or_false]
    constructor
    · rintro ⟨h1, h2⟩
      rcases h1 with rfl | rfl | rfl
      · exact .inr rfl
      · exact .inl rfl
      · exact absurd (List.mem_singleton.2 rfl) (h2 ⟨sC, [sA]⟩ (.inl rfl))
    · rintro (rfl | rfl)
      · refine ⟨.inr (.inl rfl), fun x hx => ?_⟩
        rcases hx with rfl | rfl | rfl <;> simp [Ne.symm ne_AB]
      · refine ⟨.inl rfl, fun x hx => ?_⟩
        rcases hx with rfl | rfl | rfl <;> simp [Ne.symm ne_AC]
  have h2 : l.length = 2 := by
    have h1 := List.Nodup.length_le_of_subset (l₁ := l) (l₂ := [sB, sC]) hn (fun t ht => by simpa using (hm' t).1 ht)
    have h3 := List.Nodup.length_le_of_subset (l₁ := [sB, sC]) (l₂ := l) (by simp [ne_BC]) (fun t ht => (hm' t).2 (by simpa using ht))
    simp at h1 h3
    omega
  obtain ⟨x, y, rfl⟩ : ∃ x y, l = [x, y] := by
    match l, h2 with
    | [x, y], _ => exact ⟨x, y, rfl⟩
  have hx := (hm' x).1 (by simp)
  have hy := (hm' y).1 (by simp)
  have hxy : x ≠ y := by simpa using hn
  have hl : ltB y x = false := by simpa [Srt] using hs
  rcases hx with rfl | rfl
  · rcases hy with rfl | rfl
    · exact absurd rfl hxy
    · rfl
  · rcases hy with rfl | rfl
    · have : ltB sB sC = true := by kernel_rfl
      rw [this] at hl
      cases hl
    · exact absurd rfl hxy

def awakeW (w : World) : World :=
  ((w.alloc (Obj.cells #[Value.string { data := #[97] }] 9)).alloc (Obj.cells #[Value.string { data := #[97] }] 9)).alloc
      (Obj.cells #[Value.string { data := #[99] }, Value.string { data := #[] }, Value.slice (some { block := w.heap.size, off := 0 }) 1 1, Value.slice none 0 0,
          Value.string { data := #[98] }, Value.string { data := #[] }, Value.slice (some { block := w.heap.size + 1, off := 0 }) 1 1, Value.slice none 0 0,
          Value.string { data := #[97] }, Value.string { data := #[] }, Value.slice none 0 0, Value.slice none 0 0] 30)

theorem awakeW_below (w : World) : Below w.heap.size w (awakeW w) := ((((Below.refl _ w).alloc (Nat.le_refl _) _).alloc (by simp) _).alloc (by simp; omega) _)

theorem RdV_one (w : World) (b : Nat) (s : BA) (hb : w.cell? ⟨b, 0, none⟩ = some (.string s)) (hs : s.size ≤ maxLen) : RdV w (.slice (some ⟨b, 0, none⟩) 1 1) [s] := by
  refine ⟨some ⟨b, 0, none⟩, 1, rfl, by simp, by simp, by simp, ?_, ?_, by simpa using hs⟩
  · intro k hk
    have : k = 0 := by simp at hk; omega
    subst this
    exact ⟨b, 0, rfl, hb⟩
  · intro p hp _
    cases hp
    exact World.block_lt_of_cell? w _ hb

theorem RdV_nil (w : World) : RdV w (.slice none 0 0) [] := ⟨none, 0, rfl, by simp, by simp, by simp, fun k hk => by simp at hk, by simp, by simp⟩

theorem awakeW_rd (w : World) : RdN (awakeW w) (some ⟨w.heap.size + 1 + 1, 0, none⟩) S0 := by
  have hA : (awakeW w).cell? ⟨w.heap.size, 0, none⟩ = some (.string sA) := by unfold awakeW; go_simp; rfl
  have hB : (awakeW w).cell? ⟨w.heap.size + 1, 0, none⟩ = some (.string sA) := by unfold awakeW; go_simp; rfl
  have h3 : ∀ k, k < 12 → (awakeW w).cell? ⟨w.heap.size + 1 + 1, k, none⟩ = (#[Value.string { data := #[99] }, Value.string { data := #[] }, Value.slice (some { block := w.heap.size, off := 0 }) 1 1, Value.slice none 0 0,
          Value.string { data := #[98] }, Value.string { data := #[] }, Value.slice (some { block := w.heap.size + 1, off := 0 }) 1 1, Value.slice none 0 0,
          Value.string { data := #[97] }, Value.string { data := #[] }, Value.slice none 0 0, Value.slice none 0 0] : Array Value)[k]? := by
    intro k hk
    have := heap_alloc_new ((w.alloc (Obj.cells #[Value.string { data := #[97] }] 9)).alloc (Obj.cells #[Value.string { data := #[97] }] 9)) (Obj.cells #[Value.string { data := #[99] }, Value.string { data := #[] }, Value.slice (some { block := w.heap.size, off := 0 }) 1 1, Value.slice none 0 0,
          Value.string { data := #[98] }, Value.string { data := #[] }, Value.slice (some { block := w.heap.size + 1, off := 0 }) 1 1, Value.slice none 0 0,
          Value.string { data := #[97] }, Value.string { data := #[] }, Value.slice none 0 0, Value.slice none 0 0] 30)
    rw [show ((w.alloc (Obj.cells #[Value.string { data := #[97] }] 9)).alloc (Obj.cells #[Value.string { data := #[97] }] 9)).heap.size = w.heap.size + 1 + 1 from by simp] at this
    unfold awakeW
    unfold World.cell?
    rw [this]
    rfl
  intro k x hk
  have h4 : k = 0 ∨ k = 1 ∨ k = 2 := by have := (List.getElem?_eq_some_iff.1 hk).1; simp [S0] at this; omega
  rcases h4 with rfl | rfl | rfl
  · cases hk
    exact ⟨_, 0, _, _, _, _, _, rfl, by decide, h3 0 (by decide), h3 1 (by decide), h3 2 (by decide), h3 3 (by decide), RdV_one _ _ _ hA (by decide)⟩
  · cases hk
    exact ⟨_, 0, _, _, _, _, _, rfl, by decide, h3 4 (by decide), h3 5 (by decide), h3 6 (by decide), h3 7 (by decide), RdV_one _ _ _ hB (by decide)⟩
  · cases hk
    exact ⟨_, 0, _, _, _, _, _, rfl, by decide, h3 8 (by decide), h3 9 (by decide), h3 10 (by decide), h3 11 (by decide), RdV_nil _⟩

theorem RdS_new (w : World) (cs : List BA) : RdS (w.alloc (.cells (cs.map Value.string).toArray 9)) (some ⟨w.heap.size, 0, none⟩) cs := by
  intro k hk
  refine ⟨_, 0, rfl, ?_⟩
  have := heap_alloc_new w (.cells (cs.map Value.string).toArray 9)
  unfold World.cell?
  rw [this]
  simp [hk]

/-- One after the other. -/
theorem bMore {a b c : World} {B : Nat} (h : Below B a b) (k : Below b.heap.size b c) (hB : B ≤ a.heap.size) : Below B a c := h.trans ((Kept.of_below k).below (by have := h.size; omega) (fun q hq e => by have := h.size; omega))

set_option maxRecDepth 100000 in
set_option maxHeartbeats 1000000 in
theorem awake_any (w : World) : Calls Tryd.prog 5 #[] w fun e w' => e = .returned (.bool true) ∧ Below w.heap.size w w' := by
  go_enter Tryd.func5, Tryd.ntmps5
  go_wp2_with fail
  have HRD := Lib.hid (awakeW_rd w)
  have HB0 := Lib.hid (awakeW_below w)
  obtain ⟨W0, hW0⟩ : ∃ W0, W0 = awakeW w := ⟨_, rfl⟩
  rw [← hW0] at HRD HB0
  unfold awakeW at hW0
  rw [← hW0]
  clear hW0
  refine (linear_any (some ⟨_, 0, none⟩) 3 3 S0 W0 rfl (by decide) (by decide) HRD.out).mono ?_
  rintro e w1 ⟨v, l, cc, hres, rfl, ho, hx1, hx2, hb⟩
  clear hx1 hx2
  obtain ⟨rfl, rfl⟩ := LinRes.unique ltB_LO hres S0_lin
  obtain ⟨g, cap, rfl⟩ := ho.shape (by decide)
  have HO := Lib.hid ho
  have HB := Lib.hid hb
  have e0 : errV 0 = .nilIface := rfl
  rw [e0]
  clear hres ho hb e0
  go_wp2_with fail
  refine (same_any (some ⟨g, 0, none⟩) cap 3 [sA, sB, sC] _ 3 3 [sA, sB, sC] _ rfl (by decide) ((HO.out.kept ((Kept.refl (fun _ => False) _).alloc _) (fun _ _ h => h)).rd) rfl (by decide) (RdS_new w1 [sA, sB, sC])).mono ?_
  rintro e w2 ⟨⟨r, rfl, hr⟩, hk⟩
  obtain rfl : r = true := hr.2 rfl
  have HK := Lib.hid hk
  clear hr hk
  have HB2 := Lib.hid (HB.out.trans ((((Kept.refl (fun _ => False) w1).alloc _).then HK.out (fun _ _ h => h)).below HB.out.size (fun _ _ h => h)))
  go_wp2_with fail
  refine (heads_any (some ⟨_, 0, none⟩) 3 3 S0 w2 rfl (by decide) (by decide) (HRD.out.below HB2.out)).mono ?_
  rintro e w3 ⟨v, l, rfl, ho, hs, hn, hm, hx1, hx2, hb⟩
  clear hx1 hx2
  obtain rfl := S0_heads hs hn hm
  obtain ⟨g3, cap3, rfl⟩ := ho.shape (by decide)
  have HO3 := Lib.hid ho
  have HB3 := Lib.hid hb
  clear ho hb hs hn hm
  go_wp2_with fail
  refine (same_any (some ⟨g3, 0, none⟩) cap3 2 [sB, sC] _ 2 2 [sB, sC] _ rfl (by decide) ((HO3.out.kept ((Kept.refl (fun _ => False) _).alloc _) (fun _ _ h => h)).rd) rfl (by decide) (RdS_new w3 [sB, sC])).mono ?_
  rintro e w4 ⟨⟨r, rfl, hr⟩, hk⟩
  obtain rfl : r = true := hr.2 rfl
  have HK4 := Lib.hid hk
  clear hr hk
  go_wp2_with fail
  go_ret
  have hB3 := bMore HB0.out (bMore HB2.out HB3.out (Nat.le_refl _)) (Nat.le_refl _)
  exact ⟨rfl, hB3.trans ((((Kept.refl (fun _ => False) w3).alloc _).then HK4.out (fun _ _ h => h)).below hB3.size (fun _ _ h => h))⟩
end Go.Proofs.YteamkpmkchmhnaaDoor
