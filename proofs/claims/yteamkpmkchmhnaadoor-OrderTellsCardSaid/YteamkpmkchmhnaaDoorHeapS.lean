/- container/heap over '*ready' (a slice of strings): the methods. -/
import Derived.Test.YteamkpmkchmhnaaDoorBase
import Derived.Test.YteamkpmkchmhnaaDoorStrOrd
import Derived.Deep.QuietTactic
import Derived.BigQuiet
import Derived.WalkLawsBesides
import Derived.WalkSpells
import Derived.KernelRfl
import Derived.Lib.Hide
import Derived.Deep.AppendLies
import Derived.Deep.RegionLaw
import Derived.Deep.RegionHeld3
namespace Go.Proofs.YteamkpmkchmhnaaDoor
open Go.RowKit

theorem meth_Push (n r : Nat) (w : World) : (method (n + 1) 52 (.pointer (some ⟨r, 0, none⟩)) "Push").run Tryd.prog w = .ok (94, .pointer (some ⟨r, 0, none⟩)) w := by kernel_rfl
theorem meth_Pop (n r : Nat) (w : World) : (method (n + 1) 52 (.pointer (some ⟨r, 0, none⟩)) "Pop").run Tryd.prog w = .ok (93, .pointer (some ⟨r, 0, none⟩)) w := by kernel_rfl
theorem meth_Len0 (n r : Nat) (w : World) : (method (n + 1) 52 (.pointer (some ⟨r, 0, none⟩)) "Len").run Tryd.prog w = (do let v ← loadVar 53 ⟨r, 0, none⟩; pure (22, v) : Sem (FuncId × Value)).run Tryd.prog w := by kernel_rfl
theorem meth_Less0 (n r : Nat) (w : World) : (method (n + 1) 52 (.pointer (some ⟨r, 0, none⟩)) "Less").run Tryd.prog w = (do let v ← loadVar 53 ⟨r, 0, none⟩; pure (92, v) : Sem (FuncId × Value)).run Tryd.prog w := by kernel_rfl
theorem meth_Swap0 (n r : Nat) (w : World) : (method (n + 1) 52 (.pointer (some ⟨r, 0, none⟩)) "Swap").run Tryd.prog w = (do let v ← loadVar 53 ⟨r, 0, none⟩; pure (95, v) : Sem (FuncId × Value)).run Tryd.prog w := by kernel_rfl

theorem rLen_any (a : Option Addr) (n c : Nat) (w : World) :
    Calls Tryd.prog 22 #[.slice a n c] w fun e w' => e = .returned (.int .i64 n) ∧ w = w' := by
  go_enter Tryd.func22, Tryd.ntmps22
  go_wp2
  go_ret
  exact ⟨rfl, rfl⟩

set_option maxHeartbeats 400000 in
theorem rLess_any (g n c : Nat) (l : List BA) (i j : Nat) (hi : i < l.length) (hj : j < l.length) (w : World) (hn : l.length = n) (h : OS w (.slice (some ⟨g, 0, none⟩) n c) l) :
    Calls Tryd.prog 92 #[.slice (some ⟨g, 0, none⟩) n c, .int .i64 i, .int .i64 j] w fun e w' => e = .returned (.bool (ltB l[i] l[j])) ∧ w.drew = w' := by
  have hm := h.le
  obtain ⟨b, off, hb, h1⟩ := h.rd i hi
  cases hb
  obtain ⟨b, off, hb, h2⟩ := h.rd j hj
  cases hb
  clear h
  have hi' : i < n := by omega
  have hj' : j < n := by omega
  unfold ltB
  generalize l[i] = x at *
  generalize l[j] = y at *
  clear hi hj hn
  simp only [Nat.zero_add] at h1 h2
  go_enter Tryd.func92, Tryd.ntmps92
  go_wp2
  go_region
  all_goals (go_wp2; go_ret; exact ⟨rfl, rfl⟩)

abbrev swp (l : List BA) (i j : Nat) : List BA := swpD ByteArray.empty l i j

set_option maxHeartbeats 400000 in
theorem rSwap_any (g n c : Nat) (l : List BA) (i j : Nat) (hi : i < l.length) (hj : j < l.length) (w : World) (hn : l.length = n) (h : OS w (.slice (some ⟨g, 0, none⟩) n c) l) :
    Calls Tryd.prog 95 #[.slice (some ⟨g, 0, none⟩) n c, .int .i64 i, .int .i64 j] w fun e w' => e = .returned (.tuple #[]) ∧ OS w' (.slice (some ⟨g, 0, none⟩) n c) (swp l i j) ∧ Kept (fun k => k = g) w w' := by
  have hm := h.le
  obtain ⟨b, off, hb, h1⟩ := h.rd i hi
  cases hb
  obtain ⟨b, off, hb, h2⟩ := h.rd j hj
  cases hb
  have H := Lib.hid h
  have hf1 := h.frozen i
  have hf2 := h.frozen j
  have F : (fun (W' : World) => OS W' (.slice (some ⟨g, 0, none⟩) n c) (swp l i j) ∧ Kept (fun k => k = g) w W') (((w.setCell ⟨g, i, none⟩ (.string l[j])).setCell ⟨g, j, none⟩ (.string l[i])).drew) := by
    refine ⟨?_, (((Kept.refl (fun k => k = g) w).setCell ⟨g, i, none⟩ _ (.inr rfl)).setCell ⟨g, j, none⟩ _ (.inr rfl)).drew⟩
    have := (h.stored i l[j]).stored j l[i]
    unfold swp swpD
    rw [getD_at _ hi, getD_at _ hj]
    exact this
  clear h
  have hi' : i < n := by omega
  have hj' : j < n := by omega
  simp only [Nat.zero_add] at h1 h2
  have HF := Lib.hid F
  clear F
  generalize l[i] = x at *
  generalize l[j] = y at *
  clear hi hj hn
  obtain ⟨v1, hv1⟩ := cell?_setCell_some (w := w) (p := ⟨g, i, none⟩) (x := .string y) (q := ⟨g, j, none⟩) h2
  go_enter Tryd.func95, Tryd.ntmps95
  go_wp2
  go_region
  all_goals (go_wp2; go_end0; exact ⟨rfl, HF.out⟩)

theorem Tryd.elR : ElT Tryd.prog 53 9 1 16 := .mk' Tryd.underlying53 Tryd.infoS rfl (by decide)

theorem assertS (x : BA) (w : World) : (Instr.typeAssert (.iface 9 (.string x)) 20 9 false).run Tryd.prog w = .ok (.string x) w := by kernel_rfl

/-- A pointer to a slice of strings of the call's own. -/
structure RS (w : World) (r : Nat) (v : Value) (l : List BA) : Prop where
  ptr : w.heap[r]? = some (.cells #[v] 53 (0, 0))
  own : OS w v l

theorem RS.ne {w : World} {r : Nat} {v : Value} {l : List BA} (h : RS w r v l) : v.ownBlock ≠ some r := by
  intro e
  obtain ⟨cur, hc⟩ := h.own.kind e
  rw [h.ptr] at hc
  simp at hc

theorem rPush_ptr {w w1 : World} {r : Nat} {v : Value} {o : Obj} (hp : w.heap[r]? = some (.cells #[v] 53 (0, 0))) (hne : v.ownBlock ≠ some r) (hg : (w.alloc o).drew.grownBy w1 v.ownBlock) :
    w1.heap[r]? = some (.cells #[v] 53 (0, 0)) :=
  (hg.block r (by have := lt_of_block hp; simp [World.drew]; omega) (fun e => hne e.symm)).trans ((Below.heap_alloc _ _ _ (lt_of_block hp)).trans hp)

theorem rPush_end {w w1 : World} {r : Nat} {v : Value} {o : Obj} {l : List BA} {x : BA} {g cap : Nat} (hp : w.heap[r]? = some (.cells #[v] 53 (0, 0))) (hne : v.ownBlock ≠ some r)
    (ho : w1.ownsRow 0 9 1 (.slice (some ⟨g, 0, none⟩) (l.length + 1) cap) (l.length + 1) (l.map Value.string ++ [.string x])) (hg : (w.alloc o).drew.grownBy w1 v.ownBlock)
    (hat : v.ownBlock = some g ∨ g = (w.alloc o).drew.heap.size) (hp1 : w1.heap[r]? = some (.cells #[v] 53 (0, 0))) :
    ∃ v', RS (w1.setCell ⟨r, 0, none⟩ (.slice (some ⟨g, 0, none⟩) (l.length + 1) cap)) r v' (l ++ [x]) ∧
      Kept (fun k => k = r ∨ v.ownBlock = some k) w (w1.setCell ⟨r, 0, none⟩ (.slice (some ⟨g, 0, none⟩) (l.length + 1) cap)) ∧ (∀ k, v'.ownBlock = some k → v.ownBlock = some k ∨ w.heap.size ≤ k) := by
  have hsz : (w.alloc o).drew.heap.size = w.heap.size + 1 := by simp [World.drew]
  have hgr : g ≠ r := by
    rintro rfl
    rcases hat with h | h
    · exact hne h
    · have := lt_of_block hp
      omega
  refine ⟨_, ⟨one_setCell hp1, ?_⟩, ?_, ?_⟩
  · have := ownsRow_setCell_other ho (a := ⟨r, 0, none⟩) (by simp [Value.ownBlock, hgr]) (.slice (some ⟨g, 0, none⟩) (l.length + 1) cap)
    unfold OS
    simpa using this
  · refine Kept.setCell ?_ _ _ (.inr (.inl rfl))
    exact (((Kept.refl _ w).alloc o).drew).then (Kept.of_grown hg) (fun i _ h => .inr h.symm)
  · intro k hk
    simp only [Value.ownBlock, Option.some.injEq] at hk
    subst hk
    rcases hat with h | h
    · exact .inl h
    · right
      omega

set_option maxRecDepth 100000 in
set_option maxHeartbeats 400000 in
theorem rPush_any (r : Nat) (v : Value) (l : List BA) (x : BA) (w : World) (h : RS w r v l) (hm : l.length ≤ 8000000000000) :
    Calls Tryd.prog 94 #[.pointer (some ⟨r, 0, none⟩), .iface 9 (.string x)] w fun e w' => e = .returned (.tuple #[]) ∧
      ∃ v', RS w' r v' (l ++ [x]) ∧ Kept (fun k => k = r ∨ v.ownBlock = some k) w w' ∧ (∀ k, v'.ownBlock = some k → v.ownBlock = some k ∨ w.heap.size ≤ k) := by
  have hc := cell_of_one h.ptr
  have hne := Lib.hid h.ne
  have hf := free_of_one h.ptr
  have hr := lt_of_block h.ptr
  have hp := Lib.hid h.ptr
  have hown := Lib.hid h.own
  clear h
  have hta := assertS x
  go_enter Tryd.func94, Tryd.ntmps94
  go_wp2
  go_region_law (first | (refine step_append_any Tryd.elR (by exact (World.ownsRow.alloc hown.out _).drew) (news := [.string x]) (by exact cell_one_new w _ _) (strs_oneCell [x]) rfl (by decide) (by unfold maxLen; omega) (by omega) rfl rfl rfl rfl ?_; intro g cap w1 hown1 hgrow1 hat hlt; have hp1 := rPush_ptr hp.out hne.out hgrow1; have hc1 := cell_of_one hp1; have hf1 := free_of_one hp1; have hR := Lib.hid (rPush_end hp.out hne.out hown1 hgrow1 hat hp1); clear hown1 hgrow1 hat hlt hp1))
  all_goals (go_wp2; go_end0; exact ⟨rfl, hR.out⟩)

theorem OS.cut {w : World} {g n c : Nat} {l : List BA} {x : BA} (h : OS w (.slice (some ⟨g, 0, none⟩) (n + 1) c) (l ++ [x])) : OS w (.slice (some ⟨g, 0, none⟩) n c) l := by
  obtain ⟨h0, h1⟩ := h
  refine ⟨by simp, ?_⟩
  rcases h1 with ⟨h1, _⟩ | ⟨g', cap, cur, hv, hb, hg, h2, h3, h4, h5⟩
  · cases h1
  · simp only [Value.slice.injEq, Option.some.injEq, Addr.mk.injEq, List.length_append, List.length_cons, List.length_nil] at hv
    obtain ⟨⟨rfl, _⟩, hn, rfl⟩ := hv
    obtain rfl : n = l.length := by omega
    refine .inr ⟨_, _, cur, rfl, hb, hg, by simp at h2; omega, h3, h4, ?_⟩
    have h6 := congrArg (List.take l.length) h5
    simp only [List.length_append, List.length_cons, List.length_nil, Nat.mul_one, List.take_take, List.map_append] at h6 ⊢
    rw [show min l.length (l.length + (0 + 1)) = l.length by omega] at h6
    rw [h6, List.take_append_of_le_length (by simp), List.take_of_length_le (by simp)]

set_option maxRecDepth 100000 in
set_option maxHeartbeats 400000 in
theorem rPop_any (r g n c : Nat) (l : List BA) (x : BA) (w : World) (h : RS w r (.slice (some ⟨g, 0, none⟩) (n + 1) c) (l ++ [x])) :
    Calls Tryd.prog 93 #[.pointer (some ⟨r, 0, none⟩)] w fun e w' => e = .returned (.iface 9 (.string x)) ∧
      RS w' r (.slice (some ⟨g, 0, none⟩) n c) l ∧ Kept (fun k => k = r) w w' := by
  have hc := cell_of_one h.ptr
  have hne := Lib.hid h.ne
  have hf := free_of_one h.ptr
  have hr := lt_of_block h.ptr
  have hl := h.own.len
  have hle := h.own.le
  simp only [List.length_append, List.length_cons, List.length_nil] at hl hle
  have hln : l.length = n := by omega
  obtain ⟨b, off, hb, h1⟩ := h.own.rd n (by simp; omega)
  cases hb
  have h1' : w.cell? ⟨g, n, none⟩ = some (.string x) := by
    rw [show (l ++ [x])[n]'(by simp; omega) = x by simp [← hln]] at h1
    simpa using h1
  have hcap : n + 1 ≤ c ∧ c ≤ 9223372036854775807 := by
    rcases h.own.2 with ⟨h1, _⟩ | ⟨g', cap, cur, hv, hb, hg, h2, h3, _⟩
    · cases h1
    · simp only [Value.slice.injEq] at hv
      unfold maxLen at h3
      omega
  have HF : Hid (∀ W', W' = w.setCell ⟨r, 0, none⟩ (.slice (some ⟨g, 0, none⟩) n c) → RS W' r (.slice (some ⟨g, 0, none⟩) n c) l ∧ Kept (fun k => k = r) w W') := by
    rintro W' rfl
    refine ⟨⟨one_setCell h.ptr, ?_⟩, (Kept.refl (fun k => k = r) w).setCell ⟨r, 0, none⟩ _ (.inr rfl)⟩
    exact ownsRow_setCell_other h.own.cut (a := ⟨r, 0, none⟩) (fun e => hne.out (by simpa [Value.ownBlock] using e)) _
  clear h1 hl hln h
  obtain ⟨hcap1, hcap2⟩ := hcap
  go_enter Tryd.func93, Tryd.ntmps93
  go_wp2
  go_ret
  exact ⟨rfl, HF.out _ rfl⟩
end Go.Proofs.YteamkpmkchmhnaaDoor
