/- slices.Clone, slices.Sort, slices.Compact at strings, in the words of rows. -/
import Derived.Test.YteamkpmkchmhnaaDoorStrOrd
import Derived.Test.YteamkpmkchmhnaaDoorShelf
import Derived.Sort.OwnSorted
import Derived.Sort.KeysCollected
import Derived.Lib.SlicesCompact
import Derived.Lib.Hide
namespace Go.Proofs.YteamkpmkchmhnaaDoor
open Go.RowKit Go.Sort

def bl (s : BA) : List UInt8 := s.data.toList
def lb (l : List UInt8) : BA := ⟨l.toArray⟩
theorem lb_bl (s : BA) : lb (bl s) = s := rfl
theorem bl_lb (l : List UInt8) : bl (lb l) = l := rfl
theorem enc_lb (l : List UInt8) : encStr l = .string (lb l) := rfl
theorem map_enc (l : List BA) : (l.map bl).map encStr = l.map Value.string := by
  rw [List.map_map]
  exact List.map_congr_left fun s _ => by show Value.string (lb (bl s)) = _; rw [lb_bl]

theorem ltB_lt (a b : BA) : ltB a b = decide (bl a < bl b) := by
  unfold ltB
  rw [Proofs.bytesLess_eq, Lib.toList_data, Lib.toList_data]
  rfl

/-- None stands behind a greater one. -/
def Srt (l : List BA) : Prop := l.Pairwise fun a b => ltB b a = false

theorem srt_merge (l : List (List UInt8)) : Srt ((l.mergeSort leB).map lb) := by
  have tr : ∀ a b c : List UInt8, leB a b = true → leB b c = true → leB a c = true := by
    intro a b c h k
    simp only [leB, decide_eq_true_eq] at *
    exact List.le_trans h k
  have to : ∀ a b : List UInt8, (leB a b || leB b a) = true := by
    intro a b
    simp only [leB, Bool.or_eq_true, decide_eq_true_eq]
    exact List.le_total a b
  have h := List.pairwise_mergeSort tr to l
  unfold Srt
  rw [List.pairwise_map]
  refine h.imp ?_
  intro a b hab
  rw [ltB_lt, bl_lb, bl_lb, decide_eq_false_iff_not]
  simp only [leB, decide_eq_true_eq] at hab
  exact hab

theorem OS.row {w : World} {g n c : Nat} {l : List BA} (h : OS w (.slice (some ⟨g, 0, none⟩) n c) l) :
    n = l.length ∧ ∃ cur, w.heap[g]? = some (.cells cur 9 (0, 0)) ∧ l.length ≤ c ∧ c ≤ maxLen ∧ cur.size = c * 1 ∧ cur.toList.take l.length = (l.map bl).map encStr := by
  refine ⟨h.len, ?_⟩
  rcases h.2 with ⟨h1, _⟩ | ⟨g', cap, cur, hv, hb, hg, h2, h3, h4, h5⟩
  · cases h1
  · simp only [Value.slice.injEq, Option.some.injEq, Addr.mk.injEq] at hv
    obtain ⟨⟨rfl, _⟩, _, rfl⟩ := hv
    exact ⟨cur, hg, h2, h3, h4, by rw [map_enc]; simpa using h5⟩

/-- slices.Sort. -/
theorem sortS_some (g n c : Nat) (l : List BA) (w : World) (h : OS w (.slice (some ⟨g, 0, none⟩) n c) l) (hm : l.length ≤ 1000000000000) :
    Calls Tryd.prog 19 #[.slice (some ⟨g, 0, none⟩) n c] w fun e w' => e = .returned (.tuple #[]) ∧ ∃ l', OS w' (.slice (some ⟨g, 0, none⟩) n c) l' ∧ l'.Perm l ∧ Srt l' ∧ Kept (fun k => k = g) w w' := by
  obtain ⟨rfl, cur, hb, h1, h2, h3, h4⟩ := h.row
  have hsz : l.length < 4611686018427387904 := by omega
  have hH : Holds encStr w g 0 (l.map bl).toArray := holds_of_block hb (by simpa using h4)
  have hc := Tryd.slices_Sort_string g 0 c (l.map bl) w hH (lt_of_block hb) (by simpa using hsz)
  rw [List.length_map] at hc
  refine hc.mono ?_
  rintro e w' ⟨rfl, n, os, rfl⟩
  refine ⟨rfl, ((l.map bl).mergeSort leB).map lb, ?_, ?_, srt_merge _, ?_⟩
  · have := ownsRow_sorted (base := 0) (n := n) (os := os) (ss := l.map bl) (ts := (l.map bl).mergeSort leB) (by simp) (Nat.zero_le _) hb (by simpa using h1) h2 h3
    unfold OS
    rw [List.length_map, List.length_mergeSort, List.length_map, List.map_map]
    rw [List.length_map] at this
    exact this
  · have := (List.mergeSort_perm (l.map bl) leB).map lb
    rw [List.map_map] at this
    refine this.trans (List.Perm.of_eq ?_)
    exact (List.map_congr_left (fun s _ => lb_bl s)).trans (List.map_id _)
  · exact (Kept.of_grown (grownBy_sorted _)).mono fun k _ e => by simpa using e

theorem bl_inj {a b : BA} (h : bl a = bl b) : a = b := by rw [← lb_bl a, h, lb_bl]

section
open Go.Lib
theorem compact_mem (zs : List (List UInt8)) (x : List UInt8) : x ∈ compact zs ↔ x ∈ zs := by
  unfold compact compactUpTo
  constructor
  · intro h
    obtain ⟨j, hj, rfl⟩ := List.mem_map.1 h
    have hj' := List.mem_range.1 (List.mem_filter.1 hj).1
    rw [getElem!_pos zs.toArray j (by simpa using hj')]
    simp
  · intro h
    obtain ⟨j, hj, rfl⟩ := List.mem_iff_getElem.1 h
    induction j with
    | zero => exact List.mem_map.2 ⟨0, List.mem_filter.2 ⟨List.mem_range.2 hj, by simp [keeps]⟩, by rw [getElem!_pos zs.toArray 0 (by simpa using hj)]; simp⟩
    | succ j ih =>
      by_cases hk : keeps zs.toArray (j + 1) = true
      · exact List.mem_map.2 ⟨j + 1, List.mem_filter.2 ⟨List.mem_range.2 hj, hk⟩, by rw [getElem!_pos zs.toArray _ (by simpa using hj)]; simp⟩
      · have : zs[j + 1] = zs[j]'(by omega) := by
          simp only [keeps, decide_eq_true_eq, not_or, Decidable.not_not] at hk
          have h2 := hk.2
          rw [getElem!_pos zs.toArray _ (by simpa using hj), getElem!_pos zs.toArray _ (by simp; omega)] at h2
          simpa using h2
        rw [this]
        exact ih (by omega) (List.getElem_mem _)

theorem compact_nodup (zs : List (List UInt8)) (hs : zs.Pairwise fun a b => ¬ b < a) : (compact zs).Nodup := by
  have hp := List.pairwise_iff_getElem.1 hs
  unfold compact compactUpTo
  rw [List.Nodup, List.pairwise_map]
  refine (List.Pairwise.filter _ (List.pairwise_lt_range (n := zs.length))).imp_of_mem ?_ |>.imp (fun h => h)
  intro i j hi hj hij
  have hi' := List.mem_range.1 (List.mem_filter.1 hi).1
  have hj' := List.mem_range.1 (List.mem_filter.1 hj).1
  have hk := (List.mem_filter.1 hj).2
  simp only [keeps, decide_eq_true_eq] at hk
  rw [getElem!_pos zs.toArray i (by simpa using hi'), getElem!_pos zs.toArray j (by simpa using hj')]
  simp only [List.getElem_toArray]
  intro e
  rcases hk with h0 | h1
  · omega
  · rw [getElem!_pos zs.toArray j (by simpa using hj'), getElem!_pos zs.toArray _ (by simp; omega)] at h1
    simp only [List.getElem_toArray] at h1
    have a1 : ¬ zs[j] < zs[j - 1]'(by omega) := hp (j - 1) j (by omega) hj' (by omega)
    by_cases e2 : i = j - 1
    · subst e2
      exact h1 e.symm
    · have a2 : ¬ zs[j - 1]'(by omega) < zs[i] := hp i (j - 1) hi' (by omega) (by omega)
      rw [e] at a2
      exact h1 (List.le_antisymm (List.not_lt.1 a2) (List.not_lt.1 a1))
end

/-- slices.Compact behind a sort. -/
theorem compactS_some (g n c : Nat) (l : List BA) (w : World) (h : OS w (.slice (some ⟨g, 0, none⟩) n c) l) (hs : Srt l) :
    Calls Tryd.prog 20 #[.slice (some ⟨g, 0, none⟩) n c] w fun e w' => ∃ l', e = .returned (.slice (some ⟨g, 0, none⟩) l'.length c) ∧ OS w' (.slice (some ⟨g, 0, none⟩) l'.length c) l' ∧ l'.Nodup ∧ (∀ s, s ∈ l' ↔ s ∈ l) ∧ l'.length ≤ l.length ∧ Kept (fun k => k = g) w w' := by
  obtain ⟨rfl, cur, hb, h1, h2, h3, h4⟩ := h.row
  have hle := h.le
  have hH : Holds encStr w g 0 (l.map bl).toArray := holds_of_block hb (by simpa using h4)
  have hc := Tryd.slices_Compact_string g 0 c (l.map bl) w hH (by simpa using hle) (by simpa using h1)
  rw [List.length_map] at hc
  refine hc.mono ?_
  rintro e w' ⟨rfl, q, rfl⟩
  have hlen : (Lib.compact (l.map bl)).length ≤ l.length := by
    have := Lib.compact_length_le (l.map bl)
    rwa [List.length_map] at this
  refine ⟨(Lib.compact (l.map bl)).map lb, by rw [List.length_map], ?_, ?_, ?_, by simpa using hlen, ?_⟩
  · have := ownsRow_sorted (base := 0) (n := q) (os := #[]) (ss := l.map bl) (ts := Lib.compact (l.map bl) ++ List.replicate (l.length - (Lib.compact (l.map bl)).length) []) (by simp; omega) (Nat.zero_le _) hb (by simpa using h1) h2 h3
    rw [show ∀ W : World, grow W #[] = W from fun W => by simp [grow]] at this
    refine ⟨by simp, .inr ?_⟩
    rcases this.2 with ⟨e1, _⟩ | ⟨g', cap, cur', hv, hbase, hg, k1, k2, k3, k4⟩
    · cases e1
    · simp only [Value.slice.injEq, Option.some.injEq, Addr.mk.injEq] at hv
      obtain ⟨⟨rfl, _⟩, _, rfl⟩ := hv
      refine ⟨_, _, cur', by simp, Nat.zero_le _, hg, by simp; omega, k2, k3, ?_⟩
      have k5 := congrArg (List.take (Lib.compact (l.map bl)).length) k4
      rw [List.take_take, List.map_append, List.take_append_of_le_length (by simp), List.take_of_length_le (l := List.map encStr _) (by simp)] at k5
      rw [List.length_map, Nat.mul_one, show (Lib.compact (l.map bl)).length = min (Lib.compact (l.map bl)).length ((l.map bl).length * 1) by simp; omega, k5, List.map_map]
      rfl
  · have hd := compact_nodup (l.map bl) (by
      rw [List.pairwise_map]
      refine hs.imp ?_
      intro a b hab
      rw [ltB_lt, decide_eq_false_iff_not] at hab
      exact hab)
    rw [List.Nodup, List.pairwise_map]
    exact hd.imp fun {a b} hne (e : lb a = lb b) => hne (by rw [← bl_lb a, e, bl_lb])
  · intro s
    constructor
    · intro hs'
      obtain ⟨x, hx, rfl⟩ := List.mem_map.1 hs'
      rw [compact_mem] at hx
      obtain ⟨y, hy, rfl⟩ := List.mem_map.1 hx
      exact hy
    · intro hs'
      exact List.mem_map.2 ⟨bl s, (compact_mem _ _).2 (List.mem_map.2 ⟨s, hs', rfl⟩), lb_bl s⟩
  · have := (grownBy_sorted (w := w) (g := g) (n := q) (os := #[]) (Lib.compact (l.map bl) ++ List.replicate (l.length - (Lib.compact (l.map bl)).length) []).toArray)
    rw [show ∀ W : World, grow W #[] = W from fun W => by simp [grow]] at this
    exact (Kept.of_grown this).mono fun k _ e => by simpa using e

/-- slices.Clone. -/
theorem cloneS_any (v : Value) (ss : List BA) (w : World) (h : RdV w v ss) :
    Calls Tryd.prog 18 #[v] w fun e w' => ∃ v', e = .returned v' ∧ OS w' v' ss ∧ (∀ k, v'.ownBlock = some k → w.heap.size ≤ k) ∧ Below w.heap.size w w' := by
  obtain ⟨a, c, rfl, h1, h2, h3, h4, _, _⟩ := h
  have own : ∀ {w' : World} {v' : Value} {n : Nat} {xs : List Value}, w'.ownsRow w.heap.size 9 1 v' n xs → ∀ k, v'.ownBlock = some k → w.heap.size ≤ k := fun h k hk => (World.ownsRow.lt h k hk).1
  have weak : ∀ {w' : World} {v' : Value} {n : Nat} {xs : List Value}, w'.ownsRow w.heap.size 9 1 v' n xs → w'.ownsRow 0 9 1 v' n xs := by
    rintro w' v' n xs ⟨q1, q2⟩
    refine ⟨q1, ?_⟩
    rcases q2 with q2 | ⟨g, cap, cur, hv, hb, r⟩
    · exact .inl q2
    · exact .inr ⟨g, cap, cur, hv, Nat.zero_le _, r⟩
  cases a with
  | none =>
    have : ss = [] := by
      have := h1 rfl
      subst this
      exact List.length_eq_zero_iff.1 (by omega)
    subst this
    refine (Tryd.slices_Clone_string_nil _ _ w).mono ?_
    rintro e w' ⟨rfl, rfl⟩
    exact ⟨_, rfl, World.ownsRow_nil _ _ _ _, by simp [Value.ownBlock], Below.refl _ _⟩
  | some p =>
    by_cases h0 : ss = []
    · subst h0
      refine (Tryd.slices_Clone_string_zero p c w).mono ?_
      rintro e w' ⟨v', rfl, q1, _, q3⟩
      exact ⟨v', rfl, weak q1, own q1, q3⟩
    · have hpos : 0 < ss.length := List.length_pos_iff.2 h0
      obtain ⟨b, off, hb, _⟩ := h4 0 hpos
      cases hb
      refine (Tryd.slices_Clone_string b off ss.length c ss w (Nat.le_refl _) (by omega) ?_).mono ?_
      · intro j hj
        obtain ⟨b', off', hb', hc'⟩ := h4 j hj
        cases hb'
        rw [getD_at _ hj]
        exact hc'
      · rintro e w' ⟨v', rfl, q1, _, q3⟩
        rw [List.take_of_length_le (Nat.le_refl _)] at q1
        exact ⟨v', rfl, weak q1, own q1, q3⟩

theorem sortS_any (v : Value) (l : List BA) (w : World) (h : OS w v l) (hm : l.length ≤ 1000000000000) :
    Calls Tryd.prog 19 #[v] w fun e w' => e = .returned (.tuple #[]) ∧ ∃ l', OS w' v l' ∧ l'.Perm l ∧ Srt l' ∧ Kept (fun k => v.ownBlock = some k) w w' := by
  rcases h.2 with ⟨rfl, h0⟩ | ⟨g, cap, cur, rfl, _⟩
  · have : l = [] := List.length_eq_zero_iff.1 h0
    subst this
    refine (Tryd.slices_Sort_string_none none 0 w).mono ?_
    rintro e w' ⟨rfl, rfl⟩
    exact ⟨rfl, [], h, List.Perm.refl _, List.Pairwise.nil, Kept.refl _ _⟩
  · refine (sortS_some g _ cap l w h hm).mono ?_
    rintro e w' ⟨rfl, l', h1, h2, h3, h4⟩
    exact ⟨rfl, l', h1, h2, h3, h4.mono fun k _ e => by rw [e]; rfl⟩

theorem compactS_any (v : Value) (l : List BA) (w : World) (h : OS w v l) (hs : Srt l) :
    Calls Tryd.prog 20 #[v] w fun e w' => ∃ v' l', e = .returned v' ∧ OS w' v' l' ∧ l'.Nodup ∧ (∀ s, s ∈ l' ↔ s ∈ l) ∧ l'.length ≤ l.length ∧ Kept (fun k => v.ownBlock = some k) w w' ∧ (∀ k, v'.ownBlock = some k → v.ownBlock = some k) := by
  rcases h.2 with ⟨rfl, h0⟩ | ⟨g, cap, cur, rfl, _⟩
  · have : l = [] := List.length_eq_zero_iff.1 h0
    subst this
    refine (Tryd.slices_Compact_string_empty none 0 w).mono ?_
    rintro e w' ⟨rfl, rfl⟩
    exact ⟨_, [], rfl, h, List.nodup_nil, fun _ => Iff.rfl, Nat.le_refl _, Kept.refl _ _, fun _ h => h⟩
  · refine (compactS_some g _ cap l w h hs).mono ?_
    rintro e w' ⟨l', rfl, h1, h2, h3, h4, h5⟩
    exact ⟨_, l', rfl, h1, h2, h3, h4, h5.mono fun k _ e => by rw [e]; rfl, fun k e => e⟩
#print axioms compactS_some
end Go.Proofs.YteamkpmkchmhnaaDoor
