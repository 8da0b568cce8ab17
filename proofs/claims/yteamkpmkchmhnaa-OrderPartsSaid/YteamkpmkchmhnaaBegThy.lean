/- Plain: beginnings of the order of a closed set are closed, so is a past, so is the rest without a head. No program in sight. -/
import Derived.Test.YteamkpmkchmhnaaOnly
import Derived.Test.YteamkpmkchmhnaaPast
namespace Go.Proofs.Yteamkpmkchmhnaa

theorem onlyS_mem {S : List (Nd BA)} {m : List BA} {x : Nd BA} : x ∈ onlyS S m ↔ x ∈ S ∧ x.name ∈ m := by simp [onlyS, List.mem_filter]

theorem onlyS_nodup {S : List (Nd BA)} (m : List BA) (h : (names S).Nodup) : (names (onlyS S m)).Nodup := h.sublist ((List.filter_sublist).map _)

theorem onlyS_names {S : List (Nd BA)} {m : List BA} {s : BA} : s ∈ names (onlyS S m) ↔ s ∈ names S ∧ s ∈ m := by
  unfold names
  rw [List.mem_map, List.mem_map]
  constructor
  · rintro ⟨x, hx, rfl⟩
    have := onlyS_mem.1 hx
    exact ⟨⟨x, this.1, rfl⟩, this.2⟩
  · rintro ⟨⟨x, hx, rfl⟩, h⟩
    exact ⟨x, onlyS_mem.2 ⟨hx, h⟩, rfl⟩

/-- A closed set's order: what Linear gave. -/
structure Ordered (S : List (Nd BA)) (l : List BA) : Prop where
  nd : (names S).Nodup
  gr : Greedy ltB S l
  len : l.length = S.length

variable {S : List (Nd BA)} {l : List BA}

/-- A part that holds what it needs is found closed. -/
theorem Ordered.part (h : Ordered S l) {m : List BA} (hc : ∀ x ∈ S, x.name ∈ m → ∀ d ∈ x.deps, d ∈ m) {l' : List BA} {c : Nat} (k : LinRes ltB (onlyS S m) l' c) : c = 0 := by
  have hnd := onlyS_nodup m h.nd
  cases k with
  | twice h' => exact absurd hnd h'
  | ok => rfl
  | dep _ t hg hs hl =>
    exfalso
    have key : ∀ k, ∀ s ∈ l.take k, s ∈ m → s ∈ t := by
      intro k
      induction k with
      | zero => simp
      | succ k ih =>
        intro s hs' hm
        by_cases hk : k < l.length
        · rw [List.take_succ_eq_append_getElem hk] at hs'
          rcases List.mem_append.1 hs' with h1 | h1
          · exact ih s h1 hm
          · simp at h1
            subst h1
            obtain ⟨x, hx, hn⟩ := List.mem_map.1 (h.gr.mem (List.getElem_mem hk))
            rw [← hn] at hm
            refine Decidable.byContradiction fun hnot => hs x (onlyS_mem.2 ⟨hx, hm⟩) ⟨by rw [hn]; exact hnot, fun d hd => ih d ?_ (hc x hx hm d hd)⟩
            exact h.gr.deps h.nd hx (by rw [List.getElem?_eq_getElem hk, hn]) d hd
        · rw [List.take_of_length_le (by omega)] at hs'
          rw [List.take_of_length_le (by omega)] at ih
          exact ih s hs' hm
    have h1 := List.Nodup.length_le_of_subset (l₁ := names (onlyS S m)) (l₂ := t) hnd (fun s hs' => by
      have := onlyS_names.1 hs'
      exact key l.length s (by rw [List.take_of_length_le (Nat.le_refl _)]; exact h.gr.all h.len s this.1) this.2)
    simp [names] at h1
    omega

theorem Ordered.begin (h : Ordered S l) (n : Nat) : ∀ x ∈ S, x.name ∈ l.take n → ∀ d ∈ x.deps, d ∈ l.take n := by
  intro x hx hm d hd
  obtain ⟨k, hk, e⟩ := List.mem_take_iff_getElem.1 hm
  have := h.gr.deps h.nd hx (k := k) (by rw [List.getElem?_eq_getElem (by omega), e]) d hd
  obtain ⟨j, hj, e⟩ := List.mem_take_iff_getElem.1 this
  exact List.mem_take_iff_getElem.2 ⟨j, by omega, e⟩

theorem Ordered.named (h : Ordered S l) {x : Nd BA} (hx : x ∈ S) {d : BA} (hd : d ∈ x.deps) : d ∈ names S :=
  h.gr.mem (h.gr.deps' h.nd hx (h.gr.all h.len _ (List.mem_map.2 ⟨x, hx, rfl⟩)) d hd)

theorem Reach.snoc {s t d : BA} (h : Reach S s t) (hd : d ∈ depsOf S t) (hn : d ∈ names S) : Reach S s d := by
  induction h with
  | one h1 h2 => exact .step h1 h2 (.one hd hn)
  | step h1 h2 _ ih => exact .step h1 h2 (ih hd)

theorem Ordered.past (h : Ordered S l) {nm : BA} {m : List BA} (hm : ∀ s, s ∈ m ↔ Reach S nm s) : ∀ x ∈ S, x.name ∈ m → ∀ d ∈ x.deps, d ∈ m :=
  fun x hx hxm d hd => (hm d).2 (((hm x.name).1 hxm).snoc (mem_depsOf.2 ⟨x, hx, rfl, hd⟩) (h.named hx hd))

theorem Ordered.ahead (h : Ordered S l) {s t : BA} (r : Reach S s t) : ∀ k, l[k]? = some s → t ∈ l.take k := by
  have one : ∀ {s d : BA}, d ∈ depsOf S s → ∀ k, l[k]? = some s → d ∈ l.take k := by
    intro s d hd k hk
    obtain ⟨x, hx, rfl, hd2⟩ := mem_depsOf.1 hd
    exact h.gr.deps h.nd hx hk d hd2
  induction r with
  | one h1 _ => exact one h1
  | step h1 _ _ ih =>
    intro k hk
    obtain ⟨j, hj, e⟩ := List.mem_take_iff_getElem.1 (one h1 k hk)
    obtain ⟨i, hi, e'⟩ := List.mem_take_iff_getElem.1 (ih j (by rw [List.getElem?_eq_getElem (by omega), e]))
    exact List.mem_take_iff_getElem.2 ⟨i, by omega, e'⟩

theorem Ordered.notSelf (h : Ordered S l) {k : Nat} {nm : BA} (hk : l[k]? = some nm) : ¬ Reach S nm nm := by
  intro r
  obtain ⟨j, hj, e⟩ := List.mem_take_iff_getElem.1 (h.ahead r k hk)
  obtain ⟨hk', e'⟩ := List.getElem?_eq_some_iff.1 hk
  have := List.pairwise_iff_getElem.1 h.gr.nodup j k (by omega) hk' (by omega)
  exact this (by rw [e, e'])

theorem Ordered.rest (h : Ordered S l) {hd : BA} (hh : ∀ x ∈ S, hd ∉ x.deps) {m : List BA} (hm : ∀ s, s ∈ m ↔ s ∈ l ∧ s ≠ hd) : ∀ x ∈ S, x.name ∈ m → ∀ d ∈ x.deps, d ∈ m :=
  fun x hx hxm d hd' => (hm d).2 ⟨h.gr.deps' h.nd hx ((hm _).1 hxm).1 d hd', fun e => hh x hx (e ▸ hd')⟩

theorem Ordered.head (h : Ordered S l) (h0 : 0 < l.length) : ∃ s ∈ names S, ∀ x ∈ S, s ∉ x.deps := by
  refine ⟨l[l.length - 1], h.gr.mem (List.getElem_mem _), fun x hx hd => ?_⟩
  obtain ⟨k, hk, e⟩ := List.mem_iff_getElem.1 (h.gr.all h.len x.name (List.mem_map.2 ⟨x, hx, rfl⟩))
  have := h.gr.deps h.nd hx (k := k) (by rw [List.getElem?_eq_getElem hk, e]) _ hd
  obtain ⟨j, hj, e⟩ := List.mem_take_iff_getElem.1 this
  have := List.pairwise_iff_getElem.1 h.gr.nodup j (l.length - 1) (by omega) (by omega) (by omega)
  exact this e

theorem onlyS_len (hnd : (names S).Nodup) {m : List BA} (hn : m.Nodup) (hm : ∀ s ∈ m, s ∈ names S) : (onlyS S m).length = m.length := by
  have h1 := List.Nodup.length_le_of_subset (l₁ := names (onlyS S m)) (l₂ := m) (onlyS_nodup m hnd) (fun s hs => (onlyS_names.1 hs).2)
  have h2 := List.Nodup.length_le_of_subset (l₁ := m) (l₂ := names (onlyS S m)) hn (fun s hs => onlyS_names.2 ⟨hm s hs, hs⟩)
  simp [names] at h1 h2
  omega

/-- Go's reckoning of a place in a list. -/
theorem turn_lt (x : Int) (n : Nat) (h : 0 < n) : ∃ q : Nat, q < n ∧ (x.tmod n + n).tmod n = q := by
  have h1 : (x.tmod n).natAbs < n := by
    have := Int.natAbs_tmod x n
    rw [this]
    exact Nat.mod_lt _ (by simpa using h)
  have h0 : 0 ≤ x.tmod n + n := by omega
  refine ⟨((x.tmod n + n).tmod n).toNat, ?_, ?_⟩
  · have := Int.tmod_lt_of_pos (x.tmod n + n) (b := n) (by omega)
    omega
  · have := Int.tmod_nonneg (a := x.tmod n + n) n h0
    omega
#print axioms Ordered.rest
end Go.Proofs.Yteamkpmkchmhnaa
