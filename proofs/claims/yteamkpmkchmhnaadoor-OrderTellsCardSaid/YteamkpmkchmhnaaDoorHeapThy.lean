/- Plain: a heap in a list, as container/heap sifts it. No program in sight. -/
namespace Go.Proofs.YteamkpmkchmhnaaDoor

/-- A strict order among which any two that differ can be told. -/
structure LO {α : Type} (lt : α → α → Bool) : Prop where
  irr : ∀ a, lt a a = false
  trans : ∀ {a b c}, lt a b = true → lt b c = true → lt a c = true
  total : ∀ {a b}, a ≠ b → lt a b = true ∨ lt b a = true

section
variable {α : Type} {lt : α → α → Bool} (L : LO lt) (d : α)
include L

theorem LO.asymm {a b : α} (h : lt a b = true) : lt b a = false := by
  cases h' : lt b a
  · rfl
  · have := L.trans h h'
    rw [L.irr] at this
    cases this

/-- 'not less' is transitive. -/
theorem LO.ge_trans {a b c : α} (h : lt a b = false) (k : lt b c = false) : lt a c = false := by
  cases h' : lt a c
  · rfl
  · by_cases e : a = b
    · subst e
      rw [h'] at k
      cases k
    · rcases L.total e with h1 | h1
      · rw [h1] at h
        cases h
      · have := L.trans h1 h'
        rw [this] at k
        cases k

theorem LO.ge_of_lt {a b : α} (h : lt a b = true) : lt b a = false := L.asymm h
end

section
variable {α : Type} (d : α)

theorem getD_at {l : List α} {k : Nat} (h : k < l.length) : l.getD k d = l[k] := by simp [List.getD_eq_getElem?_getD, h]

def swpD (l : List α) (i j : Nat) : List α := (l.set i (l.getD j d)).set j (l.getD i d)

theorem swpD_length (l : List α) (i j : Nat) : (swpD d l i j).length = l.length := by simp [swpD]

theorem getD_swpD {l : List α} {i j : Nat} (hi : i < l.length) (hj : j < l.length) (k : Nat) : (swpD d l i j).getD k d = if k = j then l.getD i d else if k = i then l.getD j d else l.getD k d := by
  unfold swpD
  simp only [List.getD_eq_getElem?_getD, List.getElem?_set]
  by_cases h1 : k = j
  · subst h1
    simp [hj]
  · by_cases h2 : k = i
    · subst h2
      simp [h1, Ne.symm h1, hi]
    · simp [h1, h2, Ne.symm h1, Ne.symm h2]

theorem swpD_perm {l : List α} {i j : Nat} (hi : i < l.length) (hj : j < l.length) : (swpD d l i j).Perm l := by
  unfold swpD
  rw [getD_at d hi, getD_at d hj]
  exact List.set_set_perm hi hj

variable {lt : α → α → Bool}

def IsHeap (lt : α → α → Bool) (l : List α) (n : Nat) : Prop := ∀ k, 0 < k → k < n → lt (l.getD k d) (l.getD ((k - 1) / 2) d) = false

/-- All is right but what stands at j against what is ahead of it. -/
def UpInv (lt : α → α → Bool) (l : List α) (j n : Nat) : Prop :=
  (∀ k, 0 < k → k < n → k ≠ j → lt (l.getD k d) (l.getD ((k - 1) / 2) d) = false) ∧
  (∀ k, 0 < k → k < n → (k - 1) / 2 = j → 0 < j → lt (l.getD k d) (l.getD ((j - 1) / 2) d) = false)

/-- All is right but what stands at i against what is behind it. -/
def DownInv (lt : α → α → Bool) (l : List α) (i n : Nat) : Prop :=
  (∀ k, 0 < k → k < n → (k - 1) / 2 ≠ i → lt (l.getD k d) (l.getD ((k - 1) / 2) d) = false) ∧
  (∀ k, 0 < k → k < n → (k - 1) / 2 = i → 0 < i → lt (l.getD k d) (l.getD ((i - 1) / 2) d) = false)

variable (L : LO lt)
include L

theorem IsHeap.least {l : List α} {n : Nat} (h : IsHeap d lt l n) : ∀ k, k < n → lt (l.getD k d) (l.getD 0 d) = false := by
  intro k
  induction k using Nat.strongRecOn with
  | _ k ih =>
    intro hk
    by_cases h0 : k = 0
    · subst h0
      exact L.irr _
    · exact L.ge_trans (h k (by omega) hk) (ih ((k - 1) / 2) (by omega) (by omega))

omit L in
theorem upInv_start {l : List α} {n : Nat} (h : IsHeap d lt l n) (x : α) (hn : n = l.length) : UpInv d lt (l ++ [x]) n (n + 1) := by
  subst hn
  have e : ∀ k, k < l.length → (l ++ [x]).getD k d = l.getD k d := fun k hk => by
    simp [List.getD_eq_getElem?_getD, List.getElem?_append_left hk]
  constructor
  · intro k h0 hk hne
    rw [e k (by omega), e _ (by omega)]
    exact h k h0 (by omega)
  · intro k h0 hk hp
    omega

omit L in
theorem upInv_end0 {l : List α} {n : Nat} (h : UpInv d lt l 0 n) : IsHeap d lt l n := fun k h0 hk => h.1 k h0 hk (by omega)

omit L in
theorem upInv_end {l : List α} {j n : Nat} (h : UpInv d lt l j n) (hj : lt (l.getD j d) (l.getD ((j - 1) / 2) d) = false) : IsHeap d lt l n := fun k h0 hk => by
  by_cases e : k = j
  · subst e
    exact hj
  · exact h.1 k h0 hk e

theorem upInv_step {l : List α} {j n : Nat} (h : UpInv d lt l j n) (h0 : 0 < j) (hj : j < n) (hn : n ≤ l.length) (hlt : lt (l.getD j d) (l.getD ((j - 1) / 2) d) = true) :
    UpInv d lt (swpD d l ((j - 1) / 2) j) ((j - 1) / 2) n := by
  have hi : (j - 1) / 2 < l.length := by omega
  have hj' : j < l.length := by omega
  constructor
  · intro k k0 kn kne
    rw [getD_swpD d hi hj', getD_swpD d hi hj']
    by_cases e1 : k = j
    · subst e1
      rw [if_pos rfl, if_neg (by omega), if_pos rfl]
      exact L.asymm hlt
    · rw [if_neg e1, if_neg kne]
      by_cases e2 : (k - 1) / 2 = j
      · rw [if_pos e2]
        have := h.2 k k0 kn e2 h0
        exact this
      · rw [if_neg e2]
        by_cases e3 : (k - 1) / 2 = (j - 1) / 2
        · rw [if_pos e3]
          have h1 := h.1 k k0 kn e1
          rw [e3] at h1
          exact L.ge_trans h1 (L.asymm hlt)
        · rw [if_neg e3]
          exact h.1 k k0 kn e1
  · intro k k0 kn kp i0
    rw [getD_swpD d hi hj', getD_swpD d hi hj']
    have hpp : lt (l.getD ((j - 1) / 2) d) (l.getD (((j - 1) / 2 - 1) / 2) d) = false := h.1 _ i0 (by omega) (by omega)
    rw [if_neg (show ¬ ((j - 1) / 2 - 1) / 2 = j by omega), if_neg (show ¬ ((j - 1) / 2 - 1) / 2 = (j - 1) / 2 by omega)]
    by_cases e1 : k = j
    · rw [if_pos e1]
      exact hpp
    · rw [if_neg e1, if_neg (by omega)]
      have h1 := h.1 k k0 kn e1
      rw [kp] at h1
      exact L.ge_trans h1 hpp

omit L in
theorem downInv_end0 {l : List α} {i n : Nat} (h : DownInv d lt l i n) (hn : n ≤ 2 * i + 1) : IsHeap d lt l n := fun k h0 hk => h.1 k h0 hk (by omega)

/-- j: the lesser of what is behind i. -/
theorem downInv_end {l : List α} {i j n : Nat} (h : DownInv d lt l i n) (hmin : ∀ c, 0 < c → c < n → (c - 1) / 2 = i → lt (l.getD c d) (l.getD j d) = false) (hj : lt (l.getD j d) (l.getD i d) = false) : IsHeap d lt l n := fun k h0 hk => by
  by_cases e : (k - 1) / 2 = i
  · rw [e]
    exact L.ge_trans (hmin k h0 hk e) hj
  · exact h.1 k h0 hk e

theorem downInv_step {l : List α} {i j n : Nat} (h : DownInv d lt l i n) (hp : (j - 1) / 2 = i) (h0 : 0 < j) (hj : j < n) (hn : n ≤ l.length)
    (hmin : ∀ c, 0 < c → c < n → (c - 1) / 2 = i → lt (l.getD c d) (l.getD j d) = false) (hlt : lt (l.getD j d) (l.getD i d) = true) :
    DownInv d lt (swpD d l i j) j n := by
  have hi : i < l.length := by omega
  have hj' : j < l.length := by omega
  constructor
  · intro k k0 kn kne
    rw [getD_swpD d hi hj', getD_swpD d hi hj']
    by_cases e1 : k = j
    · subst e1
      rw [if_pos rfl, if_neg kne, if_pos hp]
      exact L.asymm hlt
    · rw [if_neg e1, if_neg kne]
      by_cases e2 : k = i
      · subst e2
        rw [if_pos rfl, if_neg (by omega)]
        exact h.2 j h0 hj hp k0
      · rw [if_neg e2]
        by_cases e3 : (k - 1) / 2 = i
        · rw [if_pos e3]
          exact hmin k k0 kn e3
        · rw [if_neg e3]
          exact h.1 k k0 kn e3
  · intro k k0 kn kp j0
    rw [getD_swpD d hi hj', getD_swpD d hi hj', hp]
    rw [if_neg (show ¬ k = j by omega), if_neg (show ¬ k = i by omega), if_neg (show ¬ i = j by omega), if_pos rfl]
    have := h.1 k k0 kn (by omega)
    rw [kp] at this
    exact this

omit L in
theorem downInv_start {l : List α} {n : Nat} (h : IsHeap d lt l (n + 1)) (hn : n + 1 = l.length) : DownInv d lt (swpD d l 0 n) 0 n := by
  constructor
  · intro k k0 kn kne
    rw [getD_swpD d (by omega) (by omega), getD_swpD d (by omega) (by omega)]
    rw [if_neg (by omega), if_neg (by omega), if_neg (by omega), if_neg (by omega)]
    exact h k k0 (by omega)
  · intro k _ _ _ h0
    omega
end
#print axioms upInv_step
#print axioms downInv_step
end Go.Proofs.YteamkpmkchmhnaaDoor
