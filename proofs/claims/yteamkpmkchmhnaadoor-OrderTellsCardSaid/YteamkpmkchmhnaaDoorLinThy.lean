/- What order.Linear keeps: how many each waits for, who uses whom, what is ready. No walk here. -/
import Derived.Test.YteamkpmkchmhnaaDoorHeapPP
import Derived.Test.YteamkpmkchmhnaaDoorMp
import Derived.Test.YteamkpmkchmhnaaDoorStrs
import Derived.Test.YteamkpmkchmhnaaDoorNamed
namespace Go.Proofs.YteamkpmkchmhnaaDoor
open Go.RowKit Go.Maps Go.WideMaps

/-! ### plain -/
section
variable {α : Type} [DecidableEq α]

/-- Each once. -/
def dd : List α → List α
  | [] => []
  | a :: r => if a ∈ dd r then dd r else a :: dd r

theorem mem_dd (l : List α) (x : α) : x ∈ dd l ↔ x ∈ l := by
  induction l with
  | nil => simp [dd]
  | cons a r ih =>
    unfold dd
    split
    · rename_i h
      rw [ih, List.mem_cons]
      constructor
      · exact .inr
      · rintro (rfl | h')
        · exact ih.1 h
        · exact h'
    · rw [List.mem_cons, List.mem_cons, ih]

theorem nodup_dd (l : List α) : (dd l).Nodup := by
  induction l with
  | nil => simp [dd]
  | cons a r ih =>
    unfold dd
    split
    · exact ih
    · rename_i h
      exact List.nodup_cons.2 ⟨h, ih⟩

theorem length_dd_le (l : List α) : (dd l).length ≤ l.length := by
  induction l with
  | nil => simp [dd]
  | cons a r ih =>
    unfold dd
    split
    · simp; omega
    · simp; omega

theorem length_dd_eq {l m : List α} (hm : m.Nodup) (h : ∀ x, x ∈ m ↔ x ∈ l) : m.length = (dd l).length :=
  ((List.perm_ext_iff_of_nodup hm (nodup_dd l)).2 fun x => by rw [h, mem_dd]).length_eq

/-- For how many it still waits. -/
def cnt (l : List α) (x : Nd α) : Nat := ((dd x.deps).filter fun d => decide (d ∉ l)).length

theorem cnt_zero (l : List α) (x : Nd α) : cnt l x = 0 ↔ ∀ d ∈ x.deps, d ∈ l := by
  unfold cnt
  rw [List.length_eq_zero_iff, List.filter_eq_nil_iff]
  constructor
  · intro h d hd
    have := h d ((mem_dd _ _).2 hd)
    simpa using this
  · intro h d hd
    simpa using h d ((mem_dd _ _).1 hd)

theorem cnt_nil (x : Nd α) : cnt [] x = (dd x.deps).length := by
  unfold cnt
  rw [List.filter_eq_self.2 (by simp)]

theorem filter_erase {l : List α} (hl : l.Nodup) (p : α → Bool) {s : α} (hs : s ∈ l) (hp : p s = true) : (l.filter fun d => p d && decide (d ≠ s)).length + 1 = (l.filter p).length := by
  induction l with
  | nil => cases hs
  | cons a r ih =>
    obtain ⟨h1, h2⟩ := List.nodup_cons.1 hl
    by_cases e : s = a
    · subst e
      have : r.filter (fun d => p d && decide (d ≠ s)) = r.filter p := List.filter_congr fun d hd => by
        have : d ≠ s := fun e => h1 (e ▸ hd)
        simp [this]
      rw [List.filter_cons, List.filter_cons, if_pos hp, if_neg (by simp), this]
      rfl
    · have hs' : s ∈ r := by
        rcases List.mem_cons.1 hs with h | h
        · exact absurd h e
        · exact h
      have := ih h2 hs'
      rw [List.filter_cons, List.filter_cons]
      by_cases hpa : p a = true
      · rw [if_pos hpa, if_pos (by simp [hpa, Ne.symm e])]
        simp only [List.length_cons]
        omega
      · rw [if_neg hpa, if_neg (by simp [hpa])]
        exact this

theorem cnt_snoc_mem {l : List α} {s : α} {x : Nd α} (hs : s ∉ l) (hd : s ∈ x.deps) : cnt (l ++ [s]) x + 1 = cnt l x := by
  unfold cnt
  rw [← filter_erase (nodup_dd x.deps) (fun d => decide (d ∉ l)) ((mem_dd _ _).2 hd) (by simpa using hs)]
  congr 2
  refine List.filter_congr fun d _ => ?_
  simp [Bool.and_comm, and_comm]

theorem cnt_snoc_not {l : List α} {s : α} {x : Nd α} (hd : s ∉ x.deps) : cnt (l ++ [s]) x = cnt l x := by
  unfold cnt
  congr 1
  refine List.filter_congr fun d hd' => ?_
  have : d ≠ s := fun e => hd (e ▸ (mem_dd _ _).1 hd')
  simp [this]

/-- Who needs it. -/
def users (S : List (Nd α)) (d : α) : List α := names (S.filter fun x => decide (d ∈ x.deps))

theorem mem_users {S : List (Nd α)} {d s : α} : s ∈ users S d ↔ ∃ x ∈ S, x.name = s ∧ d ∈ x.deps := by
  simp only [users, names, List.mem_map, List.mem_filter, decide_eq_true_eq]
  constructor
  · rintro ⟨x, ⟨h1, h2⟩, h3⟩
    exact ⟨x, h1, h3, h2⟩
  · rintro ⟨x, h1, h3, h2⟩
    exact ⟨x, ⟨h1, h2⟩, h3⟩

theorem nodup_users {S : List (Nd α)} (h : (names S).Nodup) (d : α) : (users S d).Nodup := h.sublist (List.filter_sublist.map _)

/-- What is ready when l is told, but for those users of s from place j on. -/
def Rd (S : List (Nd α)) (l : List α) (s : α) (j : Nat) (h : List α) : Prop :=
  h.Nodup ∧ ∀ t, t ∈ h ↔ ∃ x ∈ S, x.name = t ∧ rdy (l ++ [s]) x ∧ (s ∉ x.deps ∨ t ∈ (users S s).take j)

/-- What is ready when l is told. -/
def Rd0 (S : List (Nd α)) (l : List α) (h : List α) : Prop := h.Nodup ∧ ∀ t, t ∈ h ↔ ∃ x ∈ S, x.name = t ∧ rdy l x

theorem Rd0.pop {S : List (Nd α)} {l h h' : List α} {s : α} (hr : Rd0 S l h) (hp : h.Perm (s :: h')) : Rd S l s 0 h' := by
  obtain ⟨h1, h2⟩ := hr
  have hnd := (hp.nodup_iff.1 h1)
  obtain ⟨n1, n2⟩ := List.nodup_cons.1 hnd
  obtain ⟨x0, hx0, e0, hx0r⟩ := (h2 s).1 (hp.mem_iff.2 (by simp))
  refine ⟨n2, fun t => ?_⟩
  constructor
  · intro ht
    obtain ⟨x, hx, rfl, hr⟩ := (h2 t).1 (hp.mem_iff.2 (by simp [ht]))
    refine ⟨x, hx, rfl, ⟨?_, fun d hd => by simp [hr.2 d hd]⟩, .inl fun hs => ?_⟩
    · simp only [List.mem_append, List.mem_singleton, not_or]
      exact ⟨hr.1, fun e => n1 (e ▸ ht)⟩
    · exact hx0r.1 (e0 ▸ hr.2 s hs)
  · rintro ⟨x, hx, rfl, ⟨hr1, hr2⟩, hs⟩
    have hs' : s ∉ x.deps := by
      rcases hs with hs | hs
      · exact hs
      · simp at hs
    simp only [List.mem_append, List.mem_singleton, not_or] at hr1
    have : x.name ∈ s :: h' := hp.mem_iff.1 ((h2 x.name).2 ⟨x, hx, rfl, hr1.1, fun d hd => by
      have := hr2 d hd
      simp only [List.mem_append, List.mem_singleton] at this
      rcases this with h | h
      · exact h
      · exact absurd (h ▸ hd) hs'⟩)
    rcases List.mem_cons.1 this with h | h
    · exact absurd h hr1.2
    · exact h

theorem Rd.last {S : List (Nd α)} {l h : List α} {s : α} (hr : Rd S l s (users S s).length h) : Rd0 S (l ++ [s]) h := by
  refine ⟨hr.1, fun t => ?_⟩
  rw [hr.2 t]
  constructor
  · rintro ⟨x, hx, e, h1, _⟩
    exact ⟨x, hx, e, h1⟩
  · rintro ⟨x, hx, rfl, h1⟩
    refine ⟨x, hx, rfl, h1, ?_⟩
    by_cases hs : s ∈ x.deps
    · right
      rw [List.take_of_length_le (Nat.le_refl _)]
      exact mem_users.2 ⟨x, hx, rfl, hs⟩
    · exact .inl hs

/-- The next user isn't ready. -/
theorem Rd.skip {S : List (Nd α)} (hS : (names S).Nodup) {l h : List α} {s : α} {j : Nat} {y : Nd α} (hr : Rd S l s j h) (hy : y ∈ S) (hu : (users S s)[j]? = some y.name) (hc : cnt (l ++ [s]) y ≠ 0) : Rd S l s (j + 1) h := by
  refine ⟨hr.1, fun t => ?_⟩
  rw [hr.2 t]
  obtain ⟨hj, e⟩ := List.getElem?_eq_some_iff.1 hu
  rw [List.take_succ_eq_append_getElem hj, e]
  constructor
  · rintro ⟨x, hx, e, h1, h2⟩
    refine ⟨x, hx, e, h1, h2.imp id fun h => ?_⟩
    simp [h]
  · rintro ⟨x, hx, e, h1, h2⟩
    refine ⟨x, hx, e, h1, h2.imp id fun h => ?_⟩
    rcases List.mem_append.1 h with h | h
    · exact h
    · simp only [List.mem_singleton] at h
      have := name_inj hS hx hy (e.trans h)
      subst this
      exact absurd ((cnt_zero _ _).2 h1.2) hc

/-- The next user is ready. -/
theorem Rd.push {lt : α → α → Bool} {S : List (Nd α)} (hS : (names S).Nodup) {l h h' : List α} {s : α} {j : Nat} {y : Nd α} (hg : Greedy lt S (l ++ [s])) (hr : Rd S l s j h) (hy : y ∈ S) (hu : (users S s)[j]? = some y.name) (hc : cnt (l ++ [s]) y = 0)
    (hp : h'.Perm (y.name :: h)) : Rd S l s (j + 1) h' := by
  obtain ⟨hj, e⟩ := List.getElem?_eq_some_iff.1 hu
  have hun := nodup_users hS s
  have hnt : y.name ∉ (users S s).take j := by
    intro hm
    obtain ⟨i, hi, e2⟩ := List.mem_take_iff_getElem.1 hm
    have := List.pairwise_iff_getElem.1 hun i j (by omega) hj (by omega)
    exact this (e2.trans e.symm)
  obtain ⟨x0, hx0, e0, hd0⟩ := mem_users.1 (e ▸ List.getElem_mem hj)
  have := name_inj hS hx0 hy e0
  subst this
  have hnl : x0.name ∉ l ++ [s] := by
    intro hm
    have hsl : s ∉ l := by
      have := hg.nodup
      rw [List.nodup_append] at this
      exact fun h => (this.2.2 s h s (by simp)) rfl
    obtain ⟨k, hk, ek⟩ := List.mem_iff_getElem.1 hm
    have h1 := hg.deps hS hy (k := k) (by rw [List.getElem?_eq_getElem hk, ek]) s hd0
    have hk' : k ≤ l.length := by simp at hk; omega
    rw [List.take_append_of_le_length hk'] at h1
    exact hsl (List.mem_of_mem_take h1)
  have hnh : x0.name ∉ h := by
    intro hm
    obtain ⟨x, hx, ex, _, h2⟩ := (hr.2 _).1 hm
    have := name_inj hS hx hy ex
    subst this
    rcases h2 with h2 | h2
    · exact h2 hd0
    · exact hnt h2
  refine ⟨hp.nodup_iff.2 (List.nodup_cons.2 ⟨hnh, hr.1⟩), fun t => ?_⟩
  rw [hp.mem_iff, List.mem_cons, hr.2 t, List.take_succ_eq_append_getElem hj, e]
  constructor
  · rintro (rfl | ⟨x, hx, ex, h1, h2⟩)
    · exact ⟨x0, hy, rfl, ⟨hnl, (cnt_zero _ _).1 hc⟩, .inr (by simp)⟩
    · refine ⟨x, hx, ex, h1, h2.imp id fun h => ?_⟩
      simp [h]
  · rintro ⟨x, hx, ex, h1, h2⟩
    rcases h2 with h2 | h2
    · exact .inr ⟨x, hx, ex, h1, .inl h2⟩
    · rcases List.mem_append.1 h2 with h2 | h2
      · exact .inr ⟨x, hx, ex, h1, .inr h2⟩
      · simp only [List.mem_singleton] at h2
        exact .inl h2

omit [DecidableEq α] in
theorem Rd0.le {S : List (Nd α)} {l h : List α} (hr : Rd0 S l h) : h.length ≤ S.length := by
  have := List.Nodup.length_le_of_subset (l₂ := names S) hr.1 (fun t ht => by
    obtain ⟨x, hx, e, _⟩ := (hr.2 t).1 ht
    exact List.mem_map.2 ⟨x, hx, e⟩)
  simpa [names] using this

theorem Rd.le {S : List (Nd α)} {l h : List α} {s : α} {j : Nat} (hr : Rd S l s j h) : h.length ≤ S.length := by
  have := List.Nodup.length_le_of_subset (l₂ := names S) hr.1 (fun t ht => by
    obtain ⟨x, hx, e, _⟩ := (hr.2 t).1 ht
    exact List.mem_map.2 ⟨x, hx, e⟩)
  simpa [names] using this
end
#print axioms Rd.push
end Go.Proofs.YteamkpmkchmhnaaDoor
