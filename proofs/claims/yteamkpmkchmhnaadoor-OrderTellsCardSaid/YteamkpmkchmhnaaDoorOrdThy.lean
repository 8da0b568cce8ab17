/- Plain: a set of named things, each of which needs some; the order in which the least that is ready comes next. No program in sight. -/
import Derived.Test.YteamkpmkchmhnaaDoorHeapThy
namespace Go.Proofs.YteamkpmkchmhnaaDoor

structure Nd (α : Type) where
  name : α
  deps : List α

section
variable {α : Type} [DecidableEq α]

def names (S : List (Nd α)) : List α := S.map Nd.name

/-- It isn't told, and all that it needs is. -/
def rdy (told : List α) (x : Nd α) : Prop := x.name ∉ told ∧ ∀ d ∈ x.deps, d ∈ told

instance (told : List α) (x : Nd α) : Decidable (rdy told x) := by unfold rdy; infer_instance

def Greedy (lt : α → α → Bool) (S : List (Nd α)) (l : List α) : Prop :=
  ∀ k (h : k < l.length), (∃ x ∈ S, x.name = l[k] ∧ rdy (l.take k) x) ∧ ∀ y ∈ S, rdy (l.take k) y → lt y.name l[k] = false

def Stuck (S : List (Nd α)) (l : List α) : Prop := ∀ x ∈ S, ¬ rdy l x

/-- What Linear answers. -/
inductive LinRes (lt : α → α → Bool) (S : List (Nd α)) : List α → Nat → Prop
  | twice (h : ¬ (names S).Nodup) : LinRes lt S [] 12
  | dep (h : (names S).Nodup) (l : List α) (hg : Greedy lt S l) (hs : Stuck S l) (hl : l.length < S.length) : LinRes lt S [] 11
  | ok (h : (names S).Nodup) (l : List α) (hg : Greedy lt S l) (hl : l.length = S.length) : LinRes lt S l 0

variable {lt : α → α → Bool} {S : List (Nd α)} {l : List α}

omit [DecidableEq α] in
theorem Greedy.nil : Greedy lt S [] := fun k h => by simp at h

omit [DecidableEq α] in
theorem Greedy.snoc (h : Greedy lt S l) {s : α} (h1 : ∃ x ∈ S, x.name = s ∧ rdy l x) (h2 : ∀ y ∈ S, rdy l y → lt y.name s = false) : Greedy lt S (l ++ [s]) := by
  intro k hk
  by_cases e : k < l.length
  · rw [List.getElem_append_left e, List.take_append_of_le_length (by omega)]
    exact h k e
  · have : k = l.length := by simp at hk; omega
    subst this
    simpa using ⟨h1, h2⟩

omit [DecidableEq α] in
theorem Greedy.mem (h : Greedy lt S l) {s : α} (hs : s ∈ l) : s ∈ names S := by
  obtain ⟨k, hk, rfl⟩ := List.mem_iff_getElem.1 hs
  obtain ⟨⟨x, hx, hn, _⟩, _⟩ := h k hk
  exact List.mem_map.2 ⟨x, hx, hn⟩

omit [DecidableEq α] in
theorem Greedy.nodup (h : Greedy lt S l) : l.Nodup := by
  rw [List.Nodup, List.pairwise_iff_getElem]
  intro i j hi hj hij e
  obtain ⟨⟨x, _, hn, hr, _⟩, _⟩ := h j hj
  apply hr
  rw [hn, ← e]
  exact List.mem_take_iff_getElem.2 ⟨i, by omega, rfl⟩

omit [DecidableEq α] in
theorem Greedy.le (h : Greedy lt S l) : l.length ≤ S.length := by
  have := List.Nodup.length_le_of_subset h.nodup (fun s hs => h.mem hs)
  simpa [names] using this

omit [DecidableEq α] in
theorem name_inj (hnd : (names S).Nodup) {x y : Nd α} (hx : x ∈ S) (hy : y ∈ S) (h : x.name = y.name) : x = y := by
  obtain ⟨i, hi, rfl⟩ := List.mem_iff_getElem.1 hx
  obtain ⟨j, hj, rfl⟩ := List.mem_iff_getElem.1 hy
  have hp := List.pairwise_iff_getElem.1 hnd
  rcases Nat.lt_trichotomy i j with e | e | e
  · have := hp i j (by simpa [names] using hi) (by simpa [names] using hj) e
    simp [names, h] at this
  · subst e
    rfl
  · have := hp j i (by simpa [names] using hj) (by simpa [names] using hi) e
    simp [names, h] at this

omit [DecidableEq α] in
/-- Of what is told all that it needs is told ahead of it. -/
theorem Greedy.deps (h : Greedy lt S l) (hnd : (names S).Nodup) {x : Nd α} (hx : x ∈ S) {k : Nat} (hk : l[k]? = some x.name) : ∀ d ∈ x.deps, d ∈ l.take k := by
  obtain ⟨hk', e⟩ := List.getElem?_eq_some_iff.1 hk
  obtain ⟨⟨y, hy, hn, _, hd⟩, _⟩ := h k hk'
  have : y = x := name_inj hnd hy hx (by rw [hn, e])
  subst this
  exact hd

omit [DecidableEq α] in
theorem Greedy.deps' (h : Greedy lt S l) (hnd : (names S).Nodup) {x : Nd α} (hx : x ∈ S) (hm : x.name ∈ l) : ∀ d ∈ x.deps, d ∈ l := by
  obtain ⟨k, hk, e⟩ := List.mem_iff_getElem.1 hm
  intro d hd
  exact List.mem_of_mem_take (h.deps hnd hx (k := k) (by rw [List.getElem?_eq_getElem hk, e]) d hd)

theorem Greedy.all (h : Greedy lt S l) (hl : l.length = S.length) : ∀ s ∈ names S, s ∈ l := by
  intro s hs
  exact Decidable.byContradiction fun hn => by
    have h1 := List.Nodup.length_le_of_subset (l₁ := s :: l) (l₂ := names S) (List.nodup_cons.2 ⟨hn, h.nodup⟩) (by
      intro t ht
      rcases List.mem_cons.1 ht with rfl | ht
      · exact hs
      · exact h.mem ht)
    simp [names] at h1
    omega

/-- All are told: none is ready. -/
theorem Greedy.stuck (h : Greedy lt S l) (hl : l.length = S.length) : Stuck S l := fun x hx hr => hr.1 (h.all hl _ (List.mem_map.2 ⟨x, hx, rfl⟩))

/-- There is one such order. -/
theorem Greedy.unique (L : LO lt) {l m : List α} (hl : Greedy lt S l) (hm : Greedy lt S m) (sl : Stuck S l) (sm : Stuck S m) : l = m := by
  have step : ∀ k, l.take k = m.take k := by
    intro k
    induction k with
    | zero => simp
    | succ k ih =>
      by_cases h1 : k < l.length
      · by_cases h2 : k < m.length
        · obtain ⟨⟨x, hx, hn, hr⟩, h3⟩ := hl k h1
          obtain ⟨⟨y, hy, hn', hr'⟩, h4⟩ := hm k h2
          have e1 := h3 y hy (ih ▸ hr')
          have e2 := h4 x hx (ih ▸ hr)
          rw [hn'] at e1
          rw [hn] at e2
          have : l[k] = m[k] := Decidable.byContradiction fun e => by
            rcases L.total e with h | h
            · rw [h] at e2; cases e2
            · rw [h] at e1; cases e1
          rw [List.take_succ_eq_append_getElem h1, List.take_succ_eq_append_getElem h2, ih, this]
        · obtain ⟨⟨x, hx, hn, hr⟩, _⟩ := hl k h1
          rw [ih, List.take_of_length_le (by omega)] at hr
          exact absurd hr (sm x hx)
      · by_cases h2 : k < m.length
        · obtain ⟨⟨x, hx, hn, hr⟩, _⟩ := hm k h2
          rw [← ih, List.take_of_length_le (by omega)] at hr
          exact absurd hr (sl x hx)
        · have : ∀ {q : List α}, ¬ k < q.length → q.take (k + 1) = q.take k := fun h => by rw [List.take_of_length_le (by omega), List.take_of_length_le (by omega)]
          rw [this h1, this h2, ih]
  have := step (l.length + m.length)
  rwa [List.take_of_length_le (by omega), List.take_of_length_le (by omega)] at this

theorem LinRes.unique (L : LO lt) {l m : List α} {c d : Nat} (h : LinRes lt S l c) (k : LinRes lt S m d) : l = m ∧ c = d := by
  cases h with
  | twice h =>
    cases k with
    | twice _ => exact ⟨rfl, rfl⟩
    | dep h' => exact absurd h' h
    | ok h' => exact absurd h' h
  | dep h l' hg hs hl =>
    cases k with
    | twice h' => exact absurd h h'
    | dep _ _ _ _ _ => exact ⟨rfl, rfl⟩
    | ok _ _ hg' hl' =>
      have := Greedy.unique L hg hg' hs (hg'.stuck hl')
      subst this
      omega
  | ok h _ hg hl =>
    cases k with
    | twice h' => exact absurd h h'
    | dep _ l' hg' hs' hl' =>
      have := Greedy.unique L hg hg' (hg.stuck hl) hs'
      subst this
      omega
    | ok _ _ hg' hl' => exact ⟨Greedy.unique L hg hg' (hg.stuck hl) (hg'.stuck hl'), rfl⟩

/-- An order of all, in which each stands behind all that it needs. -/
def Topo (S : List (Nd α)) (l : List α) : Prop := l.Perm (names S) ∧ ∀ x ∈ S, ∀ k, l[k]? = some x.name → ∀ d ∈ x.deps, d ∈ l.take k

theorem Greedy.topo (hg : Greedy lt S l) (h : (names S).Nodup) (hl : l.length = S.length) : Topo S l := by
  refine ⟨?_, fun x hx k hk => hg.deps h hx hk⟩
  exact (List.perm_ext_iff_of_nodup hg.nodup h).2 fun s => ⟨fun hs => hg.mem hs, fun hs => hg.all hl s hs⟩

/-- Where there is such an order Linear finds one. -/
theorem Topo.code {t : List α} (ht : Topo S t) (h : (names S).Nodup) {m : List α} {c : Nat} (k : LinRes lt S m c) : c = 0 := by
  cases k with
  | twice h' => exact absurd h h'
  | ok => rfl
  | dep _ l hg hs hl =>
    exfalso
    have key : ∀ k, ∀ s ∈ t.take k, s ∈ l := by
      intro k
      induction k with
      | zero => simp
      | succ k ih =>
        intro s hs'
        by_cases hk : k < t.length
        · rw [List.take_succ_eq_append_getElem hk] at hs'
          rcases List.mem_append.1 hs' with h1 | h1
          · exact ih s h1
          · simp at h1
            subst h1
            obtain ⟨x, hx, hn⟩ := List.mem_map.1 (ht.1.mem_iff.1 (List.getElem_mem hk))
            refine Decidable.byContradiction fun hnot => hs x hx ⟨by rw [hn]; exact hnot, fun d hd => ih d ?_⟩
            exact ht.2 x hx k (by rw [List.getElem?_eq_getElem hk, hn]) d hd
        · rw [List.take_of_length_le (by omega)] at hs'
          rw [List.take_of_length_le (by omega)] at ih
          exact ih s hs'
    have h1 := List.Nodup.length_le_of_subset (l₁ := names S) (l₂ := l) h (fun s hs' => key t.length s (by rw [List.take_of_length_le (by omega)]; exact ht.1.mem_iff.2 hs'))
    simp [names] at h1
    omega
end
#print axioms LinRes.unique
#print axioms Topo.code
end Go.Proofs.YteamkpmkchmhnaaDoor
