/- Plain: all that a name leads to, as a walk in depth finds it. No program in sight. -/
import Derived.Test.YteamkpmkchmhnaaDoorLinThy
namespace Go.Proofs.YteamkpmkchmhnaaDoor

section
variable {α : Type} [DecidableEq α]

/-- What all patches of a name need. -/
def depsOf (S : List (Nd α)) (s : α) : List α := (S.filter fun x => decide (x.name = s)).flatMap Nd.deps

theorem mem_depsOf {S : List (Nd α)} {s d : α} : d ∈ depsOf S s ↔ ∃ x ∈ S, x.name = s ∧ d ∈ x.deps := by
  simp only [depsOf, List.mem_flatMap, List.mem_filter, decide_eq_true_eq]
  constructor
  · rintro ⟨x, ⟨h1, h2⟩, h3⟩
    exact ⟨x, h1, h2, h3⟩
  · rintro ⟨x, h1, h2, h3⟩
    exact ⟨x, ⟨h1, h2⟩, h3⟩

theorem depsOf_step {S : List (Nd α)} {k : Nat} {y : Nd α} (hy : S[k]? = some y) : (fun x => if x = y.name then depsOf (S.take k) y.name ++ y.deps else depsOf (S.take k) x) = depsOf (S.take (k + 1)) := by
  obtain ⟨hk, rfl⟩ := List.getElem?_eq_some_iff.1 hy
  funext x
  have e : depsOf (S.take (k + 1)) x = depsOf (S.take k) x ++ if x = S[k].name then S[k].deps else [] := by
    unfold depsOf
    rw [List.take_succ_eq_append_getElem hk, List.filter_append, List.flatMap_append]
    congr 1
    by_cases h : x = S[k].name
    · rw [if_pos h]
      simp [h]
    · rw [if_neg h]
      simp [Ne.symm h]
  rw [e]
  by_cases h : x = S[k].name
  · rw [if_pos h, if_pos h, h]
  · rw [if_neg h, if_neg h, List.append_nil]

omit [DecidableEq α] in
theorem length_flat (L : List (Nd α)) (m : Nat) (h : ∀ x ∈ L, x.deps.length ≤ m) : (L.flatMap Nd.deps).length ≤ L.length * m := by
  induction L with
  | nil => simp
  | cons a r ih =>
    have h1 := h a (by simp)
    have h2 := ih fun x hx => h x (by simp [hx])
    rw [List.flatMap_cons, List.length_append, List.length_cons, Nat.add_mul]
    omega

theorem length_depsOf (S : List (Nd α)) (m : Nat) (h : ∀ x ∈ S, x.deps.length ≤ m) (s : α) : (depsOf S s).length ≤ S.length * m := by
  have h1 := length_flat (S.filter fun x => decide (x.name = s)) m fun x hx => h x (List.mem_filter.1 hx).1
  have h2 := Nat.mul_le_mul_right m (List.length_filter_le (fun x => decide (x.name = s)) S)
  unfold depsOf
  omega

/-- From s one comes to t, through names of S. -/
inductive Reach (S : List (Nd α)) : α → α → Prop
  | one {s d : α} (h : d ∈ depsOf S s) (hn : d ∈ names S) : Reach S s d
  | step {s d t : α} (h : d ∈ depsOf S s) (hn : d ∈ names S) (r : Reach S d t) : Reach S s t

theorem Reach.name {S : List (Nd α)} {s t : α} (h : Reach S s t) : t ∈ names S := by
  induction h with
  | one _ h => exact h
  | step _ _ _ ih => exact ih

/-- How many haven't been seen. -/
def unseen (S : List (Nd α)) (V : List α) : Nat := ((names S).filter fun s => decide (s ∉ V)).length

theorem unseen_lt {S : List (Nd α)} {V : List α} {d : α} (hd : d ∈ names S) (hv : d ∉ V) : unseen S (d :: V) < unseen S V := by
  unfold unseen
  have h : (names S).filter (fun s => decide (s ∉ d :: V)) = ((names S).filter fun s => decide (s ∉ V)).filter fun s => decide (s ≠ d) := by
    rw [List.filter_filter]
    refine List.filter_congr fun s _ => ?_
    simp [List.mem_cons]
  rw [h]
  have hm : d ∈ (names S).filter fun s => decide (s ∉ V) := List.mem_filter.2 ⟨hd, by simpa using hv⟩
  rcases Nat.lt_or_ge (((names S).filter fun s => decide (s ∉ V)).filter fun s => decide (s ≠ d)).length ((names S).filter fun s => decide (s ∉ V)).length with h1 | h1
  · exact h1
  · have h2 := List.length_filter_le (fun s => decide (s ≠ d)) ((names S).filter fun s => decide (s ∉ V))
    have h3 := List.length_filter_eq_length_iff.1 (Nat.le_antisymm h2 h1) d hm
    simp at h3

theorem unseen_mono {S : List (Nd α)} {V W : List α} (h : ∀ t ∈ V, t ∈ W) : unseen S W ≤ unseen S V := by
  unfold unseen
  rw [← List.countP_eq_length_filter, ← List.countP_eq_length_filter]
  refine List.countP_mono_left fun t _ ht => ?_
  simp only [decide_eq_true_eq] at ht ⊢
  exact fun h' => ht (h t h')

/-- What the walk from s makes of what is seen, after the first j of what s needs. -/
structure Dfs (S : List (Nd α)) (V : List α) (s : α) (j : Nat) (V' : List α) : Prop where
  sub : ∀ t ∈ V, t ∈ V'
  from_ : ∀ t ∈ V', t ∈ V ∨ Reach S s t
  own : ∀ d ∈ (depsOf S s).take j, d ∈ names S → d ∈ V'
  closed : ∀ t ∈ V', t ∉ V → ∀ d ∈ depsOf S t, d ∈ names S → d ∈ V'

theorem Dfs.start (S : List (Nd α)) (V : List α) (s : α) : Dfs S V s 0 V := ⟨fun _ h => h, fun _ h => .inl h, by simp, fun t h h' => absurd h h'⟩

omit [DecidableEq α] in
theorem mem_take_succ {l : List α} {j : Nat} {d e : α} (h : l[j]? = some d) : e ∈ l.take (j + 1) ↔ e ∈ l.take j ∨ e = d := by
  obtain ⟨hj, rfl⟩ := List.getElem?_eq_some_iff.1 h
  rw [List.take_succ_eq_append_getElem hj, List.mem_append, List.mem_singleton]

theorem Dfs.skip {S : List (Nd α)} {V V' : List α} {s d : α} {j : Nat} (h : Dfs S V s j V') (hd : (depsOf S s)[j]? = some d) (hs : d ∉ names S ∨ d ∈ V') : Dfs S V s (j + 1) V' := by
  refine ⟨h.sub, h.from_, fun e he hn => ?_, h.closed⟩
  rcases (mem_take_succ hd).1 he with he | rfl
  · exact h.own e he hn
  · rcases hs with hs | hs
    · exact absurd hn hs
    · exact hs

theorem Dfs.call {S : List (Nd α)} {V V' V'' : List α} {s d : α} {j : Nat} (h : Dfs S V s j V') (hd : (depsOf S s)[j]? = some d) (hn : d ∈ names S) (k : Dfs S (d :: V') d (depsOf S d).length V'') : Dfs S V s (j + 1) V'' := by
  have hd' : d ∈ depsOf S s := List.mem_of_getElem? hd
  have hsub : ∀ t ∈ V', t ∈ V'' := fun t ht => k.sub t (by simp [ht])
  have hdd : d ∈ V'' := k.sub d (by simp)
  have kown : ∀ e ∈ depsOf S d, e ∈ names S → e ∈ V'' := fun e he hn => k.own e (by rw [List.take_of_length_le (Nat.le_refl _)]; exact he) hn
  refine ⟨fun t ht => hsub t (h.sub t ht), fun t ht => ?_, fun e he hne => ?_, fun t ht hnt e he hne => ?_⟩
  · rcases k.from_ t ht with h1 | h1
    · rcases List.mem_cons.1 h1 with rfl | h1
      · exact .inr (.one hd' hn)
      · exact h.from_ t h1
    · exact .inr (.step hd' hn h1)
  · rcases (mem_take_succ hd).1 he with he | rfl
    · exact hsub e (h.own e he hne)
    · exact hdd
  · by_cases h1 : t = d
    · subst h1
      exact kown e he hne
    · by_cases h2 : t ∈ V'
      · exact hsub e (h.closed t h2 hnt e he hne)
      · exact k.closed t ht (by simp [h1, h2]) e he hne

/-- From nothing seen: just what one comes to. -/
theorem Dfs.reach {S : List (Nd α)} {V : List α} {s : α} (h : Dfs S [] s (depsOf S s).length V) (t : α) : t ∈ V ↔ Reach S s t := by
  constructor
  · intro ht
    rcases h.from_ t ht with h1 | h1
    · simp at h1
    · exact h1
  · intro hr
    have own : ∀ d ∈ depsOf S s, d ∈ names S → d ∈ V := fun d hd hn => h.own d (by rw [List.take_of_length_le (Nat.le_refl _)]; exact hd) hn
    have gen : ∀ {a b : α}, Reach S a b → (∀ d ∈ depsOf S a, d ∈ names S → d ∈ V) → b ∈ V := by
      intro a b hab
      induction hab with
      | one h1 h2 => exact fun hc => hc _ h1 h2
      | step h1 h2 _ ih => exact fun hc => ih fun d hd hn => h.closed _ (hc _ h1 h2) (by simp) d hd hn
    exact gen hr own
end
#print axioms Dfs.reach
end Go.Proofs.YteamkpmkchmhnaaDoor
