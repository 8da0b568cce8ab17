/- What order.Linear keeps in memory: the map of counts, the map of users. No walk here. -/
import Derived.Test.YteamkpmkchmhnaaDoorLinThy
namespace Go.Proofs.YteamkpmkchmhnaaDoor
open Go.RowKit Go.Maps Go.WideMaps

theorem Tryd.mapSI : MpT Tryd.prog 46 9 3 (fun s : BA => Value.string s) (.int .i64 0) := mapT_string Tryd.underlying9 Tryd.underlying46 (fun w => by kernel_rfl)
theorem Tryd.mapSS : MpT Tryd.prog 49 9 25 (fun s : BA => Value.string s) (.slice none 0 0) := mapT_string Tryd.underlying9 Tryd.underlying49 (fun w => by kernel_rfl)

theorem keyS {s : BA} (h : s.size ≤ maxLen) : keyOf Tryd.prog 9 (.string s) = some (.string s.data.toList) := keyOf_string_mk Tryd.underlying9 h

abbrev Mps (w : World) (b n : Nat) (F : BA → Option Value) : Prop := Mp w Tryd.prog 9 (fun s : BA => Value.string s) b n F

def W0 (S : List (Nd BA)) (k : Nat) : BA → Option Value := fun s => if s ∈ names (S.take k) then some (.int .i64 0) else none

theorem names_take_succ {S : List (Nd BA)} {k : Nat} {x : Nd BA} (h : S[k]? = some x) : names (S.take (k + 1)) = names (S.take k) ++ [x.name] := by
  obtain ⟨h1, rfl⟩ := List.getElem?_eq_some_iff.1 h
  show List.map Nd.name _ = List.map Nd.name _ ++ _
  rw [List.take_succ_eq_append_getElem h1, List.map_append]
  rfl

theorem W0_step {S : List (Nd BA)} {k : Nat} {x : Nd BA} (h : S[k]? = some x) : upd (W0 S k) x.name (.int .i64 0) = W0 S (k + 1) := by
  funext s
  unfold W0
  rw [names_take_succ h]
  by_cases e : s = x.name
  · subst e
    simp [upd_same]
  · rw [upd_other _ _ e]
    simp [e]

def errV (c : Nat) : Value := if c = 0 then .nilIface else .iface 48 (.int .i64 c)

/-- What Linear answers. -/
def LinPost (S : List (Nd BA)) (w : World) (e : Ending) (w' : World) : Prop :=
  ∃ v l c, LinRes ltB S l c ∧ e = .returned (.tuple #[v, errV c]) ∧ OS w' v l ∧ (l = [] → v = .slice none 0 0) ∧ (∀ k, v.ownBlock = some k → w.heap.size ≤ k) ∧ Below w.heap.size w w'


/-- A count for each of S. -/
def WF (S : List (Nd BA)) (c : Nd BA → Nat) : BA → Option Value := fun s => (S.find? fun x => decide (x.name = s)).map fun x => .int .i64 (c x : Nat)

theorem WF_at {S : List (Nd BA)} (h : (names S).Nodup) (c : Nd BA → Nat) {x : Nd BA} (hx : x ∈ S) : WF S c x.name = some (.int .i64 (c x : Nat)) := by
  unfold WF
  cases hf : S.find? (fun y => decide (y.name = x.name)) with
  | none =>
    have := List.find?_eq_none.1 hf x hx
    simp at this
  | some y =>
    have h1 := List.find?_some hf
    have h2 := List.mem_of_find?_eq_some hf
    have := name_inj h h2 hx (by simpa using h1)
    rw [this]
    rfl

theorem WF_none {S : List (Nd BA)} (c : Nd BA → Nat) {s : BA} (hs : s ∉ names S) : WF S c s = none := by
  unfold WF
  rw [List.find?_eq_none.2]
  · rfl
  · intro x hx
    simp only [decide_eq_true_eq]
    exact fun e => hs (List.mem_map.2 ⟨x, hx, e⟩)

theorem WF_some {S : List (Nd BA)} {c : Nd BA → Nat} {s : BA} {v : Value} (h : WF S c s = some v) : ∃ y ∈ S, y.name = s ∧ v = .int .i64 (c y : Nat) := by
  unfold WF at h
  rw [Option.map_eq_some_iff] at h
  obtain ⟨y, h1, rfl⟩ := h
  exact ⟨y, List.mem_of_find?_eq_some h1, by simpa using List.find?_some h1, rfl⟩

theorem WF_isSome {S : List (Nd BA)} (c : Nd BA → Nat) {x : Nd BA} (hx : x ∈ S) : (WF S c x.name).isSome = true := by
  cases h : WF S c x.name with
  | some _ => rfl
  | none =>
    unfold WF at h
    rw [Option.map_eq_none_iff, List.find?_eq_none] at h
    have := h x hx
    simp at this

/-- The heap while the map of counts is gone through. -/
def HIn (S : List (Nd BA)) (left : BA → Bool) (h : List BA) : Prop := h.Nodup ∧ ∀ t, t ∈ h ↔ ∃ x ∈ S, x.name = t ∧ cnt [] x = 0 ∧ left t = false

theorem HIn.start (S : List (Nd BA)) (c : Nd BA → Nat) : HIn S (fun a => (WF S c a).isSome) [] := by
  refine ⟨List.nodup_nil, fun t => ⟨fun h => by simp at h, ?_⟩⟩
  rintro ⟨x, hx, rfl, _, h⟩
  have h2 := WF_isSome c hx
  simp only at h
  rw [h2] at h
  cases h

theorem HIn.skip {S : List (Nd BA)} (hS : (names S).Nodup) {left : BA → Bool} {h : List BA} (hh : HIn S left h) {y : Nd BA} (hy : y ∈ S) (hc : cnt [] y ≠ 0) : HIn S (fun z => left z && !decide (z = y.name)) h := by
  refine ⟨hh.1, fun t => ?_⟩
  rw [hh.2 t]
  constructor
  · rintro ⟨x, hx, e, h1, h2⟩
    exact ⟨x, hx, e, h1, by simp [h2]⟩
  · rintro ⟨x, hx, e, h1, h2⟩
    refine ⟨x, hx, e, h1, ?_⟩
    simp only [Bool.and_eq_false_iff, Bool.not_eq_false', decide_eq_true_eq] at h2
    rcases h2 with h2 | h2
    · exact h2
    · have := name_inj hS hx hy (e.trans h2)
      subst this
      exact absurd h1 hc

theorem HIn.push {S : List (Nd BA)} {left : BA → Bool} {h h' : List BA} (hh : HIn S left h) {y : Nd BA} (hy : y ∈ S) (hc : cnt [] y = 0) (hl : left y.name = true) (hp : h'.Perm (y.name :: h)) : HIn S (fun z => left z && !decide (z = y.name)) h' := by
  have hnh : y.name ∉ h := by
    intro hm
    obtain ⟨x, _, _, _, h2⟩ := (hh.2 _).1 hm
    rw [hl] at h2
    cases h2
  refine ⟨hp.nodup_iff.2 (List.nodup_cons.2 ⟨hnh, hh.1⟩), fun t => ?_⟩
  rw [hp.mem_iff, List.mem_cons, hh.2 t]
  constructor
  · rintro (rfl | ⟨x, hx, e, h1, h2⟩)
    · exact ⟨y, hy, rfl, hc, by simp⟩
    · exact ⟨x, hx, e, h1, by simp [h2]⟩
  · rintro ⟨x, hx, e, h1, h2⟩
    simp only [Bool.and_eq_false_iff, Bool.not_eq_false', decide_eq_true_eq] at h2
    rcases h2 with h2 | h2
    · exact .inr ⟨x, hx, e, h1, h2⟩
    · exact .inl h2

theorem HIn.last {S : List (Nd BA)} {left : BA → Bool} {h : List BA} (hh : HIn S left h) (hl : ∀ a, left a = false) : Rd0 S [] h := by
  refine ⟨hh.1, fun t => ?_⟩
  rw [hh.2 t]
  constructor
  · rintro ⟨x, hx, e, h1, _⟩
    exact ⟨x, hx, e, by simp, (cnt_zero _ _).1 h1⟩
  · rintro ⟨x, hx, e, h1⟩
    exact ⟨x, hx, e, (cnt_zero _ _).2 h1.2, hl t⟩

theorem HIn.le {S : List (Nd BA)} {left : BA → Bool} {h : List BA} (hh : HIn S left h) : h.length ≤ S.length := by
  have := List.Nodup.length_le_of_subset (l₂ := names S) hh.1 (fun t ht => by
    obtain ⟨x, hx, e, _⟩ := (hh.2 t).1 ht
    exact List.mem_map.2 ⟨x, hx, e⟩)
  simpa [names] using this

theorem WF_upd {S : List (Nd BA)} (h : (names S).Nodup) {c c' : Nd BA → Nat} {x : Nd BA} (hx : x ∈ S) {m : Int} (hm : m = (c' x : Int)) (hc : ∀ y ∈ S, y.name ≠ x.name → c' y = c y) : upd (WF S c) x.name (.int .i64 m) = WF S c' := by
  funext s
  by_cases e : s = x.name
  · subst e
    rw [upd_same, WF_at h c' hx, hm]
  · rw [upd_other _ _ e]
    by_cases hs : s ∈ names S
    · obtain ⟨y, hy, rfl⟩ := List.mem_map.1 hs
      rw [WF_at h c hy, WF_at h c' hy, hc y hy e]
    · rw [WF_none c hs, WF_none c' hs]

theorem WF_congr {S : List (Nd BA)} (h : (names S).Nodup) {c c' : Nd BA → Nat} (hc : ∀ y ∈ S, c' y = c y) : WF S c = WF S c' := by
  funext s
  by_cases hs : s ∈ names S
  · obtain ⟨y, hy, rfl⟩ := List.mem_map.1 hs
    rw [WF_at h c hy, WF_at h c' hy, hc y hy]
  · rw [WF_none c hs, WF_none c' hs]

theorem W0_all {S : List (Nd BA)} (h : (names S).Nodup) : W0 S S.length = WF S (fun _ => 0) := by
  funext s
  unfold W0
  rw [List.take_of_length_le (Nat.le_refl _)]
  by_cases hs : s ∈ names S
  · rw [if_pos hs]
    obtain ⟨y, hy, rfl⟩ := List.mem_map.1 hs
    rw [WF_at h _ hy]
    rfl
  · rw [if_neg hs, WF_none _ hs]

/-- What a key has, nil where there is none. -/
def atK (G : BA → Option Value) (d : BA) : Value := (G d).getD (.slice none 0 0)

/-- A map of rows of strings: each on blocks of its own, from lo on. -/
structure Grp (w : World) (b n lo : Nat) (G : BA → Option Value) (U : BA → List BA) : Prop where
  map : Mps w b n G
  row : ∀ d, OS w (atK G d) (U d)
  low : ∀ d k, (atK G d).ownBlock = some k → lo ≤ k
  apart : ∀ d d' k, (atK G d).ownBlock = some k → (atK G d').ownBlock = some k → d = d'

theorem Grp.start {w : World} {b lo : Nat} (h : Mps w b 0 (fun _ => none)) : Grp w b 0 lo (fun _ => none) (fun _ => []) :=
  ⟨h, fun _ => World.ownsRow_nil _ _ _ _, by simp [atK, Value.ownBlock], by simp [atK, Value.ownBlock]⟩

theorem Grp.kept {w w' : World} {b n lo : Nat} {G : BA → Option Value} {U : BA → List BA} {T : Nat → Prop} (h : Grp w b n lo G U) (hk : Kept T w w') (hb : ¬ T b) (hr : ∀ d k, (atK G d).ownBlock = some k → ¬ T k) : Grp w' b n lo G U :=
  ⟨h.map.kept hk hb, fun d => (h.row d).kept hk (hr d), h.low, h.apart⟩

theorem Grp.alloc {w : World} {b n lo : Nat} {G : BA → Option Value} {U : BA → List BA} (h : Grp w b n lo G U) (o : Obj) : Grp (w.alloc o) b n lo G U :=
  h.kept ((Kept.refl (fun _ => False) w).alloc o) (fun h => h) (fun _ _ _ h => h)

/-- What the map holds a string is appended to, and it is laid back. -/
theorem Grp.app {w w1 w2 : World} {b n lo : Nat} {G : BA → Option Value} {U : BA → List BA} (h : Grp w b n lo G U) (hlo : lo ≤ w.heap.size) {d nm : BA} {o : Obj} {g cap : Nat}
    (ho1 : w1.ownsRow 0 9 1 (.slice (some ⟨g, 0, none⟩) ((U d).length + 1) cap) ((U d).length + 1) ((U d).map Value.string ++ [.string nm])) (hg1 : (w.alloc o).grownBy w1 (atK G d).ownBlock)
    (hat : (atK G d).ownBlock = some g ∨ g = (w.alloc o).heap.size) {m : Nat} (hm2 : Mps w2 b m (upd G d (.slice (some ⟨g, 0, none⟩) ((U d).length + 1) cap))) (hg2 : w1.grownBy w2 (some b)) :
    Grp w2 b m lo (upd G d (.slice (some ⟨g, 0, none⟩) ((U d).length + 1) cap)) (fun x => if x = d then U d ++ [nm] else U x) := by
  have hk : Kept (fun k => k = b ∨ (atK G d).ownBlock = some k) w w2 :=
    (((Kept.refl _ w).alloc o).then (Kept.of_grown hg1) (fun i _ e => .inr e.symm)).then (Kept.of_grown hg2) (fun i _ e => .inl (by simpa using e))
  have hat1 : atK (upd G d (.slice (some ⟨g, 0, none⟩) ((U d).length + 1) cap)) d = .slice (some ⟨g, 0, none⟩) ((U d).length + 1) cap := by simp [atK, upd_same]
  have hat2 : ∀ x, x ≠ d → atK (upd G d (.slice (some ⟨g, 0, none⟩) ((U d).length + 1) cap)) x = atK G x := fun x hx => by simp [atK, upd_other _ _ hx]
  have hsz : (w.alloc o).heap.size = w.heap.size + 1 := by simp
  have hgb : g ≠ b := by
    rintro rfl
    rcases hat with h1 | h1
    · obtain ⟨cur, hc⟩ := (h.row d).kind h1
      exact h.map.ne hc rfl
    · have := h.map.lt
      omega
  have hgo : ∀ x k, x ≠ d → (atK G x).ownBlock = some k → k ≠ g := by
    rintro x k hx hk' rfl
    rcases hat with h1 | h1
    · exact hx (h.apart x d _ hk' h1)
    · have := (h.row x).block_lt hk'
      omega
  refine ⟨hm2, fun x => ?_, fun x k hk' => ?_, fun x y k hx hy => ?_⟩
  · by_cases e : x = d
    · subst e
      rw [if_pos rfl, hat1]
      have := (Kept.of_grown hg2).row ho1 (fun k e => by
        simp only [Value.ownBlock, Option.some.injEq] at e ⊢
        omega)
      unfold OS
      simpa using this
    · rw [if_neg e, hat2 x e]
      refine (h.row x).kept hk fun k hk' => ?_
      rintro (rfl | h2)
      · obtain ⟨cur, hc⟩ := (h.row x).kind hk'
        exact h.map.ne hc rfl
      · exact e (h.apart x d k hk' h2)
  · by_cases e : x = d
    · subst e
      rw [hat1] at hk'
      simp only [Value.ownBlock, Option.some.injEq] at hk'
      subst hk'
      rcases hat with h1 | h1
      · exact h.low _ _ h1
      · omega
    · rw [hat2 x e] at hk'
      exact h.low x k hk'
  · by_cases e : x = d
    · by_cases e' : y = d
      · rw [e, e']
      · subst e
        rw [hat1] at hx
        rw [hat2 y e'] at hy
        simp only [Value.ownBlock, Option.some.injEq] at hx
        exact absurd hx.symm (hgo y k e' hy)
    · by_cases e' : y = d
      · subst e'
        rw [hat1] at hy
        rw [hat2 x e] at hx
        simp only [Value.ownBlock, Option.some.injEq] at hy
        exact absurd hy.symm (hgo x k e hx)
      · rw [hat2 x e] at hx
        rw [hat2 y e'] at hy
        exact h.apart x y k hx hy

/-- .. by however many. -/
theorem Grp.app2 {w w1 w2 : World} {b n lo : Nat} {G : BA → Option Value} {U : BA → List BA} (h : Grp w b n lo G U) (hlo : lo ≤ w.heap.size) {d : BA} {v' : Value} {l' : List BA} (hk1 : Kept (fun q => (atK G d).ownBlock = some q) w w1)
    (ho1 : OS w1 v' l') (hat : ∀ q, v'.ownBlock = some q → (atK G d).ownBlock = some q ∨ w.heap.size ≤ q) {m : Nat} (hm2 : Mps w2 b m (upd G d v')) (hg2 : w1.grownBy w2 (some b)) :
    Grp w2 b m lo (upd G d v') (fun x => if x = d then l' else U x) := by
  have hk : Kept (fun k => k = b ∨ (atK G d).ownBlock = some k) w w2 := (hk1.mono fun _ _ e => .inr e).then (Kept.of_grown hg2) (fun i _ e => .inl (by simpa using e))
  have hat1 : atK (upd G d v') d = v' := by simp [atK, upd_same]
  have hat2 : ∀ x, x ≠ d → atK (upd G d v') x = atK G x := fun x hx => by simp [atK, upd_other _ _ hx]
  have hgb : ∀ q, v'.ownBlock = some q → q ≠ b := by
    rintro q hq rfl
    rcases hat q hq with h1 | h1
    · obtain ⟨cur, hc⟩ := (h.row d).kind h1
      exact h.map.ne hc rfl
    · have := h.map.lt
      omega
  have hgo : ∀ x k q, x ≠ d → (atK G x).ownBlock = some k → v'.ownBlock = some q → k ≠ q := by
    rintro x k q hx hk' hq rfl
    rcases hat _ hq with h1 | h1
    · exact hx (h.apart x d _ hk' h1)
    · have := (h.row x).block_lt hk'
      omega
  refine ⟨hm2, fun x => ?_, fun x k hk' => ?_, fun x y k hx hy => ?_⟩
  · by_cases e : x = d
    · subst e
      rw [if_pos rfl, hat1]
      exact ho1.kept (Kept.of_grown hg2) (fun q hq e => hgb q hq (by simpa using e))
    · rw [if_neg e, hat2 x e]
      refine (h.row x).kept hk fun k hk' => ?_
      rintro (rfl | h2)
      · obtain ⟨cur, hc⟩ := (h.row x).kind hk'
        exact h.map.ne hc rfl
      · exact e (h.apart x d k hk' h2)
  · by_cases e : x = d
    · subst e
      rw [hat1] at hk'
      rcases hat k hk' with h1 | h1
      · exact h.low _ _ h1
      · omega
    · rw [hat2 x e] at hk'
      exact h.low x k hk'
  · by_cases e : x = d
    · by_cases e' : y = d
      · rw [e, e']
      · subst e
        rw [hat1] at hx
        rw [hat2 y e'] at hy
        exact absurd rfl (hgo y k k e' hy hx)
    · by_cases e' : y = d
      · subst e'
        rw [hat1] at hy
        rw [hat2 x e] at hx
        exact absurd rfl (hgo x k k e hx hy)
      · rw [hat2 x e] at hx
        rw [hat2 y e'] at hy
        exact h.apart x y k hx hy

/-! ### the second loop's counts and users -/
def cnA (S : List (Nd BA)) (k : Nat) (x : Nd BA) : Nat := if x.name ∈ names (S.take k) then (dd x.deps).length else 0
def cnB (S : List (Nd BA)) (k j : Nat) (nm : BA) (x : Nd BA) : Nat := if x.name = nm then j else cnA S k x
def usB (S : List (Nd BA)) (k j : Nat) (nm : BA) (l : List BA) (d : BA) : List BA := users (S.take k) d ++ if d ∈ l.take j then [nm] else []

theorem fresh_name {S : List (Nd BA)} (h : (names S).Nodup) {k : Nat} {y : Nd BA} (hy : S[k]? = some y) : y.name ∉ names (S.take k) := by
  intro hm
  obtain ⟨hk1, hk2⟩ := List.getElem?_eq_some_iff.1 hy
  have h2 : names S = names (S.take k) ++ names (S.drop k) := by unfold names; rw [← List.map_append, List.take_append_drop]
  rw [h2, List.nodup_append] at h
  refine h.2.2 _ hm _ ?_ rfl
  rw [List.drop_eq_getElem_cons hk1, hk2]
  simp [names]

theorem cnA_zero (S : List (Nd BA)) (h : (names S).Nodup) : WF S (fun _ => 0) = WF S (cnA S 0) := WF_congr h fun y _ => by simp [cnA, names]

theorem cnB_zero {S : List (Nd BA)} (h : (names S).Nodup) {k : Nat} {y : Nd BA} (hy : S[k]? = some y) : WF S (cnA S k) = WF S (cnB S k 0 y.name) := WF_congr h fun x _ => by
  unfold cnB
  by_cases e : x.name = y.name
  · rw [if_pos e]
    unfold cnA
    rw [if_neg (e ▸ fresh_name h hy)]
  · rw [if_neg e]

theorem cnB_step {S : List (Nd BA)} (h : (names S).Nodup) {k j : Nat} {y : Nd BA} (hy : S[k]? = some y) : upd (WF S (cnB S k j y.name)) y.name (.int .i64 ((j : Int) + 1)) = WF S (cnB S k (j + 1) y.name) :=
  WF_upd h (List.mem_of_getElem? hy) (by simp [cnB]) fun x _ hx => by simp [cnB, hx]

theorem cnB_at {S : List (Nd BA)} (h : (names S).Nodup) {k j : Nat} {y : Nd BA} (hy : S[k]? = some y) : WF S (cnB S k j y.name) y.name = some (.int .i64 (j : Nat)) := by
  rw [WF_at h _ (List.mem_of_getElem? hy)]
  simp [cnB]

theorem cnB_last {S : List (Nd BA)} (h : (names S).Nodup) {k j : Nat} {y : Nd BA} (hy : S[k]? = some y) (hj : j = (dd y.deps).length) : WF S (cnB S k j y.name) = WF S (cnA S (k + 1)) := WF_congr h fun x hx => by
  unfold cnB
  by_cases e : x.name = y.name
  · rw [if_pos e]
    have := name_inj h hx (List.mem_of_getElem? hy) e
    subst this
    unfold cnA
    rw [names_take_succ hy, if_pos (by simp), hj]
  · rw [if_neg e]
    unfold cnA
    rw [names_take_succ hy]
    by_cases hm : x.name ∈ names (S.take k)
    · rw [if_pos hm, if_pos (by simp [hm])]
    · rw [if_neg hm, if_neg (by simp [hm, e])]

theorem cnA_all {S : List (Nd BA)} (h : (names S).Nodup) : WF S (cnA S S.length) = WF S (cnt []) := WF_congr h fun x hx => by
  unfold cnA
  rw [List.take_of_length_le (Nat.le_refl _), if_pos (show x.name ∈ names S from List.mem_map.2 ⟨x, hx, rfl⟩), cnt_nil]

theorem usB_zero (S : List (Nd BA)) (k : Nat) (nm : BA) (l : List BA) : users (S.take k) = usB S k 0 nm l := by
  funext d
  simp [usB]

theorem usB_step {S : List (Nd BA)} {k j : Nat} {nm d : BA} {l : List BA} (hl : l.Nodup) (hd : l[j]? = some d) : (fun x => if x = d then usB S k j nm l d ++ [nm] else usB S k j nm l x) = usB S k (j + 1) nm l := by
  obtain ⟨hj, e⟩ := List.getElem?_eq_some_iff.1 hd
  have hnd : d ∉ l.take j := by
    intro hm
    obtain ⟨i, hi, e2⟩ := List.mem_take_iff_getElem.1 hm
    exact List.pairwise_iff_getElem.1 hl i j (by omega) hj (by omega) (e2.trans e.symm)
  funext x
  unfold usB
  rw [List.take_succ_eq_append_getElem hj, e]
  by_cases h : x = d
  · subst h
    rw [if_pos rfl, if_neg hnd, if_pos (by simp)]
    simp
  · rw [if_neg h]
    by_cases hm : x ∈ l.take j
    · rw [if_pos hm, if_pos (by simp [hm])]
    · rw [if_neg hm, if_neg (by simp [hm, h])]

theorem usB_last {S : List (Nd BA)} {k : Nat} {y : Nd BA} {l : List BA} (hy : S[k]? = some y) (hl : ∀ s, s ∈ l ↔ s ∈ y.deps) : usB S k l.length y.name l = users (S.take (k + 1)) := by
  obtain ⟨hk1, hk2⟩ := List.getElem?_eq_some_iff.1 hy
  funext d
  unfold usB users
  rw [List.take_of_length_le (Nat.le_refl _), List.take_succ_eq_append_getElem hk1, hk2, List.filter_append]
  unfold names
  rw [List.map_append]
  congr 1
  by_cases hm : d ∈ y.deps
  · rw [if_pos ((hl d).2 hm)]
    simp [hm]
  · rw [if_neg (fun h => hm ((hl d).1 h))]
    simp [hm]

theorem users_length_le (S : List (Nd BA)) (d : BA) : (users S d).length ≤ S.length := by
  unfold users names
  rw [List.length_map]
  exact List.length_filter_le _ _

theorem usB_length_le (S : List (Nd BA)) (k j : Nat) (nm : BA) (l : List BA) (d : BA) : (usB S k j nm l d).length ≤ S.length + 1 := by
  unfold usB
  have := users_length_le (S.take k) d
  have h2 := List.length_take_le k S
  rw [List.length_append]
  split <;> simp <;> simp at * <;> omega


theorem app_kept {w w5 : World} {o : Obj} {vg : Value} (hg : (w.alloc o).grownBy w5 vg.ownBlock) : Kept (fun q => vg.ownBlock = some q) w w5 :=
  ((Kept.refl _ w).alloc o).then (Kept.of_grown hg) (fun _ _ e => e.symm)

theorem Mps.not_row {w : World} {b n : Nat} {F : BA → Option Value} (h : Mps w b n F) {v : Value} {l : List BA} (ho : OS w v l) : v.ownBlock ≠ some b := by
  intro e
  obtain ⟨cur, hc⟩ := ho.kind e
  exact h.ne hc rfl

theorem heap_not_row {w : World} {b : Nat} {cs : Array Value} {e : TypeId} {f : Nat × Nat} (h : w.heap[b]? = some (.cells cs e f)) (he : e ≠ 9) {v : Value} {l : List BA} (ho : OS w v l) : v.ownBlock ≠ some b := by
  intro e1
  obtain ⟨cur, hc⟩ := ho.kind e1
  rw [h] at hc
  simp only [Option.some.injEq, Obj.cells.injEq] at hc
  exact he hc.2.1


theorem RS.kept {T : Nat → Prop} {w w' : World} {r : Nat} {v : Value} {l : List BA} (h : RS w r v l) (hk : Kept T w w') (hr : ¬ T r) (hv : ∀ k, v.ownBlock = some k → ¬ T k) : RS w' r v l :=
  ⟨hk.heap h.ptr hr, h.own.kept hk hv⟩

/-- While the map of counts is gone through. -/
structure RngSt (S : List (Nd BA)) (w0 w2 wr : World) (B bu m m2 : Nat) (G : BA → Option Value) (left : BA → Bool) (cn : Nat) (v : Value) (h : List BA) : Prop where
  rg : Rg wr Tryd.prog 9 (fun s : BA => Value.string s) B (w2.heap.size + 2) m (WF S (cnt [])) left cn
  grp : Grp wr bu m2 bu G (users S)
  rs : RS wr (w2.heap.size + 1) v h
  ish : IsH h
  below : Below B w0 wr
  ap : ∀ d q, (atK G d).ownBlock = some q → v.ownBlock ≠ some q
  lo : ∀ q, v.ownBlock = some q → w2.heap.size ≤ q
  sz : w2.heap.size < wr.heap.size

theorem RngSt.row_ne {S : List (Nd BA)} {w0 w2 wr : World} {B bu m m2 : Nat} {G : BA → Option Value} {left : BA → Bool} {cn : Nat} {v : Value} {h : List BA} (s : RngSt S w0 w2 wr B bu m m2 G left cn v h) : v.ownBlock ≠ some B ∧ v.ownBlock ≠ some bu ∧ v.ownBlock ≠ some (w2.heap.size + 2) := by
  refine ⟨Mps.not_row s.rg.1 s.rs.own, Mps.not_row s.grp.map s.rs.own, fun e => ?_⟩
  obtain ⟨cur, hc⟩ := s.rs.own.kind e
  exact s.rg.ne hc rfl

theorem RngSt.start {S : List (Nd BA)} {w0 w2 w5 : World} {B bu m m2 : Nat} {G : BA → Option Value} {cn : Nat} (hB : B < w2.heap.size)
    (hg : Grp w2 bu m2 bu G (users S)) (hb : Below B w0 w2)
    (hrg : Rg w5 Tryd.prog 9 (fun s : BA => Value.string s) B (w2.heap.size + 2) m (WF S (cnt [])) (fun a => (WF S (cnt []) a).isSome) cn)
    (hgr : ((w2.alloc (.cells #[] 9)).alloc (.cells #[.slice (some ⟨w2.heap.size, 0, none⟩) 0 0] 53)).grownBy w5 none) (hs : w5.heap.size = w2.heap.size + 2 + 1) :
    RngSt S w0 w2 w5 B bu m m2 G (fun a => (WF S (cnt []) a).isSome) cn (.slice (some ⟨w2.heap.size, 0, none⟩) 0 0) [] := by
  have hk := Kept.of_grown hgr
  have hk0 : Kept (fun _ => False) w2 w5 := (((Kept.refl (fun _ => False) w2).alloc _).alloc _).then hk (fun _ _ e => by simp at e)
  refine ⟨hrg, hg.kept hk0 (fun h => h) (fun _ _ _ h => h), ⟨hk.heap (by have := heap_alloc_new (w2.alloc (.cells #[] 9)) (.cells #[.slice (some ⟨w2.heap.size, 0, none⟩) 0 0] 53); simpa using this) (by simp), ?_⟩, ?_, ?_, ?_, ?_, by omega⟩
  · refine ⟨by simp, .inr ⟨w2.heap.size, 0, #[], by simp, Nat.zero_le _, ?_, by simp, by simp, by simp, by simp⟩⟩
    refine hk.heap ?_ (by simp)
    rw [Below.heap_alloc _ _ _ (by simp)]
    exact heap_alloc_new w2 _
  · intro k _ hk
    simp at hk
  · exact hb.trans (hk0.below (by omega) (fun _ _ h => h))
  · intro d q hq e
    have := (hg.row d).block_lt hq
    simp only [Value.ownBlock, Option.some.injEq] at e
    omega
  · intro q hq
    simp only [Value.ownBlock, Option.some.injEq] at hq
    omega

/-- A step of the range: the iterator has moved. -/
theorem RngSt.step {S : List (Nd BA)} {w0 w2 wr w6 : World} {B bu m m2 : Nat} {G : BA → Option Value} {left left' : BA → Bool} {cn cn' : Nat} {v : Value} {h : List BA} (s : RngSt S w0 w2 wr B bu m m2 G left cn v h) (hg0 : Grp w2 bu m2 bu G (users S)) (hB : B < w2.heap.size)
    (hrg : Rg w6 Tryd.prog 9 (fun s : BA => Value.string s) B (w2.heap.size + 2) m (WF S (cnt [])) left' cn') (hg : wr.grownBy w6 (some (w2.heap.size + 2))) : RngSt S w0 w2 w6 B bu m m2 G left' cn' v h := by
  have hk := Kept.of_grown hg
  obtain ⟨n1, n2, n3⟩ := s.row_ne
  have hbu := hg0.map.lt
  refine ⟨hrg, s.grp.kept hk (by simp; omega) (fun d q hq => by have := (hg0.row d).block_lt hq; simp; omega), s.rs.kept hk (by simp) (fun k e e2 => n3 (by rw [e, e2])), s.ish, ?_, s.ap, s.lo, ?_⟩
  · exact s.below.trans (hk.below (by have := s.sz; omega) (fun q hq => by simp; omega))
  · have := hk.size
    have := s.sz
    omega

/-- .. and one is pushed. -/
theorem RngSt.push {S : List (Nd BA)} {w0 w2 wr w7 : World} {B bu m m2 : Nat} {G : BA → Option Value} {left : BA → Bool} {cn : Nat} {v : Value} {h : List BA} {x : BA} (s : RngSt S w0 w2 wr B bu m m2 G left cn v h) (hg0 : Grp w2 bu m2 bu G (users S)) (hB : B < w2.heap.size)
    (hp : PushPost (w2.heap.size + 1) v h x wr w7) : ∃ v' h', RngSt S w0 w2 w7 B bu m m2 G left cn v' h' ∧ h'.Perm (x :: h) := by
  obtain ⟨v', h', h1, h2, h3, hk, h5⟩ := hp
  obtain ⟨n1, n2, n3⟩ := s.row_ne
  have hbu := hg0.map.lt
  have m1 : ¬ (B = w2.heap.size + 1 ∨ v.ownBlock = some B) := fun e => e.elim (fun e => by omega) n1
  have m2' : ¬ (w2.heap.size + 2 = w2.heap.size + 1 ∨ v.ownBlock = some (w2.heap.size + 2)) := fun e => e.elim (fun e => by omega) n3
  have m3 : ¬ (bu = w2.heap.size + 1 ∨ v.ownBlock = some bu) := fun e => e.elim (fun e => by omega) n2
  refine ⟨v', h', ⟨s.rg.kept hk m1 m2', s.grp.kept hk m3 ?_, h1, h3, ?_, ?_, ?_, ?_⟩, h2⟩
  · rintro d q hq (e | e)
    · have := (hg0.row d).block_lt hq
      omega
    · exact s.ap d q hq e
  · refine s.below.trans (hk.below (by have := s.sz; omega) ?_)
    rintro q hq (e | e)
    · omega
    · have := s.lo q e
      omega
  · intro d q hq e
    rcases h5 q e with e2 | e2
    · exact s.ap d q hq e2
    · have h6 := (hg0.row d).block_lt hq
      have := s.sz
      omega
  · intro q hq
    rcases h5 q hq with e2 | e2
    · exact s.lo q e2
    · have := s.sz
      omega
  · have := hk.size
    have := s.sz
    omega


/-! ### the main loop -/
structure MainSt (S : List (Nd BA)) (w0 w2 wr : World) (B bu m m2 : Nat) (G : BA → Option Value) (c : Nd BA → Nat) (vl : Value) (l : List BA) (v : Value) (h : List BA) : Prop where
  wt : Mps wr B m (WF S c)
  grp : Grp wr bu m2 bu G (users S)
  rs : RS wr (w2.heap.size + 1) v h
  ish : IsH h
  below : Below B w0 wr
  ap : ∀ d q, (atK G d).ownBlock = some q → v.ownBlock ≠ some q
  lo : ∀ q, v.ownBlock = some q → w2.heap.size ≤ q
  sz : w2.heap.size < wr.heap.size
  lst : OS wr vl l
  lap : ∀ d q, (atK G d).ownBlock = some q → vl.ownBlock ≠ some q
  llo : ∀ q, vl.ownBlock = some q → w2.heap.size ≤ q
  hl : ∀ q, v.ownBlock = some q → vl.ownBlock ≠ some q

/-- What stays from the start: the groups' rows lie below, and so do both maps. -/
structure Old (S : List (Nd BA)) (w2 : World) (B bu m2 : Nat) (G : BA → Option Value) : Prop where
  hg : Grp w2 bu m2 bu G (users S)
  hB : B < w2.heap.size
  hbb : B ≠ bu

section
variable {S : List (Nd BA)} {w0 w2 wr w' : World} {B bu m m2 : Nat} {G : BA → Option Value} {c : Nd BA → Nat} {vl : Value} {l : List BA} {v : Value} {h : List BA}

theorem Old.bu_lt (o : Old S w2 B bu m2 G) : bu < w2.heap.size := o.hg.map.lt
theorem Old.row_lt (o : Old S w2 B bu m2 G) {d : BA} {q : Nat} (hq : (atK G d).ownBlock = some q) : q < w2.heap.size := (o.hg.row d).block_lt hq

theorem RngSt.main {left : BA → Bool} {cn : Nat} (s : RngSt S w0 w2 wr B bu m m2 G left cn v h) : MainSt S w0 w2 wr B bu m m2 G (cnt []) (.slice none 0 0) [] v h :=
  ⟨s.rg.1, s.grp, s.rs, s.ish, s.below, s.ap, s.lo, s.sz, World.ownsRow_nil _ _ _ _, by simp [Value.ownBlock], by simp [Value.ownBlock], by simp [Value.ownBlock]⟩

/-- What the heap's own blocks turn leaves all else. -/
theorem MainSt.heap_step (s : MainSt S w0 w2 wr B bu m m2 G c vl l v h) (o : Old S w2 B bu m2 G) (hk : Kept (fun k => k = w2.heap.size + 1 ∨ v.ownBlock = some k) wr w') {v' : Value} {h' : List BA} (hr : RS w' (w2.heap.size + 1) v' h') (hi : IsH h')
    (hv : ∀ k, v'.ownBlock = some k → v.ownBlock = some k ∨ wr.heap.size ≤ k) : MainSt S w0 w2 w' B bu m m2 G c vl l v' h' := by
  have n1 : v.ownBlock ≠ some B := Mps.not_row s.wt s.rs.own
  have n2 : v.ownBlock ≠ some bu := Mps.not_row s.grp.map s.rs.own
  have hbu := o.bu_lt
  have hB := o.hB
  have hsz := s.sz
  have n3 : vl.ownBlock ≠ some (w2.heap.size + 1) := heap_not_row s.rs.ptr (by decide) s.lst
  refine ⟨s.wt.kept hk (fun e => e.elim (fun e => by omega) n1), s.grp.kept hk (fun e => e.elim (fun e => by omega) n2) ?_, hr, hi, ?_, ?_, ?_, ?_, s.lst.kept hk ?_, s.lap, s.llo, ?_⟩
  · rintro d q hq (e | e)
    · have := o.row_lt hq
      omega
    · exact s.ap d q hq e
  · refine s.below.trans (hk.below (by omega) ?_)
    rintro q hq (e | e)
    · omega
    · have := s.lo q e
      omega
  · intro d q hq e
    rcases hv q e with e2 | e2
    · exact s.ap d q hq e2
    · have := o.row_lt hq
      omega
  · intro q hq
    rcases hv q hq with e2 | e2
    · exact s.lo q e2
    · omega
  · have := hk.size
    omega
  · rintro q hq (e | e)
    · exact n3 (by rw [hq, e])
    · exact s.hl q e hq
  · intro q hq e
    rcases hv q hq with e2 | e2
    · exact s.hl q e2 e
    · have := s.lst.block_lt e
      omega

theorem MainSt.push {x : BA} (s : MainSt S w0 w2 wr B bu m m2 G c vl l v h) (o : Old S w2 B bu m2 G) (hp : PushPost (w2.heap.size + 1) v h x wr w') : ∃ v' h', MainSt S w0 w2 w' B bu m m2 G c vl l v' h' ∧ h'.Perm (x :: h) := by
  obtain ⟨v', h', h1, h2, h3, hk, h5⟩ := hp
  exact ⟨v', h', s.heap_step o hk h1 h3 h5, h2⟩

/-- A string is appended to what is told. -/
theorem MainSt.tell {x : BA} {ob : Obj} {g cap : Nat} {w5 : World} (s : MainSt S w0 w2 wr B bu m m2 G c vl l v h) (o : Old S w2 B bu m2 G)
    (ho : w5.ownsRow 0 9 1 (.slice (some ⟨g, 0, none⟩) (l.length + 1) cap) (l.length + 1) (l.map Value.string ++ [.string x])) (hg : (wr.alloc ob).grownBy w5 vl.ownBlock) (hat : vl.ownBlock = some g ∨ g = (wr.alloc ob).heap.size) :
    MainSt S w0 w2 w5 B bu m m2 G c (.slice (some ⟨g, 0, none⟩) (l.length + 1) cap) (l ++ [x]) v h := by
  have hk := app_kept hg
  have n1 : vl.ownBlock ≠ some B := Mps.not_row s.wt s.lst
  have n2 : vl.ownBlock ≠ some bu := Mps.not_row s.grp.map s.lst
  have n3 : vl.ownBlock ≠ some (w2.heap.size + 1) := heap_not_row s.rs.ptr (by decide) s.lst
  have hbu := o.bu_lt
  have hB := o.hB
  have hsz := s.sz
  have hsa : (wr.alloc ob).heap.size = wr.heap.size + 1 := by simp
  refine ⟨s.wt.kept hk n1, s.grp.kept hk n2 (fun d q hq e => s.lap d q hq e), s.rs.kept hk n3 (fun q hq e => s.hl q hq e), s.ish, s.below.trans (hk.below (by omega) ?_), s.ap, s.lo, ?_, ?_, ?_, ?_, ?_⟩
  · intro q hq e
    have := s.llo q e
    omega
  · have := hk.size
    omega
  · unfold OS
    simpa using ho
  · intro d q hq e
    simp only [Value.ownBlock, Option.some.injEq] at e
    subst e
    rcases hat with h1 | h1
    · exact s.lap d _ hq h1
    · have := o.row_lt hq
      omega
  · intro q hq
    simp only [Value.ownBlock, Option.some.injEq] at hq
    subst hq
    rcases hat with h1 | h1
    · exact s.llo _ h1
    · omega
  · intro q hq e
    simp only [Value.ownBlock, Option.some.injEq] at e
    subst e
    rcases hat with h1 | h1
    · exact s.hl _ hq h1
    · have := s.rs.own.block_lt hq
      omega

/-- A count is laid anew. -/
theorem MainSt.count {c' : Nd BA → Nat} (s : MainSt S w0 w2 wr B bu m m2 G c vl l v h) (o : Old S w2 B bu m2 G) (hm : Mps w' B (m + 1) (WF S c')) (hg : wr.grownBy w' (some B)) : MainSt S w0 w2 w' B bu (m + 1) m2 G c' vl l v h := by
  have hk := Kept.of_grown hg
  have n1 : vl.ownBlock ≠ some B := Mps.not_row s.wt s.lst
  have n4 : v.ownBlock ≠ some B := Mps.not_row s.wt s.rs.own
  have hbu := o.bu_lt
  have hB := o.hB
  have hsz := s.sz
  refine ⟨hm, s.grp.kept hk (by simp; exact fun e => o.hbb e.symm) ?_, s.rs.kept hk (by simp; omega) (fun q hq e => n4 (by rw [hq]; exact e)), s.ish, s.below.trans (hk.below (by omega) (fun q hq e => ?_)), s.ap, s.lo, ?_, s.lst.kept hk (fun q hq e => n1 (by rw [hq]; exact e)), s.lap, s.llo, s.hl⟩
  · intro d q hq e
    exact Mps.not_row s.wt (s.grp.row d) (by rw [hq]; exact e)
  · simp only [Option.some.injEq] at e
    omega
  · have := hk.size
    omega
end

/-- The counts when s has just been told and the first j of its users have been seen. -/
def cM (S : List (Nd BA)) (l : List BA) (s : BA) (j : Nat) (x : Nd BA) : Nat := if s ∈ x.deps ∧ x.name ∉ (users S s).take j then cnt l x else cnt (l ++ [s]) x

theorem cM_zero {S : List (Nd BA)} (h : (names S).Nodup) (l : List BA) (s : BA) : WF S (cnt l) = WF S (cM S l s 0) := WF_congr h fun x _ => by
  unfold cM
  by_cases e : s ∈ x.deps
  · rw [if_pos ⟨e, by simp⟩]
  · rw [if_neg (fun h => e h.1), cnt_snoc_not e]

theorem cM_last {S : List (Nd BA)} (h : (names S).Nodup) (l : List BA) (s : BA) : WF S (cM S l s (users S s).length) = WF S (cnt (l ++ [s])) := WF_congr h fun x hx => by
  unfold cM
  rw [List.take_of_length_le (Nat.le_refl _), if_neg]
  rintro ⟨h1, h2⟩
  exact h2 (mem_users.2 ⟨x, hx, rfl, h1⟩)

theorem user_at {S : List (Nd BA)} {s : BA} {j : Nat} {u : BA} (hu : (users S s)[j]? = some u) : ∃ y ∈ S, y.name = u ∧ s ∈ y.deps := mem_users.1 (List.mem_of_getElem? hu)

theorem cM_at {S : List (Nd BA)} (h : (names S).Nodup) {l : List BA} {s : BA} {j : Nat} {y : Nd BA} (hy : y ∈ S) (hd : s ∈ y.deps) (hu : (users S s)[j]? = some y.name) (hs : s ∉ l) : WF S (cM S l s j) y.name = some (.int .i64 ((cnt (l ++ [s]) y : Nat) + 1 : Int)) := by
  rw [WF_at h _ hy]
  obtain ⟨hj, e⟩ := List.getElem?_eq_some_iff.1 hu
  have hnt : y.name ∉ (users S s).take j := by
    intro hm
    obtain ⟨i, hi, e2⟩ := List.mem_take_iff_getElem.1 hm
    exact List.pairwise_iff_getElem.1 (nodup_users h s) i j (by omega) hj (by omega) (e2.trans e.symm)
  unfold cM
  rw [if_pos ⟨hd, hnt⟩, ← cnt_snoc_mem hs hd]
  rfl

theorem cM_step {S : List (Nd BA)} (h : (names S).Nodup) {l : List BA} {s : BA} {j : Nat} {y : Nd BA} (hy : y ∈ S) (hu : (users S s)[j]? = some y.name) : upd (WF S (cM S l s j)) y.name (.int .i64 (cnt (l ++ [s]) y : Nat)) = WF S (cM S l s (j + 1)) := by
  obtain ⟨hj, e⟩ := List.getElem?_eq_some_iff.1 hu
  refine WF_upd h hy ?_ fun x hx hne => ?_
  · unfold cM
    rw [if_neg]
    rintro ⟨_, h2⟩
    rw [List.take_succ_eq_append_getElem hj, e] at h2
    simp at h2
  · unfold cM
    rw [List.take_succ_eq_append_getElem hj, e]
    simp [hne]

#print axioms Grp.app
#print axioms usB_last
end Go.Proofs.YteamkpmkchmhnaaDoor
