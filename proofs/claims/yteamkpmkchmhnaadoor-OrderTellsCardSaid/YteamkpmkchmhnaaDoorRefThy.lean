/- Plain: what the document's answer for layer 6 reckons. No program in sight. -/
import Derived.Test.YteamkpmkchmhnaaDoorPast
namespace Go.Proofs.YteamkpmkchmhnaaDoor

def insB (s : BA) : List BA → List BA
  | [] => [s]
  | x :: r => if ltB s x = true then s :: x :: r else x :: insB s r

/-- A name put in its place, as the loop puts it. -/
def addSt (s : BA) (p : List BA × Bool) (x : BA) : List BA × Bool := if p.2 = false ∧ ltB s x = true then (p.1 ++ [s] ++ [x], true) else (p.1 ++ [x], p.2)
def addFin (s : BA) (p : List BA × Bool) : List BA := if p.2 = true then p.1 else p.1 ++ [s]
def addL (l : List BA) (s : BA) : List BA := if s ∈ l then l else addFin s (l.foldl (addSt s) ([], false))

theorem addSt_done (s : BA) : ∀ (l acc : List BA), l.foldl (addSt s) (acc, true) = (acc ++ l, true)
  | [], acc => by simp
  | x :: r, acc => by
    rw [List.foldl_cons]
    have : addSt s (acc, true) x = (acc ++ [x], true) := by simp [addSt]
    rw [this, addSt_done s r]
    simp

theorem addFin_ins (s : BA) : ∀ (l acc : List BA), addFin s (l.foldl (addSt s) (acc, false)) = acc ++ insB s l
  | [], acc => by simp [addFin, insB]
  | x :: r, acc => by
    rw [List.foldl_cons]
    by_cases h : ltB s x = true
    · have : addSt s (acc, false) x = (acc ++ [s] ++ [x], true) := by simp [addSt, h]
      rw [this, addSt_done]
      simp [addFin, insB, h]
    · have : addSt s (acc, false) x = (acc ++ [x], false) := by simp [addSt, h]
      rw [this, addFin_ins s r]
      simp [insB, h]

theorem addL_eq (l : List BA) (s : BA) : addL l s = if s ∈ l then l else insB s l := by
  unfold addL
  rw [addFin_ins]
  rfl

theorem insB_perm (s : BA) : ∀ l, (insB s l).Perm (s :: l)
  | [] => .refl _
  | x :: r => by
    unfold insB
    split
    · exact .refl _
    · exact ((insB_perm s r).cons x).trans (.swap s x r)

theorem srt_insB {s : BA} : ∀ {l : List BA}, Srt l → Srt (insB s l)
  | [], _ => by simp [insB, Srt]
  | x :: r, h => by
    obtain ⟨h1, h2⟩ := List.pairwise_cons.1 h
    unfold insB
    split
    · rename_i hlt
      refine List.pairwise_cons.2 ⟨fun y hy => ?_, h⟩
      rcases List.mem_cons.1 hy with rfl | hy
      · exact ltB_LO.asymm hlt
      · exact ltB_LO.ge_trans (h1 y hy) (ltB_LO.asymm hlt)
    · rename_i hlt
      refine List.pairwise_cons.2 ⟨fun y hy => ?_, srt_insB h2⟩
      have := (insB_perm s r).mem_iff.1 hy
      rcases List.mem_cons.1 this with rfl | hy
      · simpa using hlt
      · exact h1 y hy

theorem mem_addL {l : List BA} {s t : BA} : t ∈ addL l s ↔ t = s ∨ t ∈ l := by
  rw [addL_eq]
  split
  · rename_i h
    constructor
    · exact .inr
    · rintro (rfl | h')
      · exact h
      · exact h'
  · rw [(insB_perm s l).mem_iff, List.mem_cons]

theorem srt_addL {l : List BA} {s : BA} (h : Srt l) : Srt (addL l s) := by
  rw [addL_eq]
  split
  · exact h
  · exact srt_insB h

theorem nodup_addL {l : List BA} {s : BA} (h : l.Nodup) : (addL l s).Nodup := by
  rw [addL_eq]
  split
  · exact h
  · rename_i hn
    exact (insB_perm s l).nodup_iff.2 (List.nodup_cons.2 ⟨hn, h⟩)

/-- The least of those that are ready, as the loop finds it. -/
def rdyB (told : List BA) (x : Nd BA) : Bool := !decide (x.name ∈ told) && decide (∀ d ∈ x.deps, d ∈ told)
theorem rdyB_iff {told : List BA} {x : Nd BA} : rdyB told x = true ↔ rdy told x := by
  unfold rdyB rdy
  simp
def leastSt (told : List BA) (p : BA × Bool) (x : Nd BA) : BA × Bool := if rdyB told x = true ∧ (p.2 = false ∨ ltB x.name p.1 = true) then (x.name, true) else p
def leastL (S : List (Nd BA)) (told : List BA) : BA × Bool := S.foldl (leastSt told) (ByteArray.empty, false)

/-- What of a beginning of the set the search has found. -/
def LeastOf (S : List (Nd BA)) (told : List BA) (p : BA × Bool) : Prop :=
  (p.2 = false ∧ ∀ x ∈ S, ¬ rdy told x) ∨ (p.2 = true ∧ (∃ x ∈ S, x.name = p.1 ∧ rdy told x) ∧ ∀ y ∈ S, rdy told y → ltB y.name p.1 = false)

theorem LeastOf.next {S : List (Nd BA)} {told : List BA} {p : BA × Bool} {x : Nd BA} (h : LeastOf S told p) : LeastOf (S ++ [x]) told (leastSt told p x) := by
  unfold leastSt
  by_cases hr : rdyB told x = true
  · have hx := rdyB_iff.1 hr
    rcases h with ⟨h1, h2⟩ | ⟨h1, ⟨y, hy, hn, hyr⟩, h3⟩
    · rw [if_pos ⟨hr, .inl h1⟩]
      refine .inr ⟨rfl, ⟨x, by simp, rfl, hx⟩, fun y hy hyr => ?_⟩
      rcases List.mem_append.1 hy with hy | hy
      · exact absurd hyr (h2 y hy)
      · have : y = x := by simpa using hy
        rw [this]; exact ltB_LO.irr _
    · by_cases hlt : ltB x.name p.1 = true
      · rw [if_pos ⟨hr, .inr hlt⟩]
        refine .inr ⟨rfl, ⟨x, by simp, rfl, hx⟩, fun z hz hzr => ?_⟩
        rcases List.mem_append.1 hz with hz | hz
        · exact ltB_LO.ge_trans (h3 z hz hzr) (ltB_LO.asymm hlt)
        · have : z = x := by simpa using hz
          rw [this]; exact ltB_LO.irr _
      · rw [if_neg (by simp [h1, hlt])]
        refine .inr ⟨h1, ⟨y, by simp [hy], hn, hyr⟩, fun z hz hzr => ?_⟩
        rcases List.mem_append.1 hz with hz | hz
        · exact h3 z hz hzr
        · have : z = x := by simpa using hz
          rw [this]; simpa using hlt
  · rw [if_neg (by simp [hr])]
    have hx : ¬ rdy told x := fun h => hr (rdyB_iff.2 h)
    rcases h with ⟨h1, h2⟩ | ⟨h1, ⟨y, hy, hn, hyr⟩, h3⟩
    · refine .inl ⟨h1, fun z hz => ?_⟩
      rcases List.mem_append.1 hz with hz | hz
      · exact h2 z hz
      · have : z = x := by simpa using hz
        rw [this]; exact hx
    · refine .inr ⟨h1, ⟨y, by simp [hy], hn, hyr⟩, fun z hz hzr => ?_⟩
      rcases List.mem_append.1 hz with hz | hz
      · exact h3 z hz hzr
      · have : z = x := by simpa using hz
        subst this
        exact absurd hzr hx

theorem leastL_of (S : List (Nd BA)) (told : List BA) : LeastOf S told (leastL S told) := by
  have key : ∀ (T U : List (Nd BA)) p, LeastOf U told p → LeastOf (U ++ T) told (T.foldl (leastSt told) p) := by
    intro T
    induction T with
    | nil => intro U p h; simpa using h
    | cons x r ih =>
      intro U p h
      have := ih (U ++ [x]) _ h.next
      simpa using this
  exact key S [] (ByteArray.empty, false) (.inl ⟨rfl, by simp⟩)

theorem foldl_take {α β : Type} (f : β → α → β) (b : β) {l : List α} {k : Nat} {x : α} (h : l[k]? = some x) : (l.take (k + 1)).foldl f b = f ((l.take k).foldl f b) x := by
  obtain ⟨h1, rfl⟩ := List.getElem?_eq_some_iff.1 h
  rw [List.take_succ_eq_append_getElem h1, List.foldl_append]
  rfl

/-- What a thing needs that is of the set and hasn't been told yet. -/
def Cand (S : List (Nd BA)) (nm : BA) (l : List BA) (s : BA) : Prop := ∃ x ∈ S, (x.name = nm ∨ x.name ∈ l) ∧ s ∈ x.deps ∧ s ∈ names S ∧ s ∉ l

/-- The past as far as it has been gone through. -/
structure PastIn (S : List (Nd BA)) (nm : BA) (l : List BA) : Prop where
  srt : Srt l
  nd : l.Nodup
  sound : ∀ s ∈ l, Reach S nm s

theorem PastIn.start (S : List (Nd BA)) (nm : BA) : PastIn S nm [] := ⟨List.Pairwise.nil, List.nodup_nil, by simp⟩

theorem reach_snoc {S : List (Nd BA)} {a b c : BA} (h : Reach S a b) (hd : c ∈ depsOf S b) (hn : c ∈ names S) : Reach S a c := by
  induction h with
  | one h1 h2 => exact .step h1 h2 (.one hd hn)
  | step h1 h2 _ ih => exact .step h1 h2 (ih hd)

theorem Cand.reach {S : List (Nd BA)} {nm : BA} {l : List BA} {s : BA} (h : Cand S nm l s) (hp : PastIn S nm l) : Reach S nm s := by
  obtain ⟨x, hx, h1, h2, h3, _⟩ := h
  have hd : s ∈ depsOf S x.name := mem_depsOf.2 ⟨x, hx, rfl, h2⟩
  rcases h1 with rfl | h1
  · exact .one hd h3
  · exact reach_snoc (hp.sound _ h1) hd h3

theorem PastIn.whole {S : List (Nd BA)} {nm : BA} {l : List BA} (hp : PastIn S nm l) (h : ∀ s, ¬ Cand S nm l s) (s : BA) : s ∈ l ↔ Reach S nm s := by
  refine ⟨hp.sound s, fun hr => ?_⟩
  have key : ∀ a b, Reach S a b → (a = nm ∨ a ∈ l) → b ∈ l := by
    intro a b hr
    have one : ∀ a b, b ∈ depsOf S a → b ∈ names S → (a = nm ∨ a ∈ l) → b ∈ l := fun a b hd hn ha => by
      obtain ⟨x, hx, he, hxd⟩ := mem_depsOf.1 hd
      refine Decidable.byContradiction fun hnl => h b ⟨x, hx, by rw [he]; exact ha, hxd, hn, hnl⟩
    induction hr with
    | one h1 h2 => exact one _ _ h1 h2
    | step h1 h2 _ ih => exact fun ha => ih (.inr (one _ _ h1 h2 ha))
  exact key nm s hr (.inl rfl)

theorem PastIn.add {S : List (Nd BA)} {nm : BA} {l : List BA} {s : BA} (hp : PastIn S nm l) (h : Reach S nm s) : PastIn S nm (addL l s) :=
  ⟨srt_addL hp.srt, nodup_addL hp.nd, fun t ht => by
    rcases mem_addL.1 ht with rfl | ht
    · exact h
    · exact hp.sound t ht⟩

theorem PastIn.le {S : List (Nd BA)} {nm : BA} {l : List BA} (hp : PastIn S nm l) : l.length ≤ S.length := by
  have := List.Nodup.length_le_of_subset (l₁ := l) (l₂ := names S) hp.nd (fun s hs => (hp.sound s hs).name)
  simpa [names] using this

/-- Once through the set: what has been found. -/
structure MoreIn (S : List (Nd BA)) (nm : BA) (l more : List BA) (i k : Nat) : Prop where
  srt : Srt more
  nd : more.Nodup
  sound : ∀ s ∈ more, Cand S nm l s
  whole : ∀ x ∈ S.take i, (x.name = nm ∨ x.name ∈ l) → ∀ d ∈ x.deps, d ∈ names S → d ∉ l → d ∈ more
  cur : ∀ x, S[i]? = some x → (x.name = nm ∨ x.name ∈ l) → ∀ d ∈ x.deps.take k, d ∈ names S → d ∉ l → d ∈ more

namespace MoreIn
variable {S : List (Nd BA)} {nm : BA} {l more : List BA} {i k : Nat}
theorem start (S : List (Nd BA)) (nm : BA) (l : List BA) : MoreIn S nm l [] 0 0 := ⟨List.Pairwise.nil, List.nodup_nil, by simp, by simp, by simp⟩

theorem pass {x : Nd BA} (h : MoreIn S nm l more i 0) (hx : S[i]? = some x) (hn : ¬ (x.name = nm ∨ x.name ∈ l)) : MoreIn S nm l more (i + 1) 0 :=
  ⟨h.srt, h.nd, h.sound, fun y hy => by
    obtain ⟨h1, rfl⟩ := List.getElem?_eq_some_iff.1 hx
    rw [List.take_succ_eq_append_getElem h1] at hy
    rcases List.mem_append.1 hy with hy | hy
    · exact h.whole y hy
    · have : y = S[i] := by simpa using hy
      subst this
      exact fun h => absurd h hn, by simp⟩

theorem next {x : Nd BA} (h : MoreIn S nm l more i x.deps.length) (hx : S[i]? = some x) : MoreIn S nm l more (i + 1) 0 :=
  ⟨h.srt, h.nd, h.sound, fun y hy => by
    obtain ⟨h1, rfl⟩ := List.getElem?_eq_some_iff.1 hx
    rw [List.take_succ_eq_append_getElem h1] at hy
    rcases List.mem_append.1 hy with hy | hy
    · exact h.whole y hy
    · have : y = S[i] := by simpa using hy
      subst this
      intro hc d hd
      exact h.cur _ hx hc d (by rw [List.take_length]; exact hd), by simp⟩

theorem skip {x : Nd BA} {d : BA} (h : MoreIn S nm l more i k) (hx : S[i]? = some x) (hd : x.deps[k]? = some d) (hc : ¬ (d ∈ names S ∧ d ∉ l)) : MoreIn S nm l more i (k + 1) :=
  ⟨h.srt, h.nd, h.sound, h.whole, fun y hy ha e he h1 h2 => by
    rw [hx] at hy
    cases hy
    obtain ⟨q1, rfl⟩ := List.getElem?_eq_some_iff.1 hd
    rw [List.take_succ_eq_append_getElem q1] at he
    rcases List.mem_append.1 he with he | he
    · exact h.cur x hx ha e he h1 h2
    · have : e = x.deps[k] := by simpa using he
      subst this
      exact absurd ⟨h1, h2⟩ hc⟩

theorem add {x : Nd BA} {d : BA} (h : MoreIn S nm l more i k) (hx : S[i]? = some x) (hd : x.deps[k]? = some d) (ha : x.name = nm ∨ x.name ∈ l) (h1 : d ∈ names S) (h2 : d ∉ l) : MoreIn S nm l (addL more d) i (k + 1) :=
  ⟨srt_addL h.srt, nodup_addL h.nd, fun s hs => by
    rcases mem_addL.1 hs with rfl | hs
    · exact ⟨x, List.mem_of_getElem? hx, ha, List.mem_of_getElem? hd, h1, h2⟩
    · exact h.sound s hs, fun y hy hc e he g1 g2 => mem_addL.2 (.inr (h.whole y hy hc e he g1 g2)), fun y hy hc e he g1 g2 => by
    rw [hx] at hy
    cases hy
    obtain ⟨q1, rfl⟩ := List.getElem?_eq_some_iff.1 hd
    rw [List.take_succ_eq_append_getElem q1] at he
    rcases List.mem_append.1 he with he | he
    · exact mem_addL.2 (.inr (h.cur x hx hc e he g1 g2))
    · exact mem_addL.2 (.inl (by simpa using he))⟩

theorem none (h : MoreIn S nm l [] S.length 0) (s : BA) : ¬ Cand S nm l s := by
  rintro ⟨x, hx, h1, h2, h3, h4⟩
  have := h.whole x (by rw [List.take_length]; exact hx) h1 s h2 h3 h4
  cases this

theorem le (h : MoreIn S nm l more i k) : more.length ≤ S.length := by
  have := List.Nodup.length_le_of_subset (l₁ := more) (l₂ := names S) h.nd (fun s hs => by
    obtain ⟨_, _, _, _, h3, _⟩ := h.sound s hs
    exact h3)
  simpa [names] using this
end MoreIn

theorem nodup_mem_append {α : Type} [DecidableEq α] {l : List α} (h : ∀ i (hi : i < l.length), l[i] ∉ l.take i) : l.Nodup := by
  rw [List.Nodup, List.pairwise_iff_getElem]
  intro i j hi hj hij e
  refine h j hj ?_
  rw [← e]
  exact List.mem_take_iff_getElem.2 ⟨i, by omega, rfl⟩
#print axioms MoreIn.none
end Go.Proofs.YteamkpmkchmhnaaDoor
