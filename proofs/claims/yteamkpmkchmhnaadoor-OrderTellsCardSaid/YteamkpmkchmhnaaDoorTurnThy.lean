/- Plain: the order in which a set is told plays no part. No program in sight. -/
import Derived.Test.YteamkpmkchmhnaaDoorHeads
import Derived.Test.YteamkpmkchmhnaaDoorPast
namespace Go.Proofs.YteamkpmkchmhnaaDoor

section
variable {S T : List (Nd BA)}

theorem Greedy.perm {l : List BA} (p : S.Perm T) (h : Greedy ltB S l) : Greedy ltB T l := by
  intro k hk
  obtain ⟨⟨x, hx, h1⟩, h2⟩ := h k hk
  exact ⟨⟨x, p.mem_iff.1 hx, h1⟩, fun y hy hr => h2 y (p.mem_iff.2 hy) hr⟩

theorem LinRes.perm {l : List BA} {c : Nat} (p : S.Perm T) (h : LinRes ltB S l c) : LinRes ltB T l c := by
  have hn : (names S).Perm (names T) := p.map _
  cases h with
  | twice h => exact .twice (fun ht => h (hn.nodup_iff.2 ht))
  | dep h l hg hs hl => exact .dep (hn.nodup_iff.1 h) l (hg.perm p) (fun x hx => hs x (p.mem_iff.2 hx)) (by rw [← p.length_eq]; exact hl)
  | ok h _ hg hl => exact .ok (hn.nodup_iff.1 h) _ (hg.perm p) (by rw [← p.length_eq]; exact hl)

theorem Reach.perm {s t : BA} (p : S.Perm T) (h : Reach S s t) : Reach T s t := by
  have hn : ∀ d, d ∈ names S → d ∈ names T := fun d hd => (p.map Nd.name).mem_iff.1 hd
  have hd : ∀ s d, d ∈ depsOf S s → d ∈ depsOf T s := fun s d h => by
    obtain ⟨x, h1, h2, h3⟩ := mem_depsOf.1 h
    exact mem_depsOf.2 ⟨x, p.mem_iff.1 h1, h2, h3⟩
  induction h with
  | one h1 h2 => exact .one (hd _ _ h1) (hn _ h2)
  | step h1 h2 _ ih => exact .step (hd _ _ h1) (hn _ h2) ih

theorem heads_perm (p : S.Perm T) (s : BA) : (s ∈ names S ∧ ∀ x ∈ S, s ∉ x.deps) ↔ (s ∈ names T ∧ ∀ x ∈ T, s ∉ x.deps) := by
  have hn : s ∈ names S ↔ s ∈ names T := (p.map Nd.name).mem_iff
  rw [hn]
  exact ⟨fun h => ⟨h.1, fun x hx => h.2 x (p.mem_iff.2 hx)⟩, fun h => ⟨h.1, fun x hx => h.2 x (p.mem_iff.1 hx)⟩⟩
end

/-- Two sorted rows without twins that hold the same are one. -/
theorem srt_unique : ∀ {l m : List BA}, Srt l → Srt m → l.Nodup → m.Nodup → (∀ s, s ∈ l ↔ s ∈ m) → l = m
  | [], [], _, _, _, _, _ => rfl
  | [], b :: m, _, _, _, _, h => absurd ((h b).2 (by simp)) (by simp)
  | a :: l, [], _, _, _, _, h => absurd ((h a).1 (by simp)) (by simp)
  | a :: l, b :: m, hl, hm, nl, nm, h => by
    obtain ⟨l1, l2⟩ := List.pairwise_cons.1 hl
    obtain ⟨m1, m2⟩ := List.pairwise_cons.1 hm
    obtain ⟨n1, n2⟩ := List.nodup_cons.1 nl
    obtain ⟨k1, k2⟩ := List.nodup_cons.1 nm
    have e : a = b := Decidable.byContradiction fun hne => by
      have ha : a ∈ m := by
        have := (h a).1 (by simp)
        simpa [hne] using this
      have hb : b ∈ l := by
        have := (h b).2 (by simp)
        simpa [Ne.symm hne] using this
      have q1 := l1 b hb
      have q2 := m1 a ha
      rcases ltB_LO.total hne with t | t
      · rw [t] at q2; cases q2
      · rw [t] at q1; cases q1
    subst e
    rw [srt_unique l2 m2 n2 k2 (fun s => by
      constructor
      · intro hs
        have := (h s).1 (by simp [hs])
        rcases List.mem_cons.1 this with rfl | hh
        · exact absurd hs n1
        · exact hh
      · intro hs
        have := (h s).2 (by simp [hs])
        rcases List.mem_cons.1 this with rfl | hh
        · exact absurd hs k1
        · exact hh)]

/-- A set told backwards from a place on: what the law makes of it. -/
def turned {α : Type} (S : List α) (k : Nat) : List α := (S.drop k ++ S.take k).reverse

theorem turned_perm {α : Type} (S : List α) (k : Nat) : (turned S k).Perm S := by
  unfold turned
  refine (List.reverse_perm _).trans (List.perm_append_comm.trans ?_)
  rw [List.take_append_drop]

theorem turned_len {α : Type} (S : List α) (k : Nat) : (turned S k).length = S.length := (turned_perm S k).length_eq

theorem turned_at {α : Type} {S : List α} {k i : Nat} (hk : k < S.length) (hi : i < S.length) : (turned S k)[S.length - 1 - i]? = S[(i + k) % S.length]? := by
  unfold turned
  have hl : (S.drop k ++ S.take k).length = S.length := by simp; omega
  rw [List.getElem?_reverse (by rw [hl]; omega), hl, show S.length - 1 - (S.length - 1 - i) = i by omega]
  by_cases h : i + k < S.length
  · rw [Nat.mod_eq_of_lt h, List.getElem?_append_left (by simp; omega), List.getElem?_drop, Nat.add_comm]
  · have e : (i + k) % S.length = i + k - S.length := by
      rw [Nat.mod_eq_sub_mod (by omega), Nat.mod_eq_of_lt (by omega)]
    rw [e, List.getElem?_append_right (by simp; omega), List.length_drop, List.getElem?_take, if_pos (by omega)]
    congr 1
    omega
#print axioms srt_unique
end Go.Proofs.YteamkpmkchmhnaaDoor
