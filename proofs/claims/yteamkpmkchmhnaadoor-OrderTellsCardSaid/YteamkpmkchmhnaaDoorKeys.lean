/- slices.Sorted(maps.Keys(m)) at a map from strings to bools, in the words of rows. -/
import Derived.Test.YteamkpmkchmhnaaDoorMp
import Derived.Test.YteamkpmkchmhnaaDoorStrs
import Derived.Test.YteamkpmkchmhnaaDoorIter
namespace Go.Proofs.YteamkpmkchmhnaaDoor
open Go.RowKit Go.Sort Go.Maps Go.WideMaps Go.WideElems Go.ChangeMaps Go.WideShapes Go.ChangeShapes Go.MapKept

abbrev MpSt (w : World) (b n : Nat) (F : BA → Option Value) : Prop := Mp w Tryd.prog 9 (fun s : BA => Value.string s) b n F

theorem keys_of {P : Program} {k : TypeId} (hk0 : P.underlying k = some .string) {w : World} {b n : Nat} {F : BA → Option Value} (h : Mp w P k (fun s : BA => Value.string s) b n F) :
    ∃ D : DataW Value, w.ownsMap P k rawR b n D ∧ Maps.size D ≤ n ∧ (strKeys D).Nodup ∧ ∀ s : BA, bl s ∈ strKeys D ↔ (F s).isSome = true := by
  obtain ⟨es, clock, h1, h2, h3, h4, h5⟩ := h
  have hs : ∀ x ∈ es.toList, ∃ s : BA, x.key = .string s ∧ F s = some x.val ∧ (rg P k rawR x).1 = .string (bl s) := by
    intro x hx
    obtain ⟨s, hk, hF⟩ := h4 x hx
    obtain ⟨kl, hkl, hrg⟩ := rg_raw h2 hx
    refine ⟨s, hk, hF, ?_⟩
    rw [hrg]
    rw [hk] at hkl
    obtain ⟨x', ex, hx', _⟩ := Maps.keyOf_str hk0 hkl
    have : bl s = x' := by
      have := ex
      simp only [encStr, Value.string.injEq] at this
      rw [this]
      rfl
    rw [hx', this]
  have hperm : (strKeys (.map ((es.toList.map (rg P k rawR)).foldr DataW.insert []))).Perm (es.toList.map fun x => strOf (rg P k rawR x).1) := by
    have := (sorted_perm (es.toList.map (rg P k rawR))).map (fun p => strOf p.1)
    rw [List.map_map] at this
    exact this
  refine ⟨_, ⟨es, clock, h1, h2, h3, rfl⟩, ?_, ?_, fun s => ?_⟩
  · show List.length _ ≤ n
    rw [length_sorted]
    simpa using h3
  · rw [hperm.nodup_iff, List.Nodup, List.pairwise_map]
    have hp := Maps.fit_apart (string_keyed hk0) h2
    rw [List.pairwise_map] at hp
    refine hp.imp_of_mem ?_
    intro x y hx hy hne e
    obtain ⟨s, _, _, e1⟩ := hs x hx
    obtain ⟨t, _, _, e2⟩ := hs y hy
    rw [e1, e2] at hne e
    exact hne (by simp only [strOf] at e; rw [e])
  · rw [hperm.mem_iff, List.mem_map]
    constructor
    · rintro ⟨x, hx, e⟩
      obtain ⟨t, hk, hF, e1⟩ := hs x hx
      rw [e1] at e
      have : t = s := bl_inj e
      rw [← this, hF]
      rfl
    · intro hF
      obtain ⟨v, hv⟩ := Option.isSome_iff_exists.1 hF
      obtain ⟨x, hx, hk, _⟩ := h5 s v hv
      obtain ⟨t, hk', _, e1⟩ := hs x hx
      refine ⟨x, hx, ?_⟩
      rw [hk] at hk'
      simp only [Value.string.injEq] at hk'
      rw [e1, hk']
      rfl

theorem keys_any (b : Nat) (w : World) : Calls Tryd.prog 28 #[.map (some b)] w fun e w' => e = .returned (.func (.func 47) #[] #[.pointer (some ⟨w.heap.size, 0, none⟩)]) ∧ w.alloc (.cells #[.map (some b)] 60) = w' := by
  refine (callsIn_wide.1 (Tryd.maps_Keys_28 (some b) w)).mono ?_
  rintro e w' ⟨rfl, rfl⟩
  exact ⟨rfl, rfl⟩

/-- What slices.Sorted leaves. -/
def SortedPost (F : BA → Option Value) (lo : Nat) (e : Ending) (w' : World) : Prop :=
  ∃ v l, e = .returned v ∧ OS w' v l ∧ Srt l ∧ l.Nodup ∧ (∀ s, s ∈ l ↔ (F s).isSome = true) ∧ (l = [] → v = .slice none 0 0) ∧ (∀ q, v.ownBlock = some q → lo ≤ q)

theorem sorted_any (b n : Nat) (F : BA → Option Value) (w : World) (h : MpSt w b n F) (hn : n ≤ 1000000000000) :
    Calls Tryd.prog 27 #[.func (.func 47) #[] #[.pointer (some ⟨w.heap.size, 0, none⟩)]] (w.alloc (.cells #[.map (some b)] 60)) fun e w' =>
      SortedPost F w.heap.size e w' ∧ Below w.heap.size w w' := by
  obtain ⟨D, hown, hsz, hnd, hmem⟩ := keys_of Tryd.underlying9 h
  refine (callsIn_wide.1 (Tryd.slices_Sorted_keys_27_28 b n D rawR w hown (by unfold maxLen; omega) (by omega))).mono ?_
  rintro e w' ⟨v, ss, rfl, hp, ho, hnil, hb⟩
  have hw : (w.alloc (.cells #[.map (some b)] 60)).heap.size = w.heap.size + 1 := by simp
  refine ⟨⟨v, (ss.mergeSort leB).map lb, rfl, ?_, srt_merge _, ?_, fun s => ?_, fun e => ?_, fun q hq => ?_⟩, ?_⟩
  · have h1 := ho
    unfold OS
    rw [List.length_map, List.length_mergeSort, List.map_map]
    refine ⟨h1.1, ?_⟩
    rcases h1.2 with h2 | ⟨g, cap, cur, hv, _, r⟩
    · exact .inl h2
    · exact .inr ⟨g, cap, cur, hv, Nat.zero_le _, r⟩
  · have h1 : (ss.mergeSort leB).Nodup := (((List.mergeSort_perm ss leB).trans hp).nodup_iff).2 hnd
    rw [List.Nodup, List.pairwise_map]
    exact h1.imp fun {a b} hne (e : lb a = lb b) => hne (by rw [← bl_lb a, e, bl_lb])
  · rw [← hmem s, ← hp.mem_iff, ← (List.mergeSort_perm ss leB).mem_iff, List.mem_map]
    constructor
    · rintro ⟨x, hx, rfl⟩
      exact hx
    · intro hx
      exact ⟨bl s, hx, lb_bl s⟩
  · refine hnil.2 ?_
    have := congrArg List.length e
    rw [List.length_map, List.length_mergeSort] at this
    exact List.length_eq_zero_iff.1 this
  · have := (World.ownsRow.lt ho q hq).1
    omega
  · exact ((Below.refl _ w).alloc (Nat.le_refl _) _).trans (hb.mono (by omega))
#print axioms sorted_any
end Go.Proofs.YteamkpmkchmhnaaDoor
