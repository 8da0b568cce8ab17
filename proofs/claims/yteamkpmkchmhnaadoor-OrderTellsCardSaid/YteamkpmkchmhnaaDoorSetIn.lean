/- A set of named patches that came in with the call reads as the walks read it: from the row's own reading of the argument. -/
import Derived.Test.YteamkpmkchmhnaaDoorNamed
import Derived.ProofKit
import Derived.SizedLaws
import Derived.Deep.Slices
import Derived.Deep.Strs
namespace Go.Proofs.YteamkpmkchmhnaaDoor
open Go.ChangeShapes Go.WideShapes Go.ChangeAt Go.RowKit Go.Deep

theorem list_of {α : Type} {P : Nat → α → Prop} : ∀ (n : Nat), (∀ i, i < n → ∃ x, P i x) → ∃ S : List α, S.length = n ∧ ∀ k x, S[k]? = some x → P k x
  | 0, _ => ⟨[], rfl, fun k x h => by simp at h⟩
  | n + 1, h => by
    obtain ⟨S, hl, hp⟩ := list_of n (fun i hi => h i (by omega))
    obtain ⟨x, hx⟩ := h n (by omega)
    refine ⟨S ++ [x], by simp [hl], fun k y hk => ?_⟩
    by_cases e : k < n
    · rw [List.getElem?_append_left (by omega)] at hk
      exact hp k y hk
    · have hk' := (List.getElem?_eq_some_iff.1 hk).1
      have : k = n := by simp at hk'; omega
      subst this
      rw [List.getElem?_append_right (by omega)] at hk
      simp [hl] at hk
      subst hk
      exact hx

theorem list4 {α : Type} {l : List α} (h : l.length = 4) : ∃ a b c d, l = [a, b, c, d] := by
  match l, h with
  | [a, b, c, d], _ => exact ⟨a, b, c, d, rfl⟩

theorem weightsAll_mem {H : Type} {P : Program} {e : TypeId} {n : Nat} : ∀ {l : List (DataW H)} {d : DataW H}, d ∈ l → n ∈ d.weights P e → n ∈ DataW.weightsAll P e l
  | x :: r, d, h, hn => by
    rw [DataW.weightsAll, List.mem_append]
    rcases List.mem_cons.1 h with rfl | h
    · exact .inl hn
    · exact .inr (weightsAll_mem h hn)

theorem spot_none {w : World} {a : Addr} {v : Value} (h : w.cell? a = some v) : a = ⟨a.block, a.off, none⟩ := by
  unfold World.cell? at h
  obtain ⟨b, o, sp⟩ := a
  cases sp with
  | none => rfl
  | some s =>
    exfalso
    simp only at h
    split at h <;> simp at h

section
variable {H : Type} {enc : TypeId × Value → H} {W : World}

/-- A slice of strings that came in. -/
theorem strs_in {fuel : Nat} {v : Value} {y : DataW H × List MemPlace} (hf : DataW.trod enc Tryd.prog W 0 (fun _ => true) true fuel 25 [v] = some y) (hsz : ∀ n ∈ y.1.weights Tryd.prog 25, n ≤ reachBytes) :
    ∃ ss, RdV W v ss := by
  rcases open_strings Tryd.underlying25 Tryd.underlying9 (by kernel_rfl) hf with ⟨hcs, rfl⟩ | ⟨a, len, cap, ss, hcs, _, hl, hm, hz, rfl, hcell, hws⟩
  · obtain rfl : v = .slice none 0 0 := by simpa using hcs
    exact ⟨[], none, 0, rfl, by simp, by simp, by simp, fun k hk => by simp at hk, by simp, by simp⟩
  · obtain rfl : v = .slice (some a) len cap := by simpa using hcs
    simp only [if_true] at hz
    have hlen : (ss.take len).length = len := by rw [List.length_take]; omega
    have hw := hsz (ss.length * 16) (by
      have h16 : Tryd.prog.bytesOf 9 = 16 := by kernel_rfl
      simp only [DataW.weights, Tryd.underlying25, h16, List.mem_cons]
      left
      simp [strs]
      omega)
    unfold reachBytes at hw
    refine ⟨ss.take len, some a, cap, by rw [hlen], by simp, by omega, by rw [hlen]; omega, ?_, fun p hp hc => ?_, fun s hs => hws s (List.mem_of_mem_take hs)⟩
    · intro k hk
      have hk' : k < ss.length := by omega
      have h0 := hcell 0 (by omega)
      rw [show a.add 0 = a from by simp [Addr.add]] at h0
      have ha := spot_none h0
      refine ⟨a.block, a.off, by rw [← ha], ?_⟩
      have := hcell k hk'
      rw [ha, add_plain] at this
      rw [this, List.getElem_take]
      simp [List.getD, hk']
    · cases hp
      have h0 := hcell 0 (by omega)
      rw [show a.add 0 = a from by simp [Addr.add]] at h0
      exact World.block_lt_of_cell? W _ h0

theorem slice_in {t e : TypeId} (ht : Tryd.prog.underlying t = some (.slice e)) {fuel : Nat} {v : Value} {y : DataW H × List MemPlace} (hf : DataW.trod enc Tryd.prog W 0 (fun _ => true) true fuel t [v] = some y) : ∃ a n c, v = .slice a n c := by
  rcases open_slice ht hf with ⟨hcs, _⟩ | ⟨a, len, cap, _, _, _, _, hcs, _⟩
  · exact ⟨none, 0, 0, by simpa using hcs⟩
  · exact ⟨some a, len, cap, by simpa using hcs⟩

/-- One of the set. -/
theorem named_in {fuel : Nat} {cs : List Value} {y : DataW H × List MemPlace} (hf : DataW.trod enc Tryd.prog W 0 (fun _ => true) true fuel 30 cs = some y) (hsz : ∀ n ∈ y.1.weights Tryd.prog 30, n ≤ reachBytes) :
    ∃ (x : Nd BA) (note : BA) (dv : Value) (oa : Option Addr) (ol oc : Nat), cs = [.string x.name, .string note, dv, .slice oa ol oc] ∧ x.name.size ≤ maxLen ∧ RdV W dv x.deps := by
  obtain ⟨y0, y1, n1, rfl, hl, h0, h1⟩ := trod_struct2 Tryd.underlying30 hf
  obtain ⟨z0, z1, z2, n2, rfl, _, k0, k1, k2⟩ := trod_struct3 Tryd.underlying28 h1
  have hl4 : cs.length = 4 := hl.trans (by kernel_rfl)
  have c9 : Tryd.prog.cellsOf 9 = 1 := by kernel_rfl
  have c32 : Tryd.prog.cellsOf 28 = 3 := by kernel_rfl
  have c25 : Tryd.prog.cellsOf 25 = 1 := by kernel_rfl
  have c30 : Tryd.prog.cellsOf 26 = 1 := by kernel_rfl
  obtain ⟨a, b, c, d, rfl⟩ := list4 hl4
  · clear hl hl4 hf h1
    simp only [c9, c32, c25, c30, List.drop_zero, List.drop_succ_cons, List.take_succ_cons, List.take_zero] at h0 k0 k1 k2
    obtain ⟨nm, ha, rfl, hnm⟩ := DataW.trod_string Tryd.underlying9 h0
    obtain ⟨nt, hb, rfl, _⟩ := DataW.trod_string Tryd.underlying9 k0
    obtain ⟨oa, ol, oc, rfl⟩ := slice_in Tryd.underlying26 k2
    obtain ⟨ss, hss⟩ := strs_in k1 (fun n hn => hsz n (by
      simp only [DataW.weights, Tryd.underlying30, Tryd.underlying28, List.map_cons, List.map_nil, DataW.weightsEach, List.mem_append]
      exact .inr (.inl (.inr (.inl hn)))))
    refine ⟨⟨nm, ss⟩, nt, c, oa, ol, oc, ?_, hnm, hss⟩
    simp only [List.cons.injEq, and_true] at ha hb
    rw [ha, hb]

set_option maxRecDepth 100000 in
/-- The set. -/
theorem set_in {fuel : Nat} {v : Value} {y : DataW H × List MemPlace} (hf : DataW.trod enc Tryd.prog W 0 (fun _ => true) true fuel 22 [v] = some y) (hsz : ∀ n ∈ y.1.weights Tryd.prog 22, n ≤ reachBytes) :
    ∃ a n c S, v = .slice a n c ∧ S.length = n ∧ n ≤ 9000000000000 ∧ RdN W a S := by
  have c4 : Tryd.prog.cellsOf 30 = 4 := by kernel_rfl
  have b80 : Tryd.prog.bytesOf 30 = 80 := by kernel_rfl
  rcases open_slice Tryd.underlying22 hf with ⟨hcs, rfl⟩ | ⟨a, len, cap, m, n, D, Pl, hcs, _, hl, _, hm, rfl, hi⟩
  · exact ⟨none, 0, 0, [], by simpa using hcs, rfl, by simp, fun k x hk => by simp at hk⟩
  · simp only [if_true] at hm
    subst hm
    have hw : len * 80 ≤ reachBytes := by
      have := hsz ((len + (m - len)) * 80) (by simp [DataW.weights, Tryd.underlying22, b80])
      have : len * 80 ≤ (len + (m - len)) * 80 := Nat.mul_le_mul_right _ (by omega)
      omega
    unfold reachBytes at hw
    obtain ⟨S, hS, hP⟩ := list_of (P := fun i (x : Nd BA) => ∃ (note : BA) (dv : Value) (oa : Option Addr) (ol oc : Nat), x.name.size ≤ maxLen ∧ RdV W dv x.deps ∧ W.cell? (a.add (i * 4)) = some (.string x.name) ∧ W.cell? (a.add (i * 4 + 1)) = some (.string note) ∧ W.cell? (a.add (i * 4 + 2)) = some dv ∧ W.cell? (a.add (i * 4 + 3)) = some (.slice oa ol oc)) len (fun i hil => by
      obtain ⟨cs', hc, ht⟩ := hi i (by omega)
      rw [c4] at hc
      obtain ⟨x, note, dv, oa, ol, oc, rfl, h1, h2⟩ := named_in ht (fun n hn => hsz n (by
        simp only [DataW.weights, Tryd.underlying22, List.mem_cons, List.mem_append]
        right
        left
        exact weightsAll_mem (List.mem_map.2 ⟨i, List.mem_range.2 hil, rfl⟩) hn))
      obtain ⟨_, _, hat⟩ := World.cells?_some hc
      refine ⟨x, note, dv, oa, ol, oc, h1, h2, ?_, ?_, ?_, ?_⟩
      · have := hat 0 (by omega)
        rwa [add_add] at this
      · have := hat 1 (by omega)
        rwa [add_add] at this
      · have := hat 2 (by omega)
        rwa [add_add] at this
      · have := hat 3 (by omega)
        rwa [add_add] at this)
    refine ⟨some a, len, m, S, by simpa using hcs, hS, by omega, fun k x hk => ?_⟩
    obtain ⟨note, dv, oa, ol, oc, h1, h2, q0, q1, q2, q3⟩ := hP k x hk
    have hk' : k < len := by have := (List.getElem?_eq_some_iff.1 hk).1; omega
    obtain ⟨x0, hx0⟩ := get_of_lt (l := S) (k := 0) (by omega)
    obtain ⟨_, _, _, _, _, _, _, z0, _⟩ := hP 0 x0 hx0
    rw [show a.add (0 * 4) = a from by simp [Addr.add]] at z0
    have ha := spot_none z0
    rw [ha, add_plain] at q0 q1 q2 q3
    exact ⟨a.block, a.off, note, dv, oa, ol, oc, by rw [← ha], h1, q0, q1, q2, q3, h2⟩
end
end Go.Proofs.YteamkpmkchmhnaaDoor
