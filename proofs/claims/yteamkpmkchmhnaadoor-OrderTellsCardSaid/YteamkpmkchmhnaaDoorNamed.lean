/- A set of named patches that came in, as the walks read it. -/
import Derived.Test.YteamkpmkchmhnaaDoorBase
import Derived.Test.YteamkpmkchmhnaaDoorOrdThy
import Derived.Lib.Hide
import Derived.WalkLawsBesides
import Derived.WalkSpells
namespace Go.Proofs.YteamkpmkchmhnaaDoor
open Go.RowKit

/-- A slice of named patches reads as S, wherever it lies. -/
def RdN (w : World) (a : Option Addr) (S : List (Nd BA)) : Prop :=
  ∀ (k : Nat) (x : Nd BA), S[k]? = some x → ∃ b off note dv oa ol oc, a = some ⟨b, off, none⟩ ∧ x.name.size ≤ maxLen ∧ w.cell? ⟨b, off + k * 4, none⟩ = some (.string x.name) ∧ w.cell? ⟨b, off + k * 4 + 1, none⟩ = some (.string note) ∧
    w.cell? ⟨b, off + k * 4 + 2, none⟩ = some dv ∧ w.cell? ⟨b, off + k * 4 + 3, none⟩ = some (.slice oa ol oc) ∧ RdV w dv x.deps

theorem Below.keep {w w' : World} (hb : Below w.heap.size w w') {p : Addr} {v : Value} (hc : w.cell? p = some v) : w'.cell? p = some v := (hb.cell (World.block_lt_of_cell? w p hc)).trans hc

theorem get_of_lt {α : Type} {l : List α} {k : Nat} (h : k < l.length) : ∃ x, l[k]? = some x := ⟨l[k], List.getElem?_eq_getElem h⟩

theorem RdV.below {w w' : World} {v : Value} {ss : List BA} (h : RdV w v ss) (hb : Below w.heap.size w w') : RdV w' v ss := by
  have hk := (Kept.of_below hb)
  refine h.kept hk fun k hv h0 => ?_
  obtain ⟨a, c, rfl, _, _, _, _, h5, _⟩ := h
  cases a with
  | none => simp [Value.ownBlock] at hv
  | some p =>
    simp [Value.ownBlock] at hv
    have := h5 p rfl (by omega)
    omega

theorem RdN.below {w w' : World} {a : Option Addr} {S : List (Nd BA)} (h : RdN w a S) (hb : Below w.heap.size w w') : RdN w' a S := by
  intro k x hk
  obtain ⟨b, off, note, dv, oa, ol, oc, ha, hz, c0, c1, c2, c3, hd⟩ := h k x hk
  exact ⟨b, off, note, dv, oa, ol, oc, ha, hz, Below.keep hb c0, Below.keep hb c1, Below.keep hb c2, Below.keep hb c3, hd.below hb⟩

/-- What append asks of its source. -/
theorem RdV.src {w : World} {a : Option Addr} {n c : Nat} {ss : List BA} (h : RdV w (.slice a n c) ss) : n = ss.length ∧ (a = none → n = 0 ∧ c = 0) ∧ ∀ ad, a = some ad → ∀ j u, (ss.map Value.string)[j]? = some u → w.cell? (ad.add j) = some u := by
  obtain ⟨a', c', hv, h1, h2, _, h4, _, _⟩ := h
  cases hv
  refine ⟨rfl, fun e => ⟨by have := h1 e; omega, h1 e⟩, fun ad ha j u hu => ?_⟩
  rw [List.getElem?_map, Option.map_eq_some_iff] at hu
  obtain ⟨s, hs, rfl⟩ := hu
  obtain ⟨hj, rfl⟩ := List.getElem?_eq_some_iff.1 hs
  obtain ⟨b, off, hb, hc⟩ := h4 j hj
  rw [ha] at hb
  cases hb
  rw [show (⟨b, off, none⟩ : Addr).add j = ⟨b, off + j, none⟩ from by unfold Addr.add; split <;> simp_all]
  exact hc

/-- One of them, in a later world. -/
theorem RdN.nth {w wr : World} {a : Option Addr} {S : List (Nd BA)} {k : Nat} {y : Nd BA} (h : RdN w a S) (hb : Below w.heap.size w wr) (hy : S[k]? = some y) :
    ∃ b off note da dc oa ol oc, a = some ⟨b, off, none⟩ ∧ b < w.heap.size ∧ y.name.size ≤ maxLen ∧ wr.cell? ⟨b, off + k * 4, none⟩ = some (.string y.name) ∧ wr.cell? ⟨b, off + k * 4 + 1, none⟩ = some (.string note) ∧
    wr.cell? ⟨b, off + k * 4 + 2, none⟩ = some (.slice da y.deps.length dc) ∧ wr.cell? ⟨b, off + k * 4 + 3, none⟩ = some (.slice oa ol oc) ∧ RdV wr (.slice da y.deps.length dc) y.deps ∧ (∀ p, da = some p → 0 < y.deps.length → p.block < w.heap.size) ∧ RdV w (.slice da y.deps.length dc) y.deps := by
  obtain ⟨b, off, note, dv, oa, ol, oc, ha, hz, c0, c1, c2, c3, hd⟩ := h k y hy
  have hd' := hd.below hb
  have hd0 := hd
  obtain ⟨da, dc, rfl, _, h2, _, _, h5, _⟩ := hd
  exact ⟨b, off, note, da, dc, oa, ol, oc, ha, World.block_lt_of_cell? w _ c0, hz, Below.keep hb c0, Below.keep hb c1, Below.keep hb c2, Below.keep hb c3, hd', fun p hp h0 => h5 p hp (by omega), hd0⟩

def depSum (S : List (Nd BA)) : Nat := (S.map fun x => x.deps.length).sum

theorem depSum_succ {S : List (Nd BA)} {k : Nat} {x : Nd BA} (h : S[k]? = some x) : depSum (S.take (k + 1)) = depSum (S.take k) + x.deps.length := by
  obtain ⟨h1, rfl⟩ := List.getElem?_eq_some_iff.1 h
  unfold depSum
  rw [List.take_succ_eq_append_getElem h1, List.map_append, List.sum_append]
  simp

theorem depSum_bd (S : List (Nd BA)) (m : Nat) (h : ∀ x ∈ S, x.deps.length ≤ m) : depSum S ≤ S.length * m := by
  induction S with
  | nil => simp [depSum]
  | cons x r ih =>
    have h1 := h x (by simp)
    have h2 := ih (fun y hy => h y (by simp [hy]))
    unfold depSum at *
    simp only [List.map_cons, List.sum_cons, List.length_cons]
    rw [Nat.add_mul]
    omega

def smallB (S : List (Nd BA)) : Bool := decide (S.length ≤ 60) && decide (depSum S ≤ 400)

set_option maxRecDepth 100000 in
set_option maxHeartbeats 400000 in
theorem small_no (a : Option Addr) (n c : Nat) (S : List (Nd BA)) (w : World) (hn : S.length = n) (hm : n ≤ 9000000000000) (h : RdN w a S) (h60 : 60 < n) :
    Calls Tryd.prog 6 #[.slice a n c] w fun e w' => e = .returned (.bool false) ∧ Below w.heap.size w w' := by
  have HN := Lib.hid hn
  have HA := Lib.hid h
  clear hn h
  go_enter Tryd.func6, Tryd.ntmps6
  go_wp2
  go_loopw [3, 8] (fun q i wr => ∃ (x : Int) (k : Nat), q = .int .i64 x ∧ i = .int .i64 k ∧ k ≤ n ∧ Below w.heap.size w wr) (fun _ i _ => n - (intOf i).toNat)
  case atStart => exact ⟨0, 0, rfl, rfl, Nat.zero_le _, Below.refl _ _⟩
  case round =>
    obtain ⟨x, k, rfl, rfl, hk, hb⟩ := hrel
    by_cases hlt : k < n
    · obtain ⟨y, hy⟩ := get_of_lt (l := S) (k := k) (by rw [HN.out]; exact hlt)
      obtain ⟨b, off, note, dv, oa, ol, oc, rfl, _, c0, c1, c2, c3, hdv⟩ := (HA.out.below hb) k y hy
      obtain ⟨da, dc, rfl, _⟩ := hdv
      clear hy
      generalize y.name = nm at *
      generalize y.deps.length = dl at *
      go_wp2
      go_roundw
      case rel => exact ⟨_, k + 1, rfl, by go_num, by omega, hb.alloc hb.size _⟩
      case measure => simp [intOf]; omega
    · have hd : decide ((n : Int) ≤ 60) = false := by simp; omega
      obtain rfl : k = n := by omega
      go_wp2
      go_ret
      exact ⟨rfl, hb⟩

theorem depSum_take_le (S : List (Nd BA)) (k m : Nat) (h : ∀ x ∈ S, x.deps.length ≤ m) (hl : S.length ≤ 60) : depSum (S.take k) ≤ 60 * m := by
  have h1 := depSum_bd (S.take k) m (fun x hx => h x (List.mem_of_mem_take hx))
  have h2 : (S.take k).length * m ≤ 60 * m := Nat.mul_le_mul_right m (by simp; omega)
  omega

theorem RdN.size {w : World} {a : Option Addr} {S : List (Nd BA)} (h : RdN w a S) : ∀ x ∈ S, x.name.size ≤ maxLen := by
  intro x hx
  obtain ⟨k, hk, rfl⟩ := List.mem_iff_getElem.1 hx
  obtain ⟨b, off, note, dv, oa, ol, oc, _, h1, _⟩ := h k _ (List.getElem?_eq_getElem hk)
  exact h1

theorem RdN.depsize {w : World} {a : Option Addr} {S : List (Nd BA)} (h : RdN w a S) : ∀ x ∈ S, ∀ d ∈ x.deps, d.size ≤ maxLen := by
  intro x hx
  obtain ⟨k, hk, rfl⟩ := List.mem_iff_getElem.1 hx
  obtain ⟨b, off, note, dv, oa, ol, oc, _, _, _, _, _, _, hd⟩ := h k _ (List.getElem?_eq_getElem hk)
  obtain ⟨_, _, _, _, _, _, _, _, h7⟩ := hd
  exact h7

theorem RdN.deps_le {w : World} {a : Option Addr} {S : List (Nd BA)} (h : RdN w a S) : ∀ x ∈ S, x.deps.length ≤ 8796093022080 := by
  intro x hx
  obtain ⟨k, hk, rfl⟩ := List.mem_iff_getElem.1 hx
  obtain ⟨b, off, note, dv, oa, ol, oc, _, _, _, _, _, _, hd⟩ := h k _ (List.getElem?_eq_getElem hk)
  obtain ⟨_, _, _, _, _, h3, _⟩ := hd
  omega

set_option maxRecDepth 100000 in
set_option maxHeartbeats 400000 in
theorem small_yes (a : Option Addr) (n c : Nat) (S : List (Nd BA)) (w : World) (hn : S.length = n) (h : RdN w a S) (h60 : n ≤ 60) :
    Calls Tryd.prog 6 #[.slice a n c] w fun e w' => e = .returned (.bool (decide (depSum S ≤ 400))) ∧ Below w.heap.size w w' := by
  have HN := Lib.hid hn
  have HA := Lib.hid h
  have HD := Lib.hid h.deps_le
  clear hn h
  go_enter Tryd.func6, Tryd.ntmps6
  go_wp2
  go_loopw [3, 8] (fun q i wr => ∃ (k : Nat), q = .int .i64 (depSum (S.take k)) ∧ i = .int .i64 k ∧ k ≤ n ∧ Below w.heap.size w wr) (fun _ i _ => n - (intOf i).toNat)
  case atStart => exact ⟨0, by simp [depSum], rfl, Nat.zero_le _, Below.refl _ _⟩
  case round =>
    obtain ⟨k, rfl, rfl, hk, hb⟩ := hrel
    by_cases hlt : k < n
    · obtain ⟨y, hy⟩ := get_of_lt (l := S) (k := k) (by rw [HN.out]; exact hlt)
      obtain ⟨b, off, note, dv, oa, ol, oc, rfl, _, c0, c1, c2, c3, hdv⟩ := (HA.out.below hb) k y hy
      obtain ⟨da, dc, rfl, _⟩ := hdv
      have hs := Lib.hid (depSum_succ hy)
      have hb1 := depSum_take_le S k _ HD.out (by rw [HN.out]; exact h60)
      have hb2 := HD.out y (List.mem_of_getElem? hy)
      clear hy
      generalize y.name = nm at *
      generalize y.deps.length = dl at *
      generalize depSum (S.take k) = ds at *
      go_wp2
      go_roundw
      case rel => exact ⟨k + 1, by rw [hs.out]; go_num, by go_num, by omega, hb.alloc hb.size _⟩
      case measure => simp [intOf]; omega
    · have hd : decide ((n : Int) ≤ 60) = true := by simp; omega
      obtain rfl : k = n := by omega
      have hT : S.take k = S := List.take_of_length_le (by rw [HN.out]; exact Nat.le_refl _)
      rw [hT]
      go_wp2
      go_ret
      refine ⟨ret_bool ?_, hb⟩
      rw [Bool.eq_iff_iff]
      simp
      omega
end Go.Proofs.YteamkpmkchmhnaaDoor
