/- Slices in hand, as the laws' walks carry them. -/
import Derived.Test.YteamkpmkchmhnaaDoorAwake
namespace Go.Proofs.YteamkpmkchmhnaaDoor
open Go.RowKit Go.Maps Go.WideMaps

def TruePost (w : World) (e : Ending) (w' : World) : Prop := e = .returned (.bool true) ∧ Below w.heap.size w w'

theorem deps_1000 {S : List (Nd BA)} (h : depSum S ≤ 400) : ∀ x ∈ S, x.deps.length ≤ 1000 := by
  have key : ∀ (T : List (Nd BA)), ∀ x ∈ T, x.deps.length ≤ depSum T := by
    intro T
    induction T with
    | nil => simp
    | cons y r ih =>
      intro x hx
      unfold depSum at ih ⊢
      rw [List.map_cons, List.sum_cons]
      rcases List.mem_cons.1 hx with rfl | hx
      · omega
      · have := ih x hx
        omega
  intro x hx
  have := key S x hx
  omega

theorem RdS.later {w w' : World} {a : Option Addr} {ss : List BA} (h : RdS w a ss) (hb : Below w.heap.size w w') : RdS w' a ss := by
  intro k hk
  obtain ⟨b, off, ha, hc⟩ := h k hk
  exact ⟨b, off, ha, Below.keep hb hc⟩

theorem RdS.take {w : World} {a : Option Addr} {ss : List BA} (h : RdS w a ss) (q : Nat) : RdS w a (ss.take q) := by
  intro k hk
  have hk' : k < ss.length := by rw [List.length_take] at hk; omega
  obtain ⟨b, off, ha, hc⟩ := h k hk'
  exact ⟨b, off, ha, by rw [hc, List.getElem_take]⟩

theorem RdS.one {w : World} {a : Option Addr} {ss : List BA} (h : RdS w a ss) {b : Nat} (ha : a = some ⟨b, 0, none⟩) {k : Nat} {s : BA} (hs : ss[k]? = some s) : w.cell? ⟨b, k, none⟩ = some (.string s) := by
  obtain ⟨hk, rfl⟩ := List.getElem?_eq_some_iff.1 hs
  obtain ⟨b', off, hb, hc⟩ := h k hk
  rw [ha] at hb
  cases hb
  rwa [Nat.zero_add] at hc

/-- A slice of strings in hand: where it is, what it holds, that it is older than now. -/
structure SV (w : World) (v : Value) (a : Option Addr) (n c : Nat) (l : List BA) : Prop where
  val : v = .slice a n c
  len : l.length = n
  rd : RdS w a l
  lt : ∀ p, a = some p → p.block < w.heap.size

theorem OS.sv {w : World} {v : Value} {l : List BA} (h : OS w v l) : ∃ a n c, SV w v a n c l := by
  obtain ⟨a, c, rfl, hb⟩ := h.shape'
  refine ⟨a, _, c, rfl, rfl, h.rd, fun p hp => ?_⟩
  subst hp
  have : (Value.slice (some p) l.length c).ownBlock = some p.block := rfl
  exact h.block_lt this

theorem SV.later {w w' : World} {v : Value} {a : Option Addr} {n c : Nat} {l : List BA} (h : SV w v a n c l) (hb : Below w.heap.size w w') : SV w' v a n c l :=
  ⟨h.val, h.len, h.rd.later hb, fun p hp => Nat.lt_of_lt_of_le (h.lt p hp) hb.size⟩

theorem OS.cap {w : World} {a : Option Addr} {n c : Nat} {l : List BA} (h : OS w (.slice a n c) l) : n ≤ c := by
  rcases h.2 with ⟨hv, h0⟩ | ⟨g', cap, cur, hv, _, hg, h1, h2, _⟩
  · cases hv
    omega
  · cases hv
    exact h1

theorem RdS.len_le {l : List BA} {q n : Nat} (h : l.length = n) (hq : q ≤ n) : (l.take q).length = q := by rw [List.length_take, h]; omega

theorem SV.kept {S : Nat → Prop} {w w' : World} {v : Value} {a : Option Addr} {n c : Nat} {l : List BA} (h : SV w v a n c l) (hk : Kept S w w') (hs : ∀ p, a = some p → ¬ S p.block) : SV w' v a n c l :=
  ⟨h.val, h.len, h.rd.kept hk hs, fun p hp => Nat.lt_of_lt_of_le (h.lt p hp) hk.size⟩

/-- Go's reckoning of a place in a list. -/
theorem turn_lt (x : Int) (n : Nat) (h : 0 < n) : ∃ q : Nat, q < n ∧ (x.tmod n + n).tmod n = q := by
  have h1 : (x.tmod n).natAbs < n := by
    have := Int.natAbs_tmod x n
    rw [this]
    exact Nat.mod_lt _ (by simpa using h)
  have h0 : 0 ≤ x.tmod n + n := by omega
  refine ⟨((x.tmod n + n).tmod n).toNat, ?_, ?_⟩
  · have := Int.tmod_lt_of_pos (x.tmod n + n) (b := n) (by omega)
    omega
  · have := Int.tmod_nonneg (a := x.tmod n + n) n h0
    omega
end Go.Proofs.YteamkpmkchmhnaaDoor
