/- A row of named patches of the call's own. -/
import Derived.Test.YteamkpmkchmhnaaDoorHeads
namespace Go.Proofs.YteamkpmkchmhnaaDoor
open Go.RowKit Go.Maps Go.WideMaps

theorem Tryd.infoN : (Tryd.prog.info? 30).map (fun i => (i.zero, i.size, i.bytes)) = some (some (.agg #[.string ByteArray.empty, .string ByteArray.empty, .slice none 0 0, .slice none 0 0]), 4, 80) := by kernel_rfl
theorem Tryd.elN : ElT Tryd.prog 22 30 4 80 := .mk' Tryd.underlying22 Tryd.infoN rfl (by decide)

/-- A named patch with its cells. -/
structure NX where
  x : Nd BA
  note : BA
  da : Option Addr
  dc : Nat
  oa : Option Addr
  ol : Nat
  oc : Nat

def NX.cells (e : NX) : List Value := [.string e.x.name, .string e.note, .slice e.da e.x.deps.length e.dc, .slice e.oa e.ol e.oc]

def NX.ok (w : World) (e : NX) : Prop := e.x.name.size ≤ maxLen ∧ RdV w (.slice e.da e.x.deps.length e.dc) e.x.deps

theorem nx_at (E : List NX) (k i : Nat) (hi : i < 4) : (E.flatMap NX.cells)[k * 4 + i]? = (E[k]?).bind fun e => e.cells[i]? := by
  induction E generalizing k with
  | nil => simp
  | cons e r ih =>
    rw [List.flatMap_cons]
    cases k with
    | zero => rw [List.getElem?_append_left (by simp [NX.cells]; omega)]; simp
    | succ k =>
      rw [List.getElem?_append_right (by simp [NX.cells]; omega)]
      have : (k + 1) * 4 + i - e.cells.length = k * 4 + i := by simp [NX.cells]; omega
      rw [this, ih k]
      simp

/-- A row of named patches of the call's own. -/
structure ON (w : World) (v : Value) (E : List NX) : Prop where
  row : w.ownsRow 0 30 4 v E.length (E.flatMap NX.cells)
  ok : ∀ e ∈ E, e.ok w

theorem ON.rd {w : World} {v : Value} {E : List NX} (h : ON w v E) : ∃ a c, v = .slice a E.length c ∧ RdN w a (E.map NX.x) := by
  rcases h.row.2 with ⟨hv, h0⟩ | ⟨g, cap, cur, hv, _⟩
  · have : E = [] := List.length_eq_zero_iff.1 h0
    subst this
    exact ⟨none, 0, hv, fun k x hk => by simp at hk⟩
  · refine ⟨_, cap, hv, fun k x hk => ?_⟩
    rw [List.getElem?_map, Option.map_eq_some_iff] at hk
    obtain ⟨e, he, rfl⟩ := hk
    have hlt := (List.getElem?_eq_some_iff.1 he).1
    have hr := h.row
    subst hv
    have at_ : ∀ i, i < 4 → w.cell? ⟨g, k * 4 + i, none⟩ = e.cells[i]? := fun i hi => by
      rw [World.ownsRow.cellAt hr (k * 4 + i) (by omega), nx_at E k i hi, he]
      rfl
    have ok := h.ok e (List.mem_of_getElem? he)
    refine ⟨g, 0, e.note, _, e.oa, e.ol, e.oc, rfl, ok.1, ?_, ?_, ?_, ?_, ok.2⟩
    · have := at_ 0 (by omega)
      rw [Nat.zero_add]
      exact this
    · have := at_ 1 (by omega)
      rw [Nat.zero_add]
      exact this
    · have := at_ 2 (by omega)
      rw [Nat.zero_add]
      exact this
    · have := at_ 3 (by omega)
      rw [Nat.zero_add]
      exact this
end Go.Proofs.YteamkpmkchmhnaaDoor
