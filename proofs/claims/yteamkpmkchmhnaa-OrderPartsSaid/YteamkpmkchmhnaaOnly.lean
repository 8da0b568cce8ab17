/- tambourlaw06's closure 'only': those of a set whose names are on a list. -/
import Derived.Test.YteamkpmkchmhnaaHeads
namespace Go.Proofs.Yteamkpmkchmhnaa
open Go.RowKit Go.Maps Go.WideMaps

theorem Try.infoN : (Try.prog.info? 34).map (fun i => (i.zero, i.size, i.bytes)) = some (some (.agg #[.string ByteArray.empty, .string ByteArray.empty, .slice none 0 0, .slice none 0 0]), 4, 80) := by kernel_rfl
theorem Try.elN : ElT Try.prog 22 34 4 80 := .mk' Try.underlying22 Try.infoN rfl (by decide)

/-- A named patch with its cells. -/
structure NX where
  x : Nd BA
  note : BA
  da : Option Addr
  dc : Nat
  oa : Option Addr
  ol : Nat
  oc : Nat

def NX.cells (e : NX) : List Value := [.string e.x.name, .string e.note, .slice e.da e.x.deps.length e.dc, .slice e.oa e.ol e.oc]

def NX.ok (w : World) (e : NX) : Prop := e.x.name.size ≤ maxLen ∧ RdV w (.slice e.da e.x.deps.length e.dc) e.x.deps

theorem nx_at (E : List NX) (k i : Nat) (hi : i < 4) : (E.flatMap NX.cells)[k * 4 + i]? = (E[k]?).bind fun e => e.cells[i]? := by
  induction E generalizing k with
  | nil => simp
  | cons e r ih =>
    rw [List.flatMap_cons]
    cases k with
    | zero => rw [List.getElem?_append_left (by simp [NX.cells]; omega)]; simp
    | succ k =>
      rw [List.getElem?_append_right (by simp [NX.cells]; omega)]
      have : (k + 1) * 4 + i - e.cells.length = k * 4 + i := by simp [NX.cells]; omega
      rw [this, ih k]
      simp

/-- A row of named patches of the call's own. -/
structure ON (w : World) (v : Value) (E : List NX) : Prop where
  row : w.ownsRow 0 34 4 v E.length (E.flatMap NX.cells)
  ok : ∀ e ∈ E, e.ok w

theorem ON.rd {w : World} {v : Value} {E : List NX} (h : ON w v E) : ∃ a c, v = .slice a E.length c ∧ RdN w a (E.map NX.x) := by
  rcases h.row.2 with ⟨hv, h0⟩ | ⟨g, cap, cur, hv, _⟩
  · have : E = [] := List.length_eq_zero_iff.1 h0
    subst this
    exact ⟨none, 0, hv, fun k x hk => by simp at hk⟩
  · refine ⟨_, cap, hv, fun k x hk => ?_⟩
    rw [List.getElem?_map, Option.map_eq_some_iff] at hk
    obtain ⟨e, he, rfl⟩ := hk
    have hlt := (List.getElem?_eq_some_iff.1 he).1
    have hr := h.row
    subst hv
    have at_ : ∀ i, i < 4 → w.cell? ⟨g, k * 4 + i, none⟩ = e.cells[i]? := fun i hi => by
      rw [World.ownsRow.cellAt hr (k * 4 + i) (by omega), nx_at E k i hi, he]
      rfl
    have ok := h.ok e (List.mem_of_getElem? he)
    refine ⟨g, 0, e.note, _, e.oa, e.ol, e.oc, rfl, ok.1, ?_, ?_, ?_, ?_, ok.2⟩
    · have := at_ 0 (by omega)
      rw [Nat.zero_add]
      exact this
    · have := at_ 1 (by omega)
      rw [Nat.zero_add]
      exact this
    · have := at_ 2 (by omega)
      rw [Nat.zero_add]
      exact this
    · have := at_ 3 (by omega)
      rw [Nat.zero_add]
      exact this

/-- Those of the list. -/
def onlyS (S : List (Nd BA)) (l : List BA) : List (Nd BA) := S.filter fun x => decide (x.name ∈ l)

theorem onlyS_succ {S : List (Nd BA)} {k : Nat} {y : Nd BA} (l : List BA) (hy : S[k]? = some y) : onlyS (S.take (k + 1)) l = onlyS (S.take k) l ++ if y.name ∈ l then [y] else [] := by
  obtain ⟨hk, rfl⟩ := List.getElem?_eq_some_iff.1 hy
  unfold onlyS
  rw [List.take_succ_eq_append_getElem hk, List.filter_append]
  congr 1
  by_cases h : S[k].name ∈ l
  · simp [h]
  · simp [h]

/-- What 'only' answers. -/
def OnlyPost (S : List (Nd BA)) (l : List BA) (w : World) (e : Ending) (w' : World) : Prop :=
  ∃ a n c, e = .returned (.slice a n c) ∧ (onlyS S l).length = n ∧ RdN w' a (onlyS S l) ∧ Below w.heap.size w w'

set_option maxRecDepth 100000 in
set_option maxHeartbeats 1000000 in
theorem only_any (p : Nat) (a : Option Addr) (n c : Nat) (S : List (Nd BA)) (la : Option Addr) (ln lc : Nat) (l : List BA) (w : World) (hp : w.cell? ⟨p, 0, none⟩ = some (.slice a n c)) (hn : S.length = n) (hm : n ≤ 1000) (h : RdN w a S)
    (hln : l.length = ln) (hlm : ln ≤ 1000000) (hl : RdS w la l) (hlb : ∀ q, la = some q → q.block < w.heap.size) :
    Calls Try.prog 12 #[.slice la ln lc, .pointer (some ⟨p, 0, none⟩)] w (OnlyPost S l w) := by
  have HN := Lib.hid hn
  have HA := Lib.hid h
  have HL := Lib.hid hl
  have HLN := Lib.hid hln
  have HLB := Lib.hid hlb
  clear hn h hl hln hlb
  go_enter Try.func12, Try.ntmps12
  go_wp2_with fail
  clear hp
  go_loopw [4, 9] (fun v i wr => ∃ (vv : Value) (k : Nat) (E : List NX), vv = v ∧ i = .int .i64 k ∧ k ≤ n ∧ wr.ownsRow 0 34 4 v E.length (E.flatMap NX.cells) ∧ (∀ e ∈ E, e.ok w) ∧ E.map NX.x = onlyS (S.take k) l ∧ Below w.heap.size w wr ∧ (∀ q, v.ownBlock = some q → w.heap.size ≤ q)) (fun _ i _ => n - (intOf i).toNat)
  case atStart => exact ⟨_, 0, [], rfl, rfl, Nat.zero_le _, World.ownsRow_nil _ _ _ _, by simp, by simp [onlyS], Below.refl _ _, by simp [Value.ownBlock]⟩
  case round =>
    obtain ⟨vv, k, E, rfl, rfl, hk, ho, hok, hE, hb, hlo⟩ := hrel
    by_cases hlt : k < n
    · obtain ⟨y, hy⟩ := get_of_lt (l := S) (k := k) (by rw [HN.out]; exact hlt)
      obtain ⟨b, off, note, da, dc, oa, ol, oc, rfl, _, hns, c0, c1, c2, c3, _, _, hdv⟩ := HA.out.nth hb hy
      have hEl : E.length ≤ n := by
        have := congrArg List.length hE
        rw [List.length_map] at this
        have h2 : (onlyS (S.take k) l).length ≤ (S.take k).length := List.length_filter_le _ _
        rw [List.length_take] at h2
        omega
      have HO := Lib.hid ho
      have HOK := Lib.hid hok
      have HE := Lib.hid hE
      have HB := Lib.hid hb
      have HLO := Lib.hid hlo
      have HY := Lib.hid hy
      have HDV := Lib.hid hdv
      have HNS := Lib.hid hns
      clear ho hok hE hb hlo hy hdv hns
      go_wp2_with fail
      refine (place_any la lc ln l y.name _ HLN.out (by omega) (HL.out.kept (Kept.of_below (HB.out.alloc HB.out.size _)) (fun q hq e => by have := HLB.out q hq; omega))).mono ?_
      rintro e w5 ⟨rfl, rfl⟩
      obtain ⟨pv, hpv⟩ : ∃ pv, pv = place y.name l 0 := ⟨_, rfl⟩
      have hpl := place_neg y.name l 0
      rw [← hpv] at hpl ⊢
      clear hpv
      by_cases hin : y.name ∈ l
      · have hp0 : 0 ≤ pv := by have := hpl.2 hin; omega
        have HIN := Lib.hid hin
        clear hpl hin
        go_wp2_with (at_builtin; go_loud (refine wpList_append_any Try.elN (by exact World.ownsRow.alloc (World.ownsRow.alloc HO.out _) _) (news := [.string y.name, .string note, .slice da y.deps.length dc, .slice oa ol oc]) (by exact World.news_of_block (cs := #[.string y.name, .string note, .slice da y.deps.length dc, .slice oa ol oc]) (t := 34) (fr := (0, 0)) (by have := heap_alloc_new (wr.alloc (.cells #[.string y.name, .string note, .slice da y.deps.length dc, .slice oa ol oc] 34)) (.cells #[.string y.name, .string note, .slice da y.deps.length dc, .slice oa ol oc] 34); simpa using this)) (by simp [Value.oneCell']) rfl (by decide) (by unfold maxLen; omega) (by omega) rfl rfl rfl rfl ?_; intro g cap w6 hown6 hgrow6 hat6 hlt6; have HOW6 := Lib.hid hown6; have HGR6 := Lib.hid hgrow6; have HAT6 := Lib.hid hat6; clear hown6 hgrow6 hat6 hlt6))
        have hk6 : Kept (fun q => vv.ownBlock = some q) wr w6 := ((((Kept.refl _ wr).alloc _).alloc _).then (Kept.of_grown HGR6.out) (fun _ _ e => e.symm))
        go_roundw
        case rel =>
          refine ⟨_, k + 1, E ++ [⟨y, note, da, dc, oa, ol, oc⟩], rfl, by go_num, by omega, ?_, fun e he => ?_, ?_, HB.out.trans (hk6.below HB.out.size (fun q hq e => by have := HLO.out q e; omega)), fun q hq => ?_⟩
          · have := HOW6.out
            simpa [NX.cells] using this
          · rcases List.mem_append.1 he with he | he
            · exact HOK.out e he
            · simp only [List.mem_singleton] at he
              subst he
              exact ⟨HNS.out, HDV.out⟩
          · rw [onlyS_succ l HY.out, if_pos HIN.out, List.map_append, HE.out]
            rfl
          · simp only [Value.ownBlock, Option.some.injEq] at hq
            subst hq
            rcases HAT6.out with h1 | h1
            · exact HLO.out _ h1
            · have := HB.out.size
              simp at h1
              omega
        case measure => simp [intOf]; omega
      · have hp0 : ¬ 0 ≤ pv := by have := hpl.1.2 hin; omega
        have HIN := Lib.hid hin
        clear hpl hin
        go_wp2_with fail
        go_roundw
        case rel => exact ⟨_, k + 1, E, rfl, by go_num, by omega, HO.out.alloc _, HOK.out, by rw [HE.out, onlyS_succ l HY.out, if_neg HIN.out, List.append_nil], HB.out.alloc HB.out.size _, HLO.out⟩
        case measure => simp [intOf]; omega
    · have hkn : n = k := by omega
      subst hkn
      rw [List.take_of_length_le (by rw [HN.out]; exact Nat.le_refl _)] at hE
      have hon : ON wr vv E := ⟨ho, fun e he => ⟨(hok e he).1, (hok e he).2.below hb⟩⟩
      obtain ⟨a', c', hv, hrd⟩ := hon.rd
      have HF : Hid (∀ e, e = .returned vv → OnlyPost S l w e wr) := fun e he => ⟨a', E.length, c', he.trans (congrArg Ending.returned hv), by rw [← hE, List.length_map], by rw [← hE]; exact hrd, hb⟩
      clear ho hok hE hb hlo hon hv hrd
      go_wp2_with fail
      go_ret
      exact HF.out _ rfl
end Go.Proofs.Yteamkpmkchmhnaa
