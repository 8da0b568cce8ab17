/- tambourref06: in, names, all; tambourref05.Add. -/
import Derived.Test.YteamkpmkchmhnaaDoorRefThy
import Derived.Test.YteamkpmkchmhnaaDoorSv
namespace Go.Proofs.YteamkpmkchmhnaaDoor
open Go.RowKit Go.Maps Go.WideMaps

/-- A row of texts that the call makes, since w0. -/
structure OG (w0 w : World) (v : Value) (l : List BA) : Prop where
  own : OS w v l
  lo : ∀ q, v.ownBlock = some q → w0.heap.size ≤ q
  below : Below w0.heap.size w0 w

theorem OG.nil (w : World) : OG w w (.slice none 0 0) [] := ⟨World.ownsRow_nil _ _ _ _, by simp [Value.ownBlock], Below.refl _ _⟩

theorem OG.alloc {w0 w : World} {v : Value} {l : List BA} (h : OG w0 w v l) (o : Obj) : OG w0 (w.alloc o) v l := ⟨World.ownsRow.alloc h.own _, h.lo, h.below.alloc h.below.size _⟩

theorem OG.app {w0 wr w6 : World} {vv : Value} {l : List BA} {s : BA} {g cap n : Nat} {o : Obj} (h : OG w0 wr vv l) (hn : l.length = n)
    (hown : w6.ownsRow 0 9 1 (.slice (some ⟨g, 0, none⟩) (n + 1) cap) (n + 1) (l.map Value.string ++ [.string s])) (hgrow : (wr.alloc o).grownBy w6 vv.ownBlock) (hat : vv.ownBlock = some g ∨ g = (wr.alloc o).heap.size) :
    OG w0 w6 (.slice (some ⟨g, 0, none⟩) (n + 1) cap) (l ++ [s]) := by
  subst hn
  refine ⟨?_, fun q hq => ?_, ?_⟩
  · unfold OS
    simpa using hown
  · simp only [Value.ownBlock, Option.some.injEq] at hq
    subst hq
    rcases hat with h1 | h1
    · exact h.lo _ h1
    · have := h.below.size
      simp at h1
      omega
  · have hk : Kept (fun q => vv.ownBlock = some q) wr w6 := ((Kept.refl _ wr).alloc o).then (Kept.of_grown hgrow) (fun _ _ e => e.symm)
    exact h.below.trans (hk.below h.below.size (fun q hq e => by have := h.lo q e; omega))

theorem OG.row {w0 w : World} {v : Value} {l : List BA} {n : Nat} (h : OG w0 w v l) (hn : l.length = n) (o : Obj) : (w.alloc o).ownsRow 0 9 1 v n (l.map Value.string) := by
  subst hn
  exact World.ownsRow.alloc h.own _

theorem OG.shape {w0 w : World} {v : Value} {l : List BA} {n : Nat} (h : OG w0 w v l) (hn : l.length = n) : ∃ a c, v = .slice a n c := by
  obtain ⟨a, c, e, _⟩ := h.own.shape'
  subst hn
  exact ⟨a, c, e⟩

theorem OG.rd {w0 w : World} {a : Option Addr} {n c : Nat} {l : List BA} (h : OG w0 w (.slice a n c) l) : RdS w a l := OS.rd h.own

theorem OG.trans {w0 w1 w : World} {v : Value} {l : List BA} (h : OG w1 w v l) (hb : Below w0.heap.size w0 w1) : OG w0 w v l := ⟨h.own, fun q hq => by have := h.lo q hq; have := hb.size; omega, hb.trans (h.below.mono hb.size)⟩

theorem OG.later {w0 w w' : World} {v : Value} {l : List BA} (h : OG w0 w v l) (hb : Below w.heap.size w w') : OG w0 w' v l :=
  ⟨h.own.kept (Kept.of_below hb) (fun q hq e => by have := h.own.block_lt hq; omega), h.lo, h.below.trans (hb.mono h.below.size)⟩

set_option maxHeartbeats 400000 in
theorem rin_any (a : Option Addr) (c n : Nat) (ss : List BA) (nm : BA) (w : World) (hn : ss.length = n) (hm : n ≤ 9000000000000) (hc : RdS w a ss) :
    Calls Tryd.prog 30 #[.slice a n c, .string nm] w fun e w' => e = .returned (.bool (decide (nm ∈ ss))) ∧ w = w' := by
  have hp := place_any a c n ss nm w hn hm hc
  obtain ⟨pv, hpv⟩ : ∃ pv, pv = place nm ss 0 := ⟨_, rfl⟩
  have hneg := (place_neg nm ss 0).1
  rw [← hpv] at hp hneg
  have HR := Lib.hid (show decide (0 ≤ pv) = decide (nm ∈ ss) by
    rw [decide_eq_decide]
    constructor
    · intro h
      exact Decidable.byContradiction fun hn => by have := hneg.2 hn; omega
    · intro h
      exact Decidable.byContradiction fun hn => hneg.1 (by omega) h)
  clear hneg hpv hn hc
  go_enter Tryd.func30, Tryd.ntmps30
  go_wp2_with (go_at_call 48; refine hp.mono ?_; rintro e w' ⟨rfl, rfl⟩)
  go_ret
  exact ⟨ret_bool HR.out, rfl⟩

set_option maxRecDepth 100000 in
set_option maxHeartbeats 1000000 in
theorem rnames_any (a : Option Addr) (n c : Nat) (S : List (Nd BA)) (w : World) (hn : S.length = n) (hm : n ≤ 1000000000) (h : RdN w a S) :
    Calls Tryd.prog 29 #[.slice a n c] w fun e w' => ∃ v, e = .returned v ∧ OG w w' v (names S) := by
  have HN := Lib.hid hn
  have HA := Lib.hid h
  clear hn h
  go_enter Tryd.func29, Tryd.ntmps29
  go_wp2
  go_loopw [3, 4] (fun v i wr => ∃ (vv : Value) (k : Nat), vv = v ∧ i = .int .i64 k ∧ k ≤ n ∧ OG w wr vv (names (S.take k))) (fun _ i _ => n - (intOf i).toNat)
  case atStart => exact ⟨_, 0, rfl, rfl, Nat.zero_le _, OG.nil w⟩
  case round =>
    obtain ⟨vv, k, rfl, rfl, hk, ho⟩ := hrel
    have HO := Lib.hid ho
    clear ho
    by_cases hlt : k < n
    · obtain ⟨y, hy⟩ := get_of_lt (l := S) (k := k) (by rw [HN.out]; exact hlt)
      obtain ⟨b, off, note, da, dc, oa, ol, oc, rfl, _, hns, c0, c1, c2, c3, _, _, _⟩ := HA.out.nth HO.out.below hy
      have HL := Lib.hid (show (names (S.take k)).length = k by simp [names, HN.out]; omega)
      have HY := Lib.hid hy
      clear hy hns
      go_wp2_with (at_builtin; go_loud (refine wpList_append_any Tryd.elS (HO.out.row HL.out _) (news := [.string y.name]) (by exact World.news_of_block (cs := #[.string y.name]) (t := 9) (fr := (0, 0)) (by have := heap_alloc_new wr (.cells #[.string y.name] 9); simpa using this)) (by simp [Value.oneCell']) rfl (by decide) (by unfold maxLen; omega) (by omega) rfl rfl rfl rfl ?_; intro g cap w6 hown6 hgrow6 hat6 hlt6; have HG6 := Lib.hid (HO.out.app HL.out hown6 hgrow6 hat6); clear hown6 hgrow6 hat6 hlt6))
      go_roundw
      case rel =>
        refine ⟨_, k + 1, rfl, by go_num, by omega, ?_⟩
        rw [names_take_succ HY.out]
        exact HG6.out
      case measure => simp [intOf]; omega
    · obtain rfl : k = n := by omega
      rw [List.take_of_length_le (by rw [HN.out]; exact Nat.le_refl _)] at HO
      have HF : Hid (∃ v, Ending.returned vv = .returned v ∧ OG w wr v (names S)) := ⟨_, rfl, HO.out⟩
      go_wp2
      go_ret
      exact HF.out

set_option maxRecDepth 100000 in
set_option maxHeartbeats 1000000 in
theorem rall_any (a b : Option Addr) (n c m d : Nat) (l ss : List BA) (w : World) (hn : l.length = n) (hm : n ≤ 1000000000) (h : RdS w a l) (hn2 : ss.length = m) (hm2 : m ≤ 1000000000) (h2 : RdS w b ss) :
    Calls Tryd.prog 49 #[.slice a n c, .slice b m d] w fun e w' => e = .returned (.bool (decide (∀ s ∈ l, s ∈ ss))) ∧ w = w' := by
  have HN := Lib.hid hn
  have HA := Lib.hid h
  have HN2 := Lib.hid hn2
  have HB := Lib.hid h2
  clear hn h hn2 h2
  go_enter Tryd.func49, Tryd.ntmps49
  go_wp2
  go_loop [5] (fun i => ∃ k : Nat, k ≤ n ∧ i = .int .i64 k ∧ Hid (∀ s ∈ l.take k, s ∈ ss)) (fun i => n - (intOf i).toNat)
  case atStart => exact ⟨0, Nat.zero_le _, rfl, by show ∀ s ∈ l.take 0, s ∈ ss; simp⟩
  case round =>
    obtain ⟨k, hk, rfl, HP⟩ := hrel
    by_cases hlt : k < n
    · obtain ⟨b', off, rfl, hcell⟩ := HA.out k (by rw [HN.out]; exact hlt)
      obtain ⟨s, hs⟩ := get_of_lt (l := l) (k := k) (by rw [HN.out]; exact hlt)
      rw [(List.getElem?_eq_some_iff.1 hs).2] at hcell
      have HS := Lib.hid hs
      clear hs
      obtain ⟨pv, hpv⟩ : ∃ pv, pv = place s ss 0 := ⟨_, rfl⟩
      have hp := place_any b d m ss s w HN2.out (by omega) HB.out
      have hneg := (place_neg s ss 0).1
      rw [← hpv] at hp hneg
      clear hpv
      by_cases e : s ∈ ss
      · have hp0 : ¬ pv < 0 := fun h => hneg.1 h e
        have HE := Lib.hid e
        clear e hneg
        go_wp2_with (go_at_call 48; refine hp.mono ?_; rintro e w' ⟨rfl, rfl⟩)
        go_round
        case rel =>
          refine ⟨k + 1, by omega, by go_num, ?_⟩
          show ∀ t ∈ l.take (k + 1), t ∈ ss
          intro t ht
          obtain ⟨q1, q2⟩ := List.getElem?_eq_some_iff.1 HS.out
          rw [List.take_succ_eq_append_getElem q1, q2] at ht
          rcases List.mem_append.1 ht with ht | ht
          · exact HP.out t ht
          · have : t = s := by simpa using ht
            rw [this]; exact HE.out
        case measure => simp [intOf]; omega
      · have hp0 : pv < 0 := hneg.2 e
        have HE := Lib.hid e
        have HF : Hid (decide (∀ s ∈ l, s ∈ ss) = false) := by
          show _ = _
          rw [decide_eq_false_iff_not]
          intro hh
          exact HE.out (hh s (List.mem_of_getElem? HS.out))
        clear e hneg
        go_wp2_with (go_at_call 48; refine hp.mono ?_; rintro e w' ⟨rfl, rfl⟩)
        go_ret
        exact ⟨ret_bool HF.out.symm, rfl⟩
    · obtain rfl : k = n := by omega
      have HF : Hid (decide (∀ s ∈ l, s ∈ ss) = true) := by
        show _ = _
        rw [decide_eq_true_eq]
        have := HP.out
        rwa [List.take_of_length_le (by rw [HN.out]; exact Nat.le_refl _)] at this
      go_wp2
      go_ret
      exact ⟨ret_bool HF.out.symm, rfl⟩
end Go.Proofs.YteamkpmkchmhnaaDoor
