/- tambourref05.Add; tambourref06.least, Linear, Missing. -/
import Derived.Test.YteamkpmkchmhnaaDoorRefA
import Derived.Test.YteamkpmkchmhnaaDoorLinMem
namespace Go.Proofs.YteamkpmkchmhnaaDoor
open Go.RowKit Go.Maps Go.WideMaps

theorem SV.nil (w : World) : SV w (.slice none 0 0) none 0 0 [] := ⟨rfl, rfl, fun k hk => by simp at hk, by simp⟩

theorem foldl_whole {α β : Type} (f : β → α → β) (b : β) (l : List α) (k : Nat) (h : l.length = k) : (l.take k).foldl f b = l.foldl f b := by rw [List.take_of_length_le (by omega)]

/-- What Add answers. -/
def AddPost (l : List BA) (s : BA) (w : World) (e : Ending) (w' : World) : Prop := ∃ v a n c, e = .returned v ∧ SV w' v a n c (addL l s) ∧ Below w.heap.size w w'

theorem addFold_len (s : BA) (l : List BA) : ∀ (p : List BA × Bool), (l.foldl (addSt s) p).1.length ≤ p.1.length + 2 * l.length := by
  induction l with
  | nil => intro p; simp
  | cons x r ih =>
    intro p
    rw [List.foldl_cons]
    have := ih (addSt s p x)
    have h2 : (addSt s p x).1.length ≤ p.1.length + 2 := by
      unfold addSt
      split <;> simp
    simp only [List.length_cons]
    omega

theorem OG.sv {w0 w : World} {v : Value} {l : List BA} (h : OG w0 w v l) : ∃ a n c, SV w v a n c l := OS.sv h.own

set_option maxRecDepth 100000 in
set_option maxHeartbeats 1000000 in
theorem add_any (v : Value) (a : Option Addr) (n c : Nat) (l : List BA) (s : BA) (w : World) (hm : n ≤ 1000000000) (h : SV w v a n c l) :
    Calls Tryd.prog 35 #[.slice a n c, .string s] w (AddPost l s w) := by
  have HN := Lib.hid h.len
  have HA := Lib.hid h
  have hp := place_any a c n l s w h.len (by omega) h.rd
  obtain ⟨pv, hpv⟩ : ∃ pv, pv = place s l 0 := ⟨_, rfl⟩
  have hneg := (place_neg s l 0)
  rw [← hpv] at hp hneg
  clear hpv h
  by_cases e : s ∈ l
  · have hp0 : 0 ≤ pv := by have := hneg.2 e; omega
    have HF : Hid (AddPost l s w (.returned (.slice a n c)) w) := ⟨_, a, n, c, rfl, by
      rw [addL, if_pos e]
      exact ⟨rfl, HA.out.len, HA.out.rd, HA.out.lt⟩, Below.refl _ _⟩
    clear hneg e
    go_enter Tryd.func35, Tryd.ntmps35
    go_wp2_with (go_at_call 48; refine hp.mono ?_; rintro e w' ⟨rfl, rfl⟩)
    go_ret
    exact HF.out
  · have hp0 : ¬ 0 ≤ pv := by have := hneg.1.2 e; omega
    have HE := Lib.hid e
    clear hneg e
    go_enter Tryd.func35, Tryd.ntmps35
    go_wp2_with (go_at_call 48; refine hp.mono ?_; rintro e w' ⟨rfl, rfl⟩)
    clear hp
    go_loopw [5, 6, 7] (fun v d i wr => ∃ (vv : Value) (dd : Bool) (k : Nat) (r : List BA), vv = v ∧ d = .bool dd ∧ i = .int .i64 k ∧ k ≤ n ∧ OG w wr vv r ∧ Hid ((l.take k).foldl (addSt s) ([], false) = (r, dd))) (fun _ _ i _ => n - (intOf i).toNat)
    case atStart => exact ⟨_, false, 0, [], rfl, rfl, rfl, Nat.zero_le _, OG.nil w, rfl⟩
    case round =>
      obtain ⟨vv, dd, k, r, rfl, rfl, rfl, hk, ho, hf⟩ := hrel
      have HO := Lib.hid ho
      have hrl : r.length ≤ 2 * n := by
        have := addFold_len s (l.take k) ([], false)
        rw [hf.out] at this
        simp at this
        omega
      clear ho
      obtain ⟨rn, hrn⟩ : ∃ rn, r.length = rn := ⟨_, rfl⟩
      rw [hrn] at hrl
      have HRN := Lib.hid hrn
      clear hrn
      by_cases hlt : k < n
      · obtain ⟨x, hx⟩ := get_of_lt (l := l) (k := k) (by rw [HN.out]; exact hlt)
        obtain ⟨b, off, rfl, hcell⟩ := (HA.out.later HO.out.below).rd k (by rw [HN.out]; exact hlt)
        rw [(List.getElem?_eq_some_iff.1 hx).2] at hcell
        have HS := Lib.hid (foldl_take (addSt s) ([], false) hx)
        have HMX := Lib.hid (List.mem_of_getElem? hx)
        obtain ⟨b', off', hb', hcw⟩ := HA.out.rd k (by rw [HN.out]; exact hlt)
        cases hb'
        rw [(List.getElem?_eq_some_iff.1 hx).2] at hcw
        have HCW := Lib.hid hcw
        clear hx hcw
        cases dd with
        | true =>
          have HF : Hid ((l.take (k + 1)).foldl (addSt s) ([], false) = (r ++ [x], true)) := by
            show _ = _
            rw [HS.out, hf.out]
            simp [addSt]
          go_wp2_with (at_builtin; go_loud (refine wpList_append_any Tryd.elS (HO.out.row HRN.out _) (news := [.string x]) (by exact World.news_of_block (cs := #[.string x]) (t := 9) (fr := (0, 0)) (by have := heap_alloc_new wr (.cells #[.string x] 9); simpa using this)) (by simp [Value.oneCell']) rfl (by decide) (by unfold maxLen; omega) (by omega) rfl rfl rfl rfl ?_; intro g cap w6 hown6 hgrow6 hat6 hlt6; have HG6 := Lib.hid (HO.out.app HRN.out hown6 hgrow6 hat6); clear hown6 hgrow6 hat6 hlt6))
          go_roundw
          case rel => exact ⟨_, true, k + 1, _, rfl, rfl, by go_num, by omega, HG6.out, HF.out⟩
          case measure => simp [intOf]; omega
        | false =>
          have HXS := Lib.hid (show x ≠ s from fun e => HE.out (by rw [← e]; exact HMX.out))
          by_cases hlt2 : ltB s x = true
          · have HF : Hid ((l.take (k + 1)).foldl (addSt s) ([], false) = (r ++ [s] ++ [x], true)) := by
              show _ = _
              rw [HS.out, hf.out]
              simp [addSt, hlt2]
            have hg1 : Op.bytesLess x.toList s.toList = false := ltB_LO.asymm hlt2
            have hg2 : (x.toList == s.toList) = false := by rw [eqB, decide_eq_false HXS.out]
            have HR7 : Hid ((r ++ [s]).length = rn + 1) := by show _ = _; rw [List.length_append, HRN.out]; rfl
            clear hlt2
            go_wp2_with (first | (at_builtin; refine wpList_append_any Tryd.elS (HO.out.row HRN.out _) (news := [.string s]) (by exact World.news_of_block (cs := #[.string s]) (t := 9) (fr := (0, 0)) (by have := heap_alloc_new wr (.cells #[.string s] 9); simpa using this)) (by simp [Value.oneCell']) rfl (by decide) (by unfold maxLen; omega) (by omega) rfl rfl rfl rfl ?_; intro g6 cap6 w6 hown6 hgrow6 hat6 hlt6; have HG6 := Lib.hid (HO.out.app HRN.out hown6 hgrow6 hat6); clear hown6 hgrow6 hat6 hlt6; have hcell6 := Below.keep HG6.out.below HCW.out) | (at_builtin; refine wpList_append_any Tryd.elS (HG6.out.row HR7.out _) (news := [.string x]) (by exact World.news_of_block (cs := #[.string x]) (t := 9) (fr := (0, 0)) (by have := heap_alloc_new w6 (.cells #[.string x] 9); simpa using this)) (by simp [Value.oneCell']) rfl (by decide) (by unfold maxLen; omega) (by omega) rfl rfl rfl rfl ?_; intro g7 cap7 w7 hown7 hgrow7 hat7 hlt7; have HG7 := Lib.hid (HG6.out.app HR7.out hown7 hgrow7 hat7); clear hown7 hgrow7 hat7 hlt7))
            go_roundw
            case rel => exact ⟨_, true, k + 1, _, rfl, rfl, by go_num, by omega, HG7.out, HF.out⟩
            case measure => simp [intOf]; omega
          · have HF : Hid ((l.take (k + 1)).foldl (addSt s) ([], false) = (r ++ [x], false)) := by
              show _ = _
              rw [HS.out, hf.out]
              simp [addSt, hlt2]
            have hg1 : Op.bytesLess x.toList s.toList = true := by
              rcases ltB_LO.total HXS.out with h1 | h1
              · exact h1
              · exact absurd h1 hlt2
            clear hlt2
            go_wp2_with (at_builtin; refine wpList_append_any Tryd.elS (HO.out.row HRN.out _) (news := [.string x]) (by exact World.news_of_block (cs := #[.string x]) (t := 9) (fr := (0, 0)) (by have := heap_alloc_new wr (.cells #[.string x] 9); simpa using this)) (by simp [Value.oneCell']) rfl (by decide) (by unfold maxLen; omega) (by omega) rfl rfl rfl rfl ?_; intro g6 cap6 w6 hown6 hgrow6 hat6 hlt6; have HG6 := Lib.hid (HO.out.app HRN.out hown6 hgrow6 hat6); clear hown6 hgrow6 hat6 hlt6)
            go_roundw
            case rel => exact ⟨_, false, k + 1, _, rfl, rfl, by go_num, by omega, HG6.out, HF.out⟩
            case measure => simp [intOf]; omega
      · obtain rfl : k = n := by omega
        have HF2 : Hid (addL l s = addFin s (r, dd)) := by
          show _ = _
          rw [addL, if_neg HE.out, ← hf.out, List.take_of_length_le (by rw [HN.out]; exact Nat.le_refl _)]
        cases dd with
        | true =>
          have HF : Hid (AddPost l s w (.returned vv) wr) := by
            obtain ⟨a', n', c', h'⟩ := HO.out.sv
            refine ⟨vv, a', n', c', rfl, ?_, HO.out.below⟩
            rw [HF2.out]
            exact h'
          go_wp2_with fail
          go_ret
          exact HF.out
        | false =>
          go_wp2_with (at_builtin; refine wpList_append_any Tryd.elS (HO.out.row HRN.out _) (news := [.string s]) (by exact World.news_of_block (cs := #[.string s]) (t := 9) (fr := (0, 0)) (by have := heap_alloc_new wr (.cells #[.string s] 9); simpa using this)) (by simp [Value.oneCell']) rfl (by decide) (by unfold maxLen; omega) (by omega) rfl rfl rfl rfl ?_; intro g6 cap6 w6 hown6 hgrow6 hat6 hlt6; have HG6 := Lib.hid (HO.out.app HRN.out hown6 hgrow6 hat6); clear hown6 hgrow6 hat6 hlt6)
          go_ret
          obtain ⟨a', n', c', h'⟩ := HG6.out.sv
          refine ⟨_, a', n', c', rfl, ?_, HG6.out.below⟩
          rw [HF2.out]
          exact h'
end Go.Proofs.YteamkpmkchmhnaaDoor
