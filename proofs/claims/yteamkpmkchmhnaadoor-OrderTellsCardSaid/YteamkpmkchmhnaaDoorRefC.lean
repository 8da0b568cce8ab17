/- tambourref06: least, Linear, Missing. -/
import Derived.Test.YteamkpmkchmhnaaDoorRefB
import Derived.StillTailTactics
namespace Go.Proofs.YteamkpmkchmhnaaDoor
open Go.RowKit Go.Maps Go.WideMaps

def LeastPost (S : List (Nd BA)) (told : List BA) (w : World) (e : Ending) (w' : World) : Prop :=
  ∃ (best : BA) (found : Bool), e = .returned (.tuple #[.string best, .bool found]) ∧ LeastOf S told (best, found) ∧ Below w.heap.size w w'

set_option maxRecDepth 100000 in
set_option maxHeartbeats 2000000 in
theorem rleast_any (a b : Option Addr) (n c m d : Nat) (S : List (Nd BA)) (told : List BA) (w : World) (hn : S.length = n) (hm : n ≤ 1000000000) (hd : ∀ x ∈ S, x.deps.length ≤ 1000) (h : RdN w a S)
    (hs : SV w (.slice b m d) b m d told) (hm2 : m ≤ 1000000000) :
    Calls Tryd.prog 31 #[.slice a n c, .slice b m d] w (LeastPost S told w) := by
  have HN := Lib.hid hn
  have HA := Lib.hid h
  have HT := Lib.hid hs
  have HD := Lib.hid hd
  clear hn h hs hd
  go_enter Tryd.func31, Tryd.ntmps31
  go_wp2
  go_loopw [6, 7, 8] (fun v f i wr => ∃ (best : BA) (found : Bool) (k : Nat), v = .string best ∧ f = .bool found ∧ i = .int .i64 k ∧ k ≤ n ∧ Below w.heap.size w wr ∧ Hid ((S.take k).foldl (leastSt told) (ByteArray.empty, false) = (best, found))) (fun _ _ i _ => n - (intOf i).toNat)
  case atStart => exact ⟨ByteArray.empty, false, 0, rfl, rfl, rfl, Nat.zero_le _, Below.refl _ _, rfl⟩
  case round =>
    obtain ⟨best, found, k, rfl, rfl, rfl, hk, hb, hf⟩ := hrel
    have HB := Lib.hid hb
    clear hb
    by_cases hlt : k < n
    · obtain ⟨y, hy⟩ := get_of_lt (l := S) (k := k) (by rw [HN.out]; exact hlt)
      obtain ⟨bk, off, note, da, dc, oa, ol, oc, rfl, _, hns, c0, c1, c2, c3, hdv, _, _⟩ := HA.out.nth HB.out hy
      have HY := Lib.hid hy
      have HF := Lib.hid (foldl_take (leastSt told) (ByteArray.empty, false) hy)
      have hdl : y.deps.length ≤ 1000 := HD.out y (List.mem_of_getElem? hy)
      have HDV := Lib.hid (hdv.below ((Below.refl _ wr).alloc (Nat.le_refl _) (.cells #[.string y.name, .string note, .slice da y.deps.length dc, .slice oa ol oc] 30)))
      have HTR := Lib.hid ((HT.out.later HB.out).later ((Below.refl _ wr).alloc (Nat.le_refl _) (.cells #[.string y.name, .string note, .slice da y.deps.length dc, .slice oa ol oc] 30)))
      clear hy hns hdv
      go_wp2_with fail
      refine (rin_any b d m told y.name _ HTR.out.len (by omega) HTR.out.rd).mono ?_
      rintro e w' ⟨rfl, rfl⟩
      by_cases hin : y.name ∈ told
      · rw [decide_eq_true hin]
        have HR : Hid ((S.take (k + 1)).foldl (leastSt told) (ByteArray.empty, false) = (best, found)) := by
          show _ = _
          rw [HF.out, hf.out]
          unfold leastSt rdyB
          simp [hin]
        clear hin
        go_wp2_with fail
        go_roundw
        case rel => exact ⟨best, found, k + 1, rfl, rfl, by go_num, by omega, HB.out.alloc HB.out.size _, HR.out⟩
        case measure => simp [intOf]; omega
      · rw [decide_eq_false hin]
        have HIN := Lib.hid hin
        clear hin
        go_wp2_with fail
        refine (rall_any da b y.deps.length dc m d y.deps told _ rfl (by omega) (by obtain ⟨_, _, hv, _, _, _, hr, _⟩ := HDV.out; cases hv; exact hr) HTR.out.len (by omega) HTR.out.rd).mono ?_
        rintro e w' ⟨rfl, rfl⟩
        by_cases hal : ∀ s ∈ y.deps, s ∈ told
        · rw [decide_eq_true hal]
          have HAL := Lib.hid hal
          have HRD : Hid (rdyB told y = true) := by
            show _ = _
            unfold rdyB
            rw [decide_eq_false HIN.out, decide_eq_true hal]
            rfl
          clear hal
          cases found with
          | false =>
            have HR : Hid ((S.take (k + 1)).foldl (leastSt told) (ByteArray.empty, false) = (y.name, true)) := by
              show _ = _
              rw [HF.out, hf.out]
              unfold leastSt
              rw [if_pos ⟨HRD.out, .inl rfl⟩]
            go_wp2_with fail
            go_roundw
            case rel => exact ⟨y.name, true, k + 1, rfl, rfl, by go_num, by omega, HB.out.alloc HB.out.size _, HR.out⟩
            case measure => simp [intOf]; omega
          | true =>
            cases hlt2 : ltB y.name best
            · have HR : Hid ((S.take (k + 1)).foldl (leastSt told) (ByteArray.empty, false) = (best, true)) := by
                show _ = _
                rw [HF.out, hf.out]
                unfold leastSt
                rw [if_neg (by simp [hlt2])]
              have hl1 : Op.bytesLess y.name.toList best.toList = false := hlt2
              clear hlt2
              go_wp2_with fail
              go_roundw
              case rel => exact ⟨best, true, k + 1, rfl, rfl, by go_num, by omega, HB.out.alloc HB.out.size _, HR.out⟩
              case measure => simp [intOf]; omega
            · have HR : Hid ((S.take (k + 1)).foldl (leastSt told) (ByteArray.empty, false) = (y.name, true)) := by
                show _ = _
                rw [HF.out, hf.out]
                unfold leastSt
                rw [if_pos ⟨HRD.out, .inr hlt2⟩]
              have hl1 : Op.bytesLess y.name.toList best.toList = true := hlt2
              clear hlt2
              go_wp2_with fail
              go_roundw
              case rel => exact ⟨y.name, true, k + 1, rfl, rfl, by go_num, by omega, HB.out.alloc HB.out.size _, HR.out⟩
              case measure => simp [intOf]; omega
        · rw [decide_eq_false hal]
          have HR : Hid ((S.take (k + 1)).foldl (leastSt told) (ByteArray.empty, false) = (best, found)) := by
            show _ = _
            rw [HF.out, hf.out]
            unfold leastSt rdyB
            rw [decide_eq_false hal]
            simp
          clear hal
          go_wp2_with fail
          go_roundw
          case rel => exact ⟨best, found, k + 1, rfl, rfl, by go_num, by omega, HB.out.alloc HB.out.size _, HR.out⟩
          case measure => simp [intOf]; omega
    · obtain rfl : k = n := by omega
      have HR : Hid (leastL S told = (best, found)) := by
        show _ = _
        have := hf.out
        rwa [List.take_of_length_le (by rw [HN.out]; exact Nat.le_refl _)] at this
      go_wp2_with fail
      go_ret2
      exact ⟨best, found, rfl, HR.out ▸ leastL_of S told, HB.out⟩

/-- What the document's Linear answers. -/
def RLinPost (S : List (Nd BA)) (w : World) (e : Ending) (w' : World) : Prop :=
  ∃ v l a n c cc, LinRes ltB S l cc ∧ e = .returned (.tuple #[v, .int .i64 (cc : Nat)]) ∧ SV w' v a n c l ∧ Below w.heap.size w w'

theorem twice_of {l : List BA} {k : Nat} {s : BA} (h : l[k]? = some s) (hm : s ∈ l.take k) : ¬ l.Nodup := by
  intro hn
  obtain ⟨i, hi, e⟩ := List.mem_take_iff_getElem.1 hm
  obtain ⟨hk, rfl⟩ := List.getElem?_eq_some_iff.1 h
  exact List.pairwise_iff_getElem.1 hn i k (by omega) hk (by omega) e

set_option maxRecDepth 100000 in
set_option maxHeartbeats 2000000 in
theorem rlinear_any (a : Option Addr) (n c : Nat) (S : List (Nd BA)) (w : World) (hn : S.length = n) (hm : n ≤ 1000) (hd : ∀ x ∈ S, x.deps.length ≤ 1000) (h : RdN w a S) :
    Calls Tryd.prog 12 #[.slice a n c] w (RLinPost S w) := by
  have HN := Lib.hid hn
  have HA := Lib.hid h
  have HD := Lib.hid hd
  clear hn h hd
  go_enter Tryd.func12, Tryd.ntmps12
  go_wp2_with fail
  refine (rnames_any a n c S w HN.out (by omega) HA.out).mono ?_
  rintro e w1 ⟨v1, rfl, ho1⟩
  have HLN := Lib.hid (show (names S).length = n by simp [names, HN.out])
  obtain ⟨a1, c1, rfl⟩ := ho1.shape HLN.out
  have hnc : n ≤ c1 := OS.cap ho1.own
  have HO1 := Lib.hid ho1
  clear ho1
  go_wp2_with fail
  go_loopw [5] (fun i wr => ∃ k : Nat, i = .int .i64 k ∧ k ≤ n ∧ Below w1.heap.size w1 wr ∧ Hid (∀ j (hj : j < (names S).length), j < k → (names S)[j] ∉ (names S).take j)) (fun i _ => n - (intOf i).toNat)
  case atStart => exact ⟨0, rfl, Nat.zero_le _, Below.refl _ _, fun j hj h => by omega⟩
  case round =>
    obtain ⟨k, rfl, hk, hb, hnd⟩ := hrel
    have HB := Lib.hid hb
    clear hb
    by_cases hlt : k < n
    · obtain ⟨s, hs⟩ := get_of_lt (l := names S) (k := k) (by rw [HLN.out]; exact hlt)
      obtain ⟨b, off, rfl, hcell⟩ := (HO1.out.later HB.out).rd k (by rw [HLN.out]; exact hlt)
      rw [(List.getElem?_eq_some_iff.1 hs).2] at hcell
      have HS := Lib.hid hs
      have HTK := Lib.hid (show ((names S).take k).length = k by rw [List.length_take, HLN.out]; omega)
      have hkc : k ≤ c1 := by omega
      have hcl : c1 ≤ 9223372036854775807 := by
        rcases HO1.out.own.2 with ⟨h1, _⟩ | ⟨g', cap, cur, hv, _, _, _, h2, _⟩
        · cases h1
        · cases hv
          unfold maxLen at h2
          exact h2
      have HRD := Lib.hid ((HO1.out.later (HB.out.drew)).rd.take k)
      clear hs
      go_wp2_with fail
      go_still_tail 7, (by kernel_rfl)
      change wpList _ _ _ _ _ wr.drew
      have HB := Lib.hid HB.out.drew
      generalize wr.drew = w2 at HB HRD ⊢
      clear hcell
      go_wp2_with fail
      refine (rin_any _ c1 k ((names S).take k) s w2 HTK.out (by omega) HRD.out).mono ?_
      rintro e w' ⟨rfl, rfl⟩
      by_cases hin : s ∈ (names S).take k
      · rw [decide_eq_true hin]
        have HF : Hid (RLinPost S w (.returned (.tuple #[.slice none 0 0, .int .i64 12])) w2) := ⟨_, [], none, 0, 0, 12, .twice (twice_of HS.out hin), rfl, SV.nil _, bMore HO1.out.below HB.out (Nat.le_refl _)⟩
        clear hin
        go_wp2_with fail
        go_ret2
        exact HF.out
      · rw [decide_eq_false hin]
        have HF : Hid (∀ j (hj : j < (names S).length), j < k + 1 → (names S)[j] ∉ (names S).take j) := fun j hj hjk => by
          by_cases e : j < k
          · exact hnd.out j hj e
          · have : j = k := by omega
            subst this
            obtain ⟨q1, q2⟩ := List.getElem?_eq_some_iff.1 HS.out
            rw [q2]
            exact hin
        clear hin
        go_wp2_with fail
        go_roundw
        case rel => exact ⟨k + 1, by go_num, by omega, HB.out, HF.out⟩
        case measure => simp [intOf]; omega
    · obtain rfl : k = n := by omega
      have HND := Lib.hid (nodup_mem_append (l := names S) (fun i hi => hnd.out i hi (by rw [HLN.out] at hi; exact hi)))
      have HBW := Lib.hid (bMore HO1.out.below HB.out (Nat.le_refl _))
      clear hnd
      go_wp2_with fail
      obtain ⟨w2, rfl⟩ : ∃ w2 : World, w2 = wr := ⟨wr, rfl⟩
      go_loopw [6] (fun v wr => ∃ (vv : Value) (told : List BA), vv = v ∧ OG w2 wr vv told ∧ Hid (Greedy ltB S told)) (fun v _ => k - (match v with | .slice _ m _ => m | _ => 0))
      case atStart => exact ⟨_, [], rfl, OG.nil _, Greedy.nil⟩
      case round =>
        obtain ⟨vv, told, rfl, ho, hg⟩ := hrel
        obtain ⟨m, htm⟩ : ∃ m, told.length = m := ⟨_, rfl⟩
        obtain ⟨a2, c2, rfl⟩ := ho.shape htm
        have hmk : m ≤ k := by have := hg.out.le; rw [HN.out] at this; omega
        have HO := Lib.hid ho
        have HTM := Lib.hid htm
        clear ho htm
        by_cases hlt : m < k
        · go_wp2_with fail
          refine (rleast_any a a2 k c m c2 S told wr HN.out (by omega) HD.out (HA.out.below (bMore HBW.out HO.out.below (Nat.le_refl _))) ⟨rfl, HTM.out, HO.out.rd, fun p hp => by
            obtain ⟨a', n', c', sv⟩ := HO.out.sv
            obtain ⟨e1, e2, e3⟩ : a2 = a' ∧ m = n' ∧ c2 = c' := by simpa using sv.val
            exact sv.lt p (by rw [← e1]; exact hp)⟩ (by omega)).mono ?_
          rintro e w3 ⟨best, found, rfl, hl, hb3⟩
          have HL := Lib.hid hl
          have HO3 := Lib.hid (HO.out.later hb3)
          have HBX := Lib.hid (bMore HBW.out HO3.out.below (Nat.le_refl _))
          clear hl hb3
          cases found with
          | false =>
            have HF : Hid (RLinPost S w (.returned (.tuple #[.slice none 0 0, .int .i64 11])) w3) := by
              refine ⟨_, [], none, 0, 0, 11, .dep HND.out told hg.out ?_ ?_, rfl, SV.nil _, HBX.out⟩
              · rcases HL.out with ⟨_, h2⟩ | ⟨h1, _⟩
                · exact h2
                · cases h1
              · rw [HTM.out, HN.out]
                exact hlt
            go_wp2_with fail
            go_ret2
            exact HF.out
          | true =>
            have HG : Hid (Greedy ltB S (told ++ [best])) := by
              rcases HL.out with ⟨h1, _⟩ | ⟨_, h2, h3⟩
              · cases h1
              · exact hg.out.snoc h2 h3
            go_wp2_with (at_builtin; refine wpList_append_any Tryd.elS (HO3.out.row HTM.out _) (news := [.string best]) (by exact World.news_of_block (cs := #[.string best]) (t := 9) (fr := (0, 0)) (by have := heap_alloc_new w3 (.cells #[.string best] 9); simpa using this)) (by simp [Value.oneCell']) rfl (by decide) (by unfold maxLen; omega) (by omega) rfl rfl rfl rfl ?_; intro g6 cap6 w6 hown6 hgrow6 hat6 hlt6; have HG6 := Lib.hid (HO3.out.app HTM.out hown6 hgrow6 hat6); clear hown6 hgrow6 hat6 hlt6)
            go_roundw
            case rel => exact ⟨_, _, rfl, HG6.out, HG.out⟩
            case measure => simp; omega
        · have HF : Hid (RLinPost S w (.returned (.tuple #[.slice a2 m c2, .int .i64 0])) wr) := by
            obtain ⟨a', n', c', sv⟩ := HO.out.sv
            refine ⟨_, told, a', n', c', 0, .ok HND.out told hg.out ?_, rfl, sv, bMore HBW.out HO.out.below (Nat.le_refl _)⟩
            rw [HTM.out, HN.out]
            omega
          go_wp2_with fail
          go_ret2
          exact HF.out
end Go.Proofs.YteamkpmkchmhnaaDoor
