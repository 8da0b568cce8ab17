/- tambourref06: Missing, Heads. -/
import Derived.Test.YteamkpmkchmhnaaDoorRefC
import Derived.Deep.QuietTactic
import Derived.BigQuiet
namespace Go.Proofs.YteamkpmkchmhnaaDoor
open Go.RowKit Go.Maps Go.WideMaps

theorem below_drewN {B : Nat} {w w' : World} (h : Below B w w') (n : Nat) : Below B w (w'.drewN n) := ⟨h.os, h.tape, h.output, h.size, h.block⟩

def missR (l ss : List BA) : List BA := l.filter (fun s => !decide (s ∈ ss))

theorem missR_snoc {l ss : List BA} {k : Nat} {s : BA} (h : l[k]? = some s) : missR (l.take (k + 1)) ss = missR (l.take k) ss ++ (if s ∈ ss then [] else [s]) := by
  obtain ⟨h1, rfl⟩ := List.getElem?_eq_some_iff.1 h
  unfold missR
  rw [List.take_succ_eq_append_getElem h1, List.filter_append]
  congr 1
  by_cases e : l[k] ∈ ss <;> simp [e]

/-- What the document's Missing answers. -/
def RMissPost (S : List (Nd BA)) (ss : List BA) (w : World) (e : Ending) (w' : World) : Prop :=
  ∃ v l a n c cc, LinRes ltB S l cc ∧ e = .returned (.tuple #[v, .int .i64 (cc : Nat)]) ∧ SV w' v a n c (missR l ss) ∧ Below w.heap.size w w'

theorem LinRes.le {S : List (Nd BA)} {l : List BA} {c : Nat} (h : LinRes ltB S l c) : l.length ≤ S.length := by
  cases h with
  | twice _ => simp
  | dep _ _ _ _ _ => simp
  | ok _ _ hg _ => exact hg.le

set_option maxRecDepth 100000 in
set_option maxHeartbeats 2000000 in
theorem rmissing_any (a b : Option Addr) (n c m d : Nat) (S : List (Nd BA)) (ss : List BA) (w : World) (hn : S.length = n) (hm : n ≤ 1000) (hd : ∀ x ∈ S, x.deps.length ≤ 1000) (h : RdN w a S)
    (hsl : ss.length = m) (hs : RdS w b ss) (hm2 : m ≤ 1000000000) :
    Calls Tryd.prog 14 #[.slice a n c, .slice b m d] w (RMissPost S ss w) := by
  have HN := Lib.hid hn
  have HT := Lib.hid hs
  have HTL := Lib.hid hsl
  have hl := rlinear_any a n c S w hn hm hd h
  clear hn hs hsl hd h
  go_enter Tryd.func14, Tryd.ntmps14
  go_wp2_with fail
  refine hl.mono ?_
  rintro e w1 ⟨v1, l, a1, n1, c1, cc, hres, rfl, hsv, hb⟩
  obtain rfl := hsv.val
  have HR := Lib.hid hres
  have hn1 : n1 ≤ 1000 := by
    have h1 := hres.le
    have h2 := hsv.len
    have h3 := HN.out
    omega
  have HL := Lib.hid hsv
  have HB1 := Lib.hid hb
  clear hres hsv hb hl
  go_wp2_with fail
  go_loopw [8, 9] (fun v i wr => ∃ (vv : Value) (k : Nat), vv = v ∧ i = .int .i64 k ∧ k ≤ n1 ∧ OG w1 wr vv (missR (l.take k) ss)) (fun _ i _ => n1 - (intOf i).toNat)
  case atStart => exact ⟨_, 0, rfl, rfl, Nat.zero_le _, OG.nil w1⟩
  case round =>
    obtain ⟨vv, k, rfl, rfl, hk, ho⟩ := hrel
    have HO := Lib.hid ho
    clear ho
    by_cases hlt : k < n1
    · obtain ⟨s, hs⟩ := get_of_lt (l := l) (k := k) (by rw [HL.out.len]; exact hlt)
      obtain ⟨bk, off, rfl, hcell⟩ := (HL.out.later HO.out.below).rd k (by rw [HL.out.len]; exact hlt)
      rw [(List.getElem?_eq_some_iff.1 hs).2] at hcell
      have HS := Lib.hid (missR_snoc (ss := ss) hs)
      have HTR := Lib.hid (HT.out.later (bMore HB1.out HO.out.below (Nat.le_refl _)))
      obtain ⟨rn, hrn⟩ : ∃ rn, (missR (l.take k) ss).length = rn := ⟨_, rfl⟩
      have hrl : rn ≤ k := by
        rw [← hrn]
        refine Nat.le_trans (List.length_filter_le _ _) ?_
        rw [List.length_take]
        omega
      have HRN := Lib.hid hrn
      clear hs hrn
      go_wp2_with fail
      refine (rin_any b d m ss s wr HTL.out (by omega) HTR.out).mono ?_
      rintro e w' ⟨rfl, rfl⟩
      by_cases hin : s ∈ ss
      · rw [decide_eq_true hin]
        have HF : Hid (OG w1 wr vv (missR (l.take (k + 1)) ss)) := by
          show OG _ _ _ _
          rw [HS.out, if_pos hin, List.append_nil]
          exact HO.out
        clear hin
        go_wp2_with fail
        go_roundw
        case rel => exact ⟨_, k + 1, rfl, by go_num, by omega, HF.out⟩
        case measure => simp [intOf]; omega
      · rw [decide_eq_false hin]
        have HF := Lib.hid (show missR (l.take (k + 1)) ss = missR (l.take k) ss ++ [s] by rw [HS.out, if_neg hin])
        clear hin
        go_wp2_with (at_builtin; refine wpList_append_any Tryd.elS (HO.out.row HRN.out _) (news := [.string s]) (by exact World.news_of_block (cs := #[.string s]) (t := 9) (fr := (0, 0)) (by have := heap_alloc_new wr (.cells #[.string s] 9); simpa using this)) (by simp [Value.oneCell']) rfl (by decide) (by unfold maxLen; omega) (by omega) rfl rfl rfl rfl ?_; intro g6 cap6 w6 hown6 hgrow6 hat6 hlt6; have HG6 := Lib.hid (HO.out.app HRN.out hown6 hgrow6 hat6); clear hown6 hgrow6 hat6 hlt6)
        go_roundw
        case rel =>
          refine ⟨_, k + 1, rfl, by go_num, by omega, ?_⟩
          rw [HF.out]
          exact HG6.out
        case measure => simp [intOf]; omega
    · obtain rfl : k = n1 := by omega
      have HF : Hid (RMissPost S ss w (.returned (.tuple #[vv, .int .i64 (cc : Nat)])) wr) := by
        obtain ⟨a', n', c', sv⟩ := HO.out.sv
        rw [List.take_of_length_le (by rw [HL.out.len]; exact Nat.le_refl _)] at sv
        exact ⟨_, l, a', n', c', cc, HR.out, rfl, sv, bMore HB1.out HO.out.below (Nat.le_refl _)⟩
      go_wp2_with fail
      go_ret2
      exact HF.out

structure HeadIn (S : List (Nd BA)) (k : Nat) (r : List BA) : Prop where
  srt : Srt r
  nd : r.Nodup
  mem : ∀ s, s ∈ r ↔ s ∈ names (S.take k) ∧ ∀ x ∈ S, s ∉ x.deps

theorem HeadIn.le {S : List (Nd BA)} {k : Nat} {r : List BA} (h : HeadIn S k r) : r.length ≤ S.length := by
  have := List.Nodup.length_le_of_subset (l₁ := r) (l₂ := names (S.take k)) h.nd (fun s hs => ((h.mem s).1 hs).1)
  simp [names] at this
  omega

theorem HeadIn.skip {S : List (Nd BA)} {k : Nat} {r : List BA} {y : Nd BA} (h : HeadIn S k r) (hy : S[k]? = some y) (hn : ∃ x ∈ S, y.name ∈ x.deps) : HeadIn S (k + 1) r :=
  ⟨h.srt, h.nd, fun s => by
    rw [h.mem, names_take_succ hy, List.mem_append]
    constructor
    · rintro ⟨h1, h2⟩
      exact ⟨.inl h1, h2⟩
    · rintro ⟨h1 | h1, h2⟩
      · exact ⟨h1, h2⟩
      · obtain ⟨x, hx, hm⟩ := hn
        have : s = y.name := by simpa using h1
        subst this
        exact absurd hm (h2 x hx)⟩

theorem HeadIn.add {S : List (Nd BA)} {k : Nat} {r : List BA} {y : Nd BA} (h : HeadIn S k r) (hy : S[k]? = some y) (hn : ∀ x ∈ S, y.name ∉ x.deps) : HeadIn S (k + 1) (addL r y.name) :=
  ⟨srt_addL h.srt, nodup_addL h.nd, fun s => by
    rw [mem_addL, h.mem, names_take_succ hy, List.mem_append]
    constructor
    · rintro (rfl | ⟨h1, h2⟩)
      · exact ⟨.inr (by simp), hn⟩
      · exact ⟨.inl h1, h2⟩
    · rintro ⟨h1 | h1, h2⟩
      · exact .inr ⟨h1, h2⟩
      · exact .inl (by simpa using h1)⟩

/-- What the document's Heads answers. -/
def RHeadsPost (S : List (Nd BA)) (w : World) (e : Ending) (w' : World) : Prop :=
  ∃ v l a n c, e = .returned v ∧ SV w' v a n c l ∧ HeadIn S S.length l ∧ Below w.heap.size w w'

set_option maxRecDepth 100000 in
set_option maxHeartbeats 2000000 in
theorem rheads_any (a : Option Addr) (n c : Nat) (S : List (Nd BA)) (w : World) (hn : S.length = n) (hm : n ≤ 1000) (hd : ∀ x ∈ S, x.deps.length ≤ 1000) (h : RdN w a S) :
    Calls Tryd.prog 17 #[.slice a n c] w (RHeadsPost S w) := by
  have HN := Lib.hid hn
  have HA := Lib.hid h
  have HD := Lib.hid hd
  clear hn h hd
  go_enter Tryd.func17, Tryd.ntmps17
  go_wp2_with fail
  go_loopw [3, 4] (fun v i wr => ∃ (k : Nat) (a3 : Option Addr) (m c3 : Nat) (r : List BA), v = .slice a3 m c3 ∧ i = .int .i64 k ∧ k ≤ n ∧ SV wr (.slice a3 m c3) a3 m c3 r ∧ Hid (HeadIn S k r) ∧ Below w.heap.size w wr) (fun _ i _ => n - (intOf i).toNat)
  case atStart => exact ⟨0, none, 0, 0, [], rfl, rfl, Nat.zero_le _, SV.nil w, ⟨List.Pairwise.nil, List.nodup_nil, by simp [names]⟩, Below.refl _ _⟩
  case round =>
    obtain ⟨k, a3, m, c3, r, rfl, rfl, hk, hsv, hh, hb⟩ := hrel
    have HSV := Lib.hid hsv
    have HB := Lib.hid hb
    clear hsv hb
    by_cases hlt : k < n
    · obtain ⟨y, hy⟩ := get_of_lt (l := S) (k := k) (by rw [HN.out]; exact hlt)
      have HY := Lib.hid hy
      clear hy
      go_wp2_with fail
      obtain ⟨w2, rfl⟩ : ∃ w2 : World, w2 = wr := ⟨wr, rfl⟩
      go_loopw [5, 6] (fun f i wr => ∃ (nd : Bool) (j : Nat), f = .bool nd ∧ i = .int .i64 j ∧ j ≤ n ∧ Below w2.heap.size w2 wr ∧ Hid (nd = true ↔ ∃ x ∈ S.take j, y.name ∈ x.deps)) (fun _ i _ => n - (intOf i).toNat)
      case atStart => exact ⟨false, 0, rfl, rfl, Nat.zero_le _, Below.refl _ _, show _ ↔ _ by simp⟩
      case round =>
        obtain ⟨nd, j, rfl, rfl, hj, hb2, hnd⟩ := hrel
        have HB2 := Lib.hid (bMore HB.out hb2 (Nat.le_refl _))
        have HW2 := Lib.hid hb2
        clear hb2
        by_cases hjn : j < n
        · obtain ⟨z, hz⟩ := get_of_lt (l := S) (k := j) (by rw [HN.out]; exact hjn)
          obtain ⟨b, off, note, da, dc, oa, ol, oc, ha, _, hns, c0, c1, c2, c3', hdv, _, _⟩ := HA.out.nth HB2.out hz
          obtain ⟨b', off', note', da', dc', oa', ol', oc', ha', _, hns', d0, d1, d2, d3, _, _, _⟩ := HA.out.nth HB2.out HY.out
          rw [ha] at ha'
          cases ha'
          have HAA := Lib.hid ha
          subst ha
          have hdl : z.deps.length ≤ 1000 := HD.out z (List.mem_of_getElem? hz)
          have HDV := Lib.hid (hdv.below ((Below.refl wr.heap.size wr).drew))
          have HZ := Lib.hid hz
          have HTK := Lib.hid (show ∀ P : Nd BA → Prop, (∃ x ∈ S.take (j + 1), P x) ↔ (∃ x ∈ S.take j, P x) ∨ P z from fun P => by
            obtain ⟨q1, q2⟩ := List.getElem?_eq_some_iff.1 hz
            rw [List.take_succ_eq_append_getElem q1, q2]
            simp only [List.mem_append, List.mem_singleton]
            constructor
            · rintro ⟨x, h1 | rfl, h2⟩
              · exact .inl ⟨x, h1, h2⟩
              · exact .inr h2
            · rintro (⟨x, h1, h2⟩ | h2)
              · exact ⟨x, .inl h1, h2⟩
              · exact ⟨z, .inr rfl, h2⟩)
          clear hz hns hns' hdv
          cases nd with
          | true =>
            have HF : Hid (∃ x ∈ S.take (j + 1), y.name ∈ x.deps) := by
              show ∃ x ∈ S.take (j + 1), y.name ∈ x.deps
              rw [HTK.out]
              exact .inl (hnd.out.1 rfl)
            go_wp2_with fail
            go_quiet (fail)
            go_wp2_with fail
            go_roundw
            case rel => exact ⟨true, j + 1, rfl, by go_num, by omega, below_drewN HW2.out _, (show _ ↔ _ from ⟨fun _ => HF.out, fun _ => rfl⟩)⟩
            case measure => simp [intOf]; omega
          | false =>
            go_wp2_with fail
            go_still_tail 13, (by kernel_rfl)
            change wpList _ _ _ _ _ wr.drew
            have HW2 := Lib.hid HW2.out.drew
            generalize wr.drew = w3 at HW2 HDV ⊢
            clear c0 c1 c2 c3' d0 d1 d2 d3
            go_wp2_with fail
            refine (rin_any da dc z.deps.length z.deps y.name w3 rfl (by omega) (by obtain ⟨_, _, hv, _, _, _, hr, _⟩ := HDV.out; cases hv; exact hr)).mono ?_
            rintro e w' ⟨rfl, rfl⟩
            by_cases hin : y.name ∈ z.deps
            · rw [decide_eq_true hin]
              have HF : Hid (∃ x ∈ S.take (j + 1), y.name ∈ x.deps) := by
                show ∃ x ∈ S.take (j + 1), y.name ∈ x.deps
                rw [HTK.out]
                exact .inr hin
              clear hin
              go_wp2_with fail
              go_roundw
              case rel => exact ⟨true, j + 1, rfl, by go_num, by omega, HW2.out, (show _ ↔ _ from ⟨fun _ => HF.out, fun _ => rfl⟩)⟩
              case measure => simp [intOf]; omega
            · rw [decide_eq_false hin]
              have HF : Hid (false = true ↔ ∃ x ∈ S.take (j + 1), y.name ∈ x.deps) := by
                show _ ↔ _
                rw [HTK.out]
                constructor
                · intro h; cases h
                · rintro (h | h)
                  · exact hnd.out.2 h
                  · exact absurd h hin
              clear hin
              go_wp2_with fail
              go_roundw
              case rel => exact ⟨false, j + 1, rfl, by go_num, by omega, HW2.out, HF.out⟩
              case measure => simp [intOf]; omega
        · obtain rfl : j = n := by omega
          have hnd2 : nd = true ↔ ∃ x ∈ S, y.name ∈ x.deps := by
            have := hnd.out
            rwa [List.take_of_length_le (by rw [HN.out]; exact Nat.le_refl _)] at this
          obtain ⟨b', off', note', da', dc', oa', ol', oc', rfl, _, hns', d0, d1, d2, d3, _, _, _⟩ := HA.out.nth HB2.out HY.out
          clear hnd hns'
          cases nd with
          | true =>
            have HF := Lib.hid (hh.out.skip HY.out (hnd2.1 rfl))
            clear hnd2
            go_wp2_with fail
            go_roundw
            case rel => exact ⟨k + 1, a3, m, c3, r, rfl, by go_num, by omega, HSV.out.later HW2.out, HF.out, HB2.out⟩
            case measure => simp [intOf]; omega
          | false =>
            have HF := Lib.hid (hh.out.add HY.out (fun x hx hm => by cases hnd2.2 ⟨x, hx, hm⟩))
            clear hnd2
            have hml : m ≤ 1000 := by
              have h1 := hh.out.le
              have h2 := HSV.out.len
              have h3 := HN.out
              omega
            go_wp2_with fail
            refine (add_any _ a3 m c3 r y.name wr (by omega) (HSV.out.later HW2.out)).mono ?_
            rintro e w4 ⟨v4, a4, n4, c4, rfl, sv4, hb4⟩
            obtain rfl := sv4.val
            have HS4 := Lib.hid sv4
            have HB4 := Lib.hid (bMore HB2.out hb4 (Nat.le_refl _))
            clear sv4 hb4
            go_wp2_with fail
            go_roundw
            case rel => exact ⟨k + 1, a4, n4, c4, _, rfl, by go_num, by omega, HS4.out, HF.out, HB4.out⟩
            case measure => simp [intOf]; omega
    · obtain rfl : k = n := by omega
      have HF : Hid (RHeadsPost S w (.returned (.slice a3 m c3)) wr) := ⟨_, r, a3, m, c3, rfl, HSV.out, by rw [HN.out]; exact hh.out, HB.out⟩
      go_wp2_with fail
      go_ret
      exact HF.out
end Go.Proofs.YteamkpmkchmhnaaDoor
