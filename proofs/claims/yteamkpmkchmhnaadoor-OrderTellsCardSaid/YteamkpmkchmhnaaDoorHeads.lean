/- order.Check, order.Heads; tambourref05.Place. -/
import Derived.Test.YteamkpmkchmhnaaDoorLinear
import Derived.Test.YteamkpmkchmhnaaDoorKeys
namespace Go.Proofs.YteamkpmkchmhnaaDoor
open Go.RowKit Go.Maps Go.WideMaps

theorem Below.one {B : Nat} {w w' : World} (h : Below B w w') (hB : B = w.heap.size) : Below w.heap.size w w' := hB ▸ h

/-- What Check answers. -/
def CheckPost (S : List (Nd BA)) (w : World) (e : Ending) (w' : World) : Prop := ∃ l c, LinRes ltB S l c ∧ e = .returned (errV c) ∧ Below w.heap.size w w'

set_option maxRecDepth 100000 in
theorem check_any (a : Option Addr) (n c : Nat) (S : List (Nd BA)) (w : World) (hn : S.length = n) (hm : n ≤ 1000) (hd : ∀ x ∈ S, x.deps.length ≤ 1000) (h : RdN w a S) :
    Calls Tryd.prog 15 #[.slice a n c] w (CheckPost S w) := by
  have HN := Lib.hid hn
  have HD := Lib.hid hd
  have HA := Lib.hid h
  clear hn hd h
  go_enter Tryd.func15, Tryd.ntmps15
  go_wp2_with fail
  refine (linear_any a n c S w HN.out hm HD.out HA.out).mono ?_
  rintro e w1 ⟨v, l, cc, hres, rfl, ho, _, _, hb⟩
  have HR := Lib.hid hres
  have HB := Lib.hid hb
  clear hres ho hb
  obtain ⟨ev, hev⟩ : ∃ ev, ev = errV cc := ⟨_, rfl⟩
  rw [← hev]
  have HEV := Lib.hid hev
  clear hev
  go_wp2_with fail
  go_ret
  exact ⟨l, cc, HR.out, by rw [HEV.out]; rfl, HB.out⟩

def place (nm : BA) : List BA → Nat → Int
  | [], _ => -1
  | s :: r, k => if s = nm then k else place nm r (k + 1)

theorem place_drop {nm : BA} {ss : List BA} {k : Nat} {s : BA} (h : ss[k]? = some s) : place nm (ss.drop k) k = if s = nm then (k : Int) else place nm (ss.drop (k + 1)) (k + 1) := by
  obtain ⟨hk, rfl⟩ := List.getElem?_eq_some_iff.1 h
  rw [List.drop_eq_getElem_cons hk, place]

theorem place_neg (nm : BA) : ∀ (l : List BA) (k : Nat), (place nm l k < 0 ↔ nm ∉ l) ∧ (nm ∈ l → (k : Int) ≤ place nm l k)
  | [], k => by simp [place]
  | s :: r, k => by
    unfold place
    have ih := place_neg nm r (k + 1)
    by_cases e : s = nm
    · subst e
      simp
    · rw [if_neg e]
      have h1 : nm ∈ s :: r ↔ nm ∈ r := by simp [Ne.symm e]
      rw [h1]
      exact ⟨ih.1, fun h => by have := ih.2 h; omega⟩

set_option maxHeartbeats 400000 in
theorem place_any (a : Option Addr) (c n : Nat) (ss : List BA) (nm : BA) (w : World) (hn : ss.length = n) (hm : n ≤ 9000000000000) (hc : RdS w a ss) :
    Calls Tryd.prog 48 #[.slice a n c, .string nm] w fun e w' => e = .returned (.int .i64 (place nm ss 0)) ∧ w = w' := by
  have HN := Lib.hid hn
  have HC := Lib.hid hc
  clear hn hc
  go_enter Tryd.func48, Tryd.ntmps48
  go_wp2
  go_loop [5] (fun i => ∃ k : Nat, k ≤ n ∧ i = .int .i64 k ∧ Hid (place nm ss 0 = place nm (ss.drop k) k)) (fun i => n - (intOf i).toNat)
  case atStart => exact ⟨0, Nat.zero_le _, rfl, rfl⟩
  case round =>
    obtain ⟨k, hk, rfl, HP⟩ := hrel
    by_cases hlt : k < n
    · obtain ⟨b, off, rfl, hcell⟩ := HC.out k (by rw [HN.out]; exact hlt)
      obtain ⟨s, hs⟩ := get_of_lt (l := ss) (k := k) (by rw [HN.out]; exact hlt)
      rw [(List.getElem?_eq_some_iff.1 hs).2] at hcell
      have HD := Lib.hid (place_drop (nm := nm) hs)
      clear hs
      by_cases e : s = nm
      · have hb : (s.toList == nm.toList) = true := by rw [eqB]; simp [e]
        have HE := Lib.hid e
        clear e
        go_wp2
        go_ret
        exact ⟨ret_int (by rw [HP.out, HD.out, if_pos HE.out]), rfl⟩
      · have hb : (s.toList == nm.toList) = false := by rw [eqB]; simp [e]
        have HE := Lib.hid e
        clear e
        go_wp2
        go_round
        case rel => exact ⟨k + 1, by omega, by go_num, by show _ = _; rw [HP.out, HD.out, if_neg HE.out]⟩
        case measure => simp [intOf]; omega
    · obtain rfl : k = n := by omega
      go_wp2
      go_ret
      exact ⟨ret_int (by rw [HP.out, List.drop_of_length_le (by rw [HN.out]; exact Nat.le_refl _)]; rfl), rfl⟩

theorem Tryd.mapSB : MpT Tryd.prog 60 9 4 (fun s : BA => Value.string s) (.bool false) := mapT_string Tryd.underlying9 Tryd.underlying60 (fun w => by kernel_rfl)

/-- The set of names of the first k. -/
def H1 (S : List (Nd BA)) (k : Nat) : BA → Option Value := fun s => if s ∈ names (S.take k) then some (.bool true) else none

theorem H1_step {S : List (Nd BA)} {k : Nat} {x : Nd BA} (h : S[k]? = some x) : upd (H1 S k) x.name (.bool true) = H1 S (k + 1) := by
  funext s
  unfold H1
  rw [names_take_succ h]
  by_cases e : s = x.name
  · subst e
    simp [upd_same]
  · rw [upd_other _ _ e]
    simp [e]

/-- Names that none of the first k needs, nor dl holds. -/
def H2 (S : List (Nd BA)) (k : Nat) (dl : List BA) : BA → Option Value := fun s => if s ∈ names S ∧ (∀ x ∈ S.take k, s ∉ x.deps) ∧ s ∉ dl then some (.bool true) else none

theorem H2_zero (S : List (Nd BA)) : H1 S S.length = H2 S 0 [] := by
  funext s
  unfold H1 H2
  rw [List.take_of_length_le (Nat.le_refl _)]
  simp

theorem H2_del {S : List (Nd BA)} {k j : Nat} {l : List BA} {d : BA} (h : l[j]? = some d) : del (H2 S k (l.take j)) d = H2 S k (l.take (j + 1)) := by
  obtain ⟨hj, rfl⟩ := List.getElem?_eq_some_iff.1 h
  funext s
  have hm : ∀ s, s ∈ l.take (j + 1) ↔ s ∈ l.take j ∨ s = l[j] := fun s => by
    rw [List.take_succ_eq_append_getElem hj, List.mem_append, List.mem_singleton]
  unfold H2
  by_cases e : s = l[j]
  · rw [e, del_same, if_neg]
    rintro ⟨_, _, h3⟩
    exact h3 ((hm _).2 (.inr rfl))
  · rw [del_other _ e]
    simp only [hm, e, or_false]

theorem H2_last {S : List (Nd BA)} {k : Nat} {x : Nd BA} (h : S[k]? = some x) : H2 S k x.deps = H2 S (k + 1) [] := by
  obtain ⟨hk, rfl⟩ := List.getElem?_eq_some_iff.1 h
  funext s
  unfold H2
  rw [List.take_succ_eq_append_getElem hk]
  congr 1
  simp only [List.mem_append, List.mem_singleton, List.not_mem_nil, not_false_eq_true, and_true, eq_iff_iff, and_congr_right_iff]
  intro _
  constructor
  · rintro ⟨h1, h2⟩ x (hx | rfl)
    · exact h1 x hx
    · exact h2
  · intro h1
    exact ⟨fun x hx => h1 x (.inl hx), h1 _ (.inr rfl)⟩

/-- What Heads answers. -/
def HeadsPost (S : List (Nd BA)) (w : World) (e : Ending) (w' : World) : Prop :=
  ∃ v l, e = .returned v ∧ OS w' v l ∧ Srt l ∧ l.Nodup ∧ (∀ s, s ∈ l ↔ s ∈ names S ∧ ∀ x ∈ S, s ∉ x.deps) ∧ (l = [] → v = .slice none 0 0) ∧ (∀ q, v.ownBlock = some q → w.heap.size ≤ q) ∧ Below w.heap.size w w'

set_option maxRecDepth 100000 in
set_option maxHeartbeats 1000000 in
theorem heads_any (a : Option Addr) (n c : Nat) (S : List (Nd BA)) (w : World) (hn : S.length = n) (hm : n ≤ 1000) (hd : ∀ x ∈ S, x.deps.length ≤ 1000) (h : RdN w a S) :
    Calls Tryd.prog 11 #[.slice a n c] w (HeadsPost S w) := by
  have HN := Lib.hid hn
  have HA := Lib.hid h
  have HD := Lib.hid hd
  clear hn h hd
  have hmm := @run_makeMap Tryd.prog
  go_enter Tryd.func11, Tryd.ntmps11
  go_wp2_with fail
  go_loopw [13] (fun i wr => ∃ (k : Nat), i = .int .i64 k ∧ k ≤ n ∧ MpSt wr w.heap.size k (H1 S k) ∧ Below w.heap.size w wr) (fun i _ => n - (intOf i).toNat)
  case atStart => exact ⟨0, rfl, Nat.zero_le _, by have := Mp.made w Tryd.prog 9 (fun s : BA => Value.string s); unfold H1; simpa [names] using this, (Below.refl _ _).alloc (Nat.le_refl _) _⟩
  case round =>
    obtain ⟨k, rfl, hk, hmp, hb⟩ := hrel
    by_cases hlt : k < n
    · obtain ⟨y, hy⟩ := get_of_lt (l := S) (k := k) (by rw [HN.out]; exact hlt)
      obtain ⟨b, off, note, dv, oa, ol, oc, rfl, hns, c0, c1, c2, c3, hdv⟩ := (HA.out.below hb) k y hy
      obtain ⟨da, dc, rfl, _⟩ := hdv
      have HY := Lib.hid hy
      have HMP := Lib.hid hmp
      have HNS := Lib.hid hns
      have HB := Lib.hid hb
      clear hy hmp hns hb
      go_wp2_with (at_mapUpdate; refine wpList_store Tryd.mapSB (val := .bool true) (HMP.out.alloc _) (by unfold maxLen; omega) (keyS HNS.out) rfl rfl rfl rfl rfl ?_; intro w1 hmp1 hg1; have HM1 := Lib.hid hmp1; have HG1 := Lib.hid hg1; clear hmp1 hg1)
      go_roundw
      case rel =>
        refine ⟨k + 1, by go_num, by omega, by have := HM1.out; rwa [H1_step HY.out] at this, (HB.out.alloc HB.out.size _).grown HG1.out (by have := HB.out.size; simp; omega) (fun j hj => by cases hj; exact Nat.le_refl _)⟩
      case measure => simp [intOf]; omega
    · have hkn : n = k := by omega
      subst hkn
      rw [← HN.out, H2_zero, HN.out] at hmp
      have HMP := Lib.hid hmp
      have HB := Lib.hid hb
      have hwb : w.heap.size < wr.heap.size := hmp.lt
      clear hmp hb
      obtain ⟨w2, rfl⟩ : ∃ w2 : World, w2 = wr := ⟨wr, rfl⟩
      go_wp2_with fail
      go_loopw [23] (fun i wr => ∃ (k : Nat), i = .int .i64 k ∧ k ≤ n ∧ MpSt wr w.heap.size n (H2 S k []) ∧ Below w.heap.size w wr) (fun i _ => n - (intOf i).toNat)
      case atStart => exact ⟨0, rfl, Nat.zero_le _, HMP.out, HB.out⟩
      case round =>
        obtain ⟨k, rfl, hk, hmp, hb⟩ := hrel
        by_cases hlt : k < n
        · obtain ⟨y, hy⟩ := get_of_lt (l := S) (k := k) (by rw [HN.out]; exact hlt)
          obtain ⟨b, off, note, da, dc, oa, ol, oc, rfl, _, hns, c0, c1, c2, c3, hdv, hblk, _⟩ := HA.out.nth hb hy
          have HDV := Lib.hid (hdv.below ((Below.refl _ wr).alloc (Nat.le_refl _) (.cells #[.string y.name, .string note, .slice da y.deps.length dc, .slice oa ol oc] 30)))
          have HBK := Lib.hid hblk
          have hdl := HD.out y (List.mem_of_getElem? hy)
          have HY := Lib.hid hy
          have HMP1 := Lib.hid hmp
          have HB1 := Lib.hid hb
          have hwb1 := hmp.lt
          clear hy hmp hns hb hdv hblk
          obtain ⟨dl, hdle⟩ : ∃ dl, dl = y.deps := ⟨_, rfl⟩
          have HDL := Lib.hid hdle
          rw [← hdle] at HDV hdl c2
          clear hdle
          obtain ⟨w3, rfl⟩ : ∃ w3 : World, w3 = wr := ⟨wr, rfl⟩
          go_wp2_with fail
          go_loopw [31] (fun i wr => ∃ (j : Nat), i = .int .i64 j ∧ j ≤ dl.length ∧ MpSt wr w.heap.size n (H2 S k (dl.take j)) ∧ Below w.heap.size w wr ∧ Kept (fun q => q = w.heap.size) (w3.alloc (.cells #[.string y.name, .string note, .slice da dl.length dc, .slice oa ol oc] 30)) wr) (fun i _ => dl.length - (intOf i).toNat)
          case atStart => exact ⟨0, rfl, Nat.zero_le _, HMP1.out.alloc _, HB1.out.alloc HB1.out.size _, Kept.refl _ _⟩
          case round =>
            obtain ⟨j, rfl, hj, hmp2, hb2, hk2⟩ := hrel
            by_cases hjl : j < dl.length
            · obtain ⟨d, hd⟩ := get_of_lt hjl
              obtain ⟨da', dc', hdv1, _, _, _, hrd, hlt1, hsz1⟩ := HDV.out
              cases hdv1
              obtain ⟨bd, offd, hda, hcd⟩ := hrd j hjl
              subst hda
              rw [(List.getElem?_eq_some_iff.1 hd).2] at hcd
              have hbd : bd ≠ w.heap.size := by
                intro e
                have h1 := HBK.out _ rfl (by rw [← HDL.out]; omega)
                simp only at h1
                omega
              have hcd' := hk2.at hcd hbd
              have hds := hsz1 d (List.mem_of_getElem? hd)
              have HDS := Lib.hid hds
              have HSTEP := Lib.hid (H2_del (S := S) (k := k) hd)
              have HM2 := Lib.hid hmp2
              have HB2 := Lib.hid hb2
              have HK2 := Lib.hid hk2
              clear hd hrd hlt1 hsz1 hcd hds hmp2 hb2 hk2
              go_wp2_with (at_delete; refine wpList_drop Tryd.mapSB HM2.out (keyS HDS.out) rfl rfl rfl rfl ?_; intro w5 hmp5 hg5; have HM5 := Lib.hid hmp5; have HG5 := Lib.hid hg5; clear hmp5 hg5)
              go_roundw
              case rel =>
                refine ⟨j + 1, by go_num, by omega, by have := HM5.out; rwa [HSTEP.out] at this, HB2.out.grown HG5.out HB2.out.size (fun i hi => by cases hi; exact Nat.le_refl _), HK2.out.then (Kept.of_grown HG5.out) (fun i _ e => by simpa using e)⟩
              case measure => simp [intOf]; omega
            · have hjn : j = dl.length := by omega
              subst hjn
              rw [List.take_of_length_le (Nat.le_refl _), HDL.out, H2_last HY.out] at hmp2
              have HM2 := Lib.hid hmp2
              have HB2 := Lib.hid hb2
              clear hmp2 hb2 hk2
              go_wp2_with fail
              go_roundw
              case rel => exact ⟨k + 1, by go_num, by omega, HM2.out, HB2.out⟩
              case measure => simp [intOf]; omega
        · have hkn : n = k := by omega
          subst hkn
          have HM1 := Lib.hid hmp
          have HB1 := Lib.hid hb
          clear hmp hb
          go_wp2_with fail
          refine (keys_any _ wr).mono ?_
          rintro e w5 ⟨rfl, rfl⟩
          go_wp2_with fail
          refine (sorted_any _ n _ wr HM1.out (by omega)).mono ?_
          rintro e w6 ⟨⟨v, l, rfl, ho, hs, hnd, hmem, hnil, hlo⟩, hb6⟩
          have HF : Hid (HeadsPost S w (.returned v) w6) := by
            refine ⟨v, l, rfl, ho, hs, hnd, fun s => ?_, hnil, fun q hq => by have := hlo q hq; have := HB1.out.size; omega, HB1.out.trans (hb6.mono HB1.out.size)⟩
            rw [hmem s]
            unfold H2
            rw [List.take_of_length_le (by rw [HN.out]; exact Nat.le_refl _)]
            by_cases e : s ∈ names S ∧ ∀ x ∈ S, s ∉ x.deps
            · rw [if_pos ⟨e.1, e.2, by simp⟩]
              exact ⟨fun _ => e, fun _ => rfl⟩
            · rw [if_neg (fun h => e ⟨h.1, h.2.1⟩)]
              exact ⟨fun h => by simp at h, fun h => absurd h e⟩
          clear ho hs hnd hmem hnil hlo hb6
          go_wp2_with fail
          go_ret
          exact HF.out
end Go.Proofs.YteamkpmkchmhnaaDoor
