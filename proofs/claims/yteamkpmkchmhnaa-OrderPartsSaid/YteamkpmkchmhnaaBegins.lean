/- tambourlaw06.OrderBegins: it answers true. -/
import Derived.Test.YteamkpmkchmhnaaBegThy
import Derived.Test.YteamkpmkchmhnaaAwake
import Derived.Laws.EntriesVeiled
import Derived.StillTailTactics
namespace Go.Proofs.Yteamkpmkchmhnaa
open Go.RowKit Go.Maps Go.WideMaps

def TruePost (w : World) (e : Ending) (w' : World) : Prop := e = .returned (.bool true) ∧ Below w.heap.size w w'

theorem deps_1000 {S : List (Nd BA)} (h : depSum S ≤ 400) : ∀ x ∈ S, x.deps.length ≤ 1000 := by
  have key : ∀ (T : List (Nd BA)), ∀ x ∈ T, x.deps.length ≤ depSum T := by
    intro T
    induction T with
    | nil => simp
    | cons y r ih =>
      intro x hx
      unfold depSum at ih ⊢
      rw [List.map_cons, List.sum_cons]
      rcases List.mem_cons.1 hx with rfl | hx
      · omega
      · have := ih x hx
        omega
  intro x hx
  have := key S x hx
  omega

theorem RdS.later {w w' : World} {a : Option Addr} {ss : List BA} (h : RdS w a ss) (hb : Below w.heap.size w w') : RdS w' a ss := by
  intro k hk
  obtain ⟨b, off, ha, hc⟩ := h k hk
  exact ⟨b, off, ha, Below.keep hb hc⟩

theorem RdS.take {w : World} {a : Option Addr} {ss : List BA} (h : RdS w a ss) (q : Nat) : RdS w a (ss.take q) := by
  intro k hk
  have hk' : k < ss.length := by rw [List.length_take] at hk; omega
  obtain ⟨b, off, ha, hc⟩ := h k hk'
  exact ⟨b, off, ha, by rw [hc, List.getElem_take]⟩

theorem RdS.one {w : World} {a : Option Addr} {ss : List BA} (h : RdS w a ss) {b : Nat} (ha : a = some ⟨b, 0, none⟩) {k : Nat} {s : BA} (hs : ss[k]? = some s) : w.cell? ⟨b, k, none⟩ = some (.string s) := by
  obtain ⟨hk, rfl⟩ := List.getElem?_eq_some_iff.1 hs
  obtain ⟨b', off, hb, hc⟩ := h k hk
  rw [ha] at hb
  cases hb
  rwa [Nat.zero_add] at hc

/-- A slice of strings in hand: where it is, what it holds, that it is older than now. -/
structure SV (w : World) (v : Value) (a : Option Addr) (n c : Nat) (l : List BA) : Prop where
  val : v = .slice a n c
  len : l.length = n
  rd : RdS w a l
  lt : ∀ p, a = some p → p.block < w.heap.size

theorem OS.sv {w : World} {v : Value} {l : List BA} (h : OS w v l) : ∃ a n c, SV w v a n c l := by
  obtain ⟨a, c, rfl, hb⟩ := h.shape'
  refine ⟨a, _, c, rfl, rfl, h.rd, fun p hp => ?_⟩
  subst hp
  have : (Value.slice (some p) l.length c).ownBlock = some p.block := rfl
  exact h.block_lt this

theorem SV.later {w w' : World} {v : Value} {a : Option Addr} {n c : Nat} {l : List BA} (h : SV w v a n c l) (hb : Below w.heap.size w w') : SV w' v a n c l :=
  ⟨h.val, h.len, h.rd.later hb, fun p hp => Nat.lt_of_lt_of_le (h.lt p hp) hb.size⟩

theorem OS.cap {w : World} {a : Option Addr} {n c : Nat} {l : List BA} (h : OS w (.slice a n c) l) : n ≤ c := by
  rcases h.2 with ⟨hv, h0⟩ | ⟨g', cap, cur, hv, _, hg, h1, h2, _⟩
  · cases hv
    omega
  · cases hv
    exact h1

theorem RdS.len_le {l : List BA} {q n : Nat} (h : l.length = n) (hq : q ≤ n) : (l.take q).length = q := by rw [List.length_take, h]; omega

theorem onlyS_le (S : List (Nd BA)) (m : List BA) : (onlyS S m).length ≤ S.length := List.length_filter_le _ _

theorem onlyS_deps {S : List (Nd BA)} {m : List BA} (h : ∀ x ∈ S, x.deps.length ≤ 1000) : ∀ x ∈ onlyS S m, x.deps.length ≤ 1000 := fun x hx => h x (onlyS_mem.1 hx).1

def restL (l : List BA) (h : BA) : List BA := l.filter fun s => decide (s ≠ h)

theorem restL_mem {l : List BA} {h s : BA} : s ∈ restL l h ↔ s ∈ l ∧ s ≠ h := by simp [restL, List.mem_filter]

theorem restL_succ {l : List BA} {h s : BA} {k : Nat} (hk : l[k]? = some s) : restL (l.take (k + 1)) h = restL (l.take k) h ++ if s = h then [] else [s] := by
  obtain ⟨h1, rfl⟩ := List.getElem?_eq_some_iff.1 hk
  unfold restL
  rw [List.take_succ_eq_append_getElem h1, List.filter_append]
  congr 1
  by_cases e : l[k] = h
  · simp [e]
  · simp [e]

theorem restL_le (l : List BA) (h : BA) : (restL l h).length ≤ l.length := List.length_filter_le _ _

set_option maxRecDepth 100000 in
set_option maxHeartbeats 2000000 in
theorem begins_any (a : Option Addr) (n c : Nat) (S : List (Nd BA)) (x : Int) (w : World) (hn : S.length = n) (hm : n ≤ 9000000000000) (h : RdN w a S) :
    Calls Try.prog 3 #[.slice a n c, .int .i64 x] w (TruePost w) := by
  have HN := Lib.hid hn
  have HA := Lib.hid h
  clear hn h
  go_enter Try.func3, Try.ntmps3
  go_wp2_with fail
  refine (awake_any _).mono ?_
  rintro e w1 ⟨rfl, hb⟩
  have HB1 := Lib.hid (bMore ((Below.refl w.heap.size w).alloc (Nat.le_refl _) _) hb (by simp))
  have hbx : w1.cell? ⟨w.heap.size, 0, none⟩ = some (.slice a n c) := by
    refine Below.keep hb ?_
    go_simp
  clear hb
  by_cases h60 : 60 < n
  · go_wp2_with fail
    refine (small_no a n c S w1 HN.out hm (HA.out.below HB1.out) h60).mono ?_
    rintro e w2 ⟨rfl, hb⟩
    have HB2 := Lib.hid hb
    clear hb hbx h60
    go_wp2_with fail
    go_ret
    exact ⟨rfl, bMore HB1.out HB2.out (Nat.le_refl _)⟩
  · have h60' : n ≤ 60 := by omega
    clear h60
    go_wp2_with fail
    refine (small_yes a n c S w1 HN.out (HA.out.below HB1.out) h60').mono ?_
    rintro e w2 ⟨rfl, hb⟩
    have hbx2 := Below.keep hb hbx
    have HB2 := Lib.hid (bMore HB1.out hb (Nat.le_refl _))
    clear hb hbx
    by_cases hsm : depSum S ≤ 400
    · have HD := Lib.hid (deps_1000 hsm)
      rw [decide_eq_true hsm]
      clear hsm
      go_wp2_with fail
      refine (linear_any a n c S w2 HN.out (by omega) HD.out (HA.out.below HB2.out)).mono ?_
      rintro e w3 ⟨v, l, cc, hres, rfl, ho, hnil, hvq, hb⟩
      have hbx3 := Below.keep hb hbx2
      have HB3 := Lib.hid (bMore HB2.out hb (Nat.le_refl _))
      clear hb hbx2
      have hcase : (l = [] ∧ (errV cc = .nilIface ∨ ∃ q : Int, errV cc = .iface 59 (.int .i64 q))) ∨ (errV cc = .nilIface ∧ Ordered S l ∧ 0 < l.length) := by
        cases hres with
        | twice h => exact .inl ⟨rfl, .inr ⟨12, rfl⟩⟩
        | dep h _ _ _ _ => exact .inl ⟨rfl, .inr ⟨11, rfl⟩⟩
        | ok h _ hg hl =>
          by_cases h0 : 0 < l.length
          · exact .inr ⟨rfl, ⟨h, hg, hl⟩, h0⟩
          · exact .inl ⟨List.length_eq_zero_iff.1 (by omega), .inl rfl⟩
      clear hres
      rcases hcase with ⟨rfl, hev⟩ | ⟨hev, hord, h0⟩
      · obtain rfl := hnil rfl
        clear ho hnil hvq hbx3
        rcases hev with hev | ⟨q, hev⟩
        · rw [hev]
          clear hev
          go_wp2_with fail
          go_ret
          exact ⟨rfl, HB3.out⟩
        · rw [hev]
          clear hev
          go_wp2_with fail
          go_ret
          exact ⟨rfl, HB3.out⟩
      · rw [hev]
        clear hev hnil
        obtain ⟨g, cap, rfl⟩ := ho.shape h0
        have hln : l.length = n := by rw [hord.len, HN.out]
        rw [hln] at ho hvq h0 ⊢
        obtain ⟨q, hq, hqe⟩ := turn_lt x n h0
        have hqe : (wrap64 (x.tmod ↑n + ↑n)).tmod ↑n = (q : Int) := by
          have h1 : (x.tmod n).natAbs < n := by
            rw [Int.natAbs_tmod]
            exact Nat.mod_lt _ (by simpa using h0)
          rw [IntWalk.wrap64_in _ (by omega), hqe]
        obtain ⟨nm, hnm⟩ := get_of_lt (l := l) (k := q) (by omega)
        have hcq3 : w3.cell? ⟨g, q, none⟩ = some (.string nm) := by
          obtain ⟨b, off, hb, hc⟩ := ho.rd q (by omega)
          cases hb
          rw [Nat.zero_add] at hc
          rw [hc, (List.getElem?_eq_some_iff.1 hnm).2]
        have HNM := Lib.hid hnm
        have HSZ := Lib.hid (show nm.size ≤ maxLen from by
          obtain ⟨y, hy, e⟩ := List.mem_map.1 (hord.gr.mem (List.mem_of_getElem? hnm))
          rw [← e]
          exact HA.out.size y hy)
        have hqc : q ≤ cap := by have := ho.cap; omega
        have HO := Lib.hid ho
        have HORD := Lib.hid hord
        have HLN := Lib.hid hln
        have HV := Lib.hid (hvq g rfl)
        have HQE := Lib.hid hqe
        clear ho hord hln hvq hqe hnm
        go_wp2_with fail
        rw [HQE.out]
        clear HQE
        go_still_tail 5, (by kernel_rfl)
        change wpList _ _ _ _ _ w3.drew
        have HB3 := Lib.hid HB3.out.drew
        have HSV := Lib.hid (show SV w3.drew (.slice (some ⟨g, 0, none⟩) n cap) (some ⟨g, 0, none⟩) n cap l from ⟨rfl, HLN.out, HO.out.rd, fun p hp => by cases hp; exact HO.out.block_lt rfl⟩)
        have HBX := Lib.hid (show w3.drew.cell? ⟨w.heap.size, 0, none⟩ = some (.slice a n c) from hbx3)
        clear hbx3 hcq3 HO
        generalize w3.drew = w4 at HB3 HSV HBX ⊢
        go_wp2_with fail
        refine (past_any a n c S nm w4 HN.out (by omega) HD.out (HA.out.below HB3.out) HSZ.out).mono ?_
        rintro e w5 ⟨pv, pl, rfl, po, psrt, pnd, pmem, pnil, pq, hb⟩
        obtain ⟨pa, pn, pc, psv⟩ := po.sv
        obtain rfl := psv.val
        have HPS := Lib.hid psv
        have HPM := Lib.hid pmem
        have HPN := Lib.hid pnd
        have HB5 := Lib.hid hb
        have hbx5 := Below.keep hb HBX.out
        clear po psrt pnd pmem pnil pq hb psv
        go_wp2_with fail
        have HBX5 := Lib.hid hbx5
        clear hbx5
        refine (heads_any a n c S w5 HN.out (by omega) HD.out (HA.out.below (bMore HB3.out HB5.out (Nat.le_refl _)))).mono ?_
        rintro e w6 ⟨hv, hl, rfl, ho, hsrt, hnd, hmem, hnil, hq', hb⟩
        have hm0 : 0 < hl.length := by
          obtain ⟨s, h1, h2⟩ := HORD.out.head (by rw [HLN.out]; exact h0)
          exact List.length_pos_of_mem ((hmem s).2 ⟨h1, h2⟩)
        obtain ⟨g6, cap6, rfl⟩ := ho.shape hm0
        obtain ⟨m, hmm⟩ : ∃ m, m = hl.length := ⟨_, rfl⟩
        have hmle : m ≤ 60 := by
          have := List.Nodup.length_le_of_subset (l₁ := hl) (l₂ := names S) hnd (fun s hs => ((hmem s).1 hs).1)
          simp [names] at this
          have := HN.out
          omega
        have hm0 : 0 < m := by omega
        obtain ⟨r, hr⟩ : ∃ r, r = q % m := ⟨_, rfl⟩
        have hrm : r < m := by rw [hr]; exact Nat.mod_lt _ hm0
        have hmod : Int.tmod (q : Int) (m : Int) = (r : Int) := by rw [hr]; rfl
        obtain ⟨hd, hhd⟩ := get_of_lt (l := hl) (k := r) (by omega)
        have hcr : w6.cell? ⟨g6, r, none⟩ = some (.string hd) := ho.rd.one rfl hhd
        have HHD := Lib.hid ((hmem hd).1 (List.mem_of_getElem? hhd)).2
        have HB6 := Lib.hid hb
        have HCR := Lib.hid hcr
        have HMOD := Lib.hid hmod
        rw [← hmm]
        have hm00 : ((m : Int) == 0) = false := by simp; omega
        clear ho hsrt hnd hmem hnil hq' hb hcr hmod hhd hmm hr
        go_wp2_with fail
        have HSV6 := Lib.hid ((HSV.out.later HB5.out).later HB6.out)
        go_loopw [10, 57] (fun v i wr => ∃ (vv : Value) (k : Nat), vv = v ∧ i = .int .i64 k ∧ k ≤ n ∧ OS wr vv (restL (l.take k) hd) ∧ Below w6.heap.size w6 wr ∧ (∀ q, v.ownBlock = some q → w6.heap.size ≤ q)) (fun _ i _ => n - (intOf i).toNat)
        case atStart => exact ⟨_, 0, rfl, rfl, Nat.zero_le _, World.ownsRow_nil _ _ _ _, Below.refl _ _, by simp [Value.ownBlock]⟩
        case round =>
          obtain ⟨vv, k, rfl, rfl, hk, ho, hb, hlo⟩ := hrel
          by_cases hlt : k < n
          · obtain ⟨s, hs⟩ := get_of_lt (l := l) (k := k) (by rw [HLN.out]; exact hlt)
            have hcs := Below.keep hb (HSV6.out.rd.one rfl hs)
            have hcd := Below.keep hb HCR.out
            have hmod := HMOD.out
            have HS := Lib.hid hs
            have HO := Lib.hid ho
            have HB := Lib.hid hb
            have HLO := Lib.hid hlo
            clear hs ho hb hlo
            by_cases e : s = hd
            · have hbq : (s.toList == hd.toList) = true := by rw [eqB]; simp [e]
              have HE := Lib.hid e
              clear e
              go_wp2_with fail
              go_roundw
              case rel => exact ⟨_, k + 1, rfl, by go_num, by omega, by rw [restL_succ HS.out, if_pos HE.out, List.append_nil]; exact HO.out, HB.out, HLO.out⟩
              case measure => simp [intOf]; omega
            · have hbq : (s.toList == hd.toList) = false := by rw [eqB]; simp [e]
              have HE := Lib.hid e
              have HRL := Lib.hid (restL_le (l.take k) hd)
              clear e
              have HRL2 := Lib.hid (show (l.take k).length ≤ n by rw [List.length_take, HLN.out]; omega)
              go_wp2_with (at_builtin; go_loud (refine wpList_append_any Try.elS (by exact World.ownsRow.alloc HO.out _) (news := [.string s]) (by exact World.news_of_block (cs := #[.string s]) (t := 9) (fr := (0, 0)) (by have := heap_alloc_new wr (.cells #[.string s] 9); simpa using this)) (by simp [Value.oneCell']) rfl (by decide) (by have := HRL.out; have := HRL2.out; unfold maxLen; omega) (by have := HRL.out; have := HRL2.out; omega) rfl rfl rfl rfl ?_; intro gg cap7 w7 hown7 hgrow7 hat7 hlt7; have HOW7 := Lib.hid hown7; have HGR7 := Lib.hid hgrow7; have HAT7 := Lib.hid hat7; clear hown7 hgrow7 hat7 hlt7))
              have hk7 : Kept (fun q => vv.ownBlock = some q) wr w7 := (((Kept.refl _ wr).alloc _).then (Kept.of_grown HGR7.out) (fun _ _ e => e.symm))
              go_roundw
              case rel =>
                refine ⟨_, k + 1, rfl, by go_num, by omega, ?_, HB.out.trans (hk7.below HB.out.size (fun q hq e => by have := HLO.out q e; omega)), fun q hq => ?_⟩
                · rw [restL_succ HS.out, if_neg HE.out]
                  have := HOW7.out
                  unfold OS
                  simpa using this
                · simp only [Value.ownBlock, Option.some.injEq] at hq
                  subst hq
                  rcases HAT7.out with h1 | h1
                  · exact HLO.out _ h1
                  · have := HB.out.size
                    simp at h1
                    omega
              case measure => simp [intOf]; omega
          · have hkn : n = k := by omega
            subst hkn
            rw [List.take_of_length_le (by rw [HLN.out]; exact Nat.le_refl _)] at ho
            obtain ⟨ra, rn, rc, rsv⟩ := ho.sv
            obtain rfl := rsv.val
            have HRS := Lib.hid rsv
            have HB7 := Lib.hid hb
            have HSVr := Lib.hid (HSV6.out.later hb)
            have HPSr := Lib.hid ((HPS.out.later HB6.out).later hb)
            have HBr := Lib.hid (bMore (bMore (bMore HB3.out HB5.out (Nat.le_refl _)) HB6.out (Nat.le_refl _)) hb (Nat.le_refl _))
            have HBXr := Lib.hid (Below.keep hb (Below.keep HB6.out HBX5.out))
            have hbx := HBXr.out
            have hqn : q ≤ n := by omega
            clear ho hb hlo rsv
            go_wp2_with fail
            refine (only_any w.heap.size a n c S (some ⟨g, 0, none⟩) q cap (l.take q) wr HBXr.out HN.out (by omega) (HA.out.below HBr.out) (RdS.len_le HLN.out hqn) (by omega) (HSVr.out.rd.take q) HSVr.out.lt).mono ?_
            rintro e u1 ⟨a1, n1, c1, rfl, ol1, ord1, hb⟩
            have OL1 := Lib.hid ol1
            have OR1 := Lib.hid ord1
            have HU1 := Lib.hid hb
            have hn1 : n1 ≤ 60 := by have := onlyS_le S (l.take q); have := HN.out; omega
            clear hb ol1 ord1 hbx
            go_wp2_with fail
            refine (check_any a1 n1 c1 (onlyS S (l.take q)) u1 OL1.out (by omega) (onlyS_deps HD.out) OR1.out).mono ?_
            rintro e u2 ⟨t, cc, hres, rfl, hb⟩
            obtain rfl := HORD.out.part (HORD.out.begin q) hres
            have HU2 := Lib.hid (bMore HU1.out hb (Nat.le_refl _))
            have e0 : errV 0 = .nilIface := rfl
            rw [e0]
            clear hres hb e0
            go_wp2_with fail
            have hpl : pl.length ≤ 60 := by
              have := List.Nodup.length_le_of_subset (l₁ := pl) (l₂ := names S) HPN.out (fun s hs => ((HPM.out s).1 hs).name)
              simp [names] at this
              have := HN.out
              omega
            have hpn : pn ≤ 60 := by have := HPSr.out.len; omega
            refine (only_any w.heap.size a n c S pa pn pc pl u2 (Below.keep HU2.out HBXr.out) HN.out (by omega) ((HA.out.below HBr.out).below HU2.out) HPSr.out.len (by omega) (HPSr.out.later HU2.out).rd (HPSr.out.later HU2.out).lt).mono ?_
            rintro e u3 ⟨a3, n3, c3, rfl, ol3, ord3, hb⟩
            have OL3 := Lib.hid ol3
            have OR3 := Lib.hid ord3
            have HU3 := Lib.hid (bMore HU2.out hb (Nat.le_refl _))
            have hn3 : n3 ≤ 60 := by have := onlyS_le S pl; have := HN.out; omega
            clear hb ol3 ord3
            go_wp2_with fail
            refine (check_any a3 n3 c3 (onlyS S pl) u3 OL3.out (by omega) (onlyS_deps HD.out) OR3.out).mono ?_
            rintro e u4 ⟨t, cc, hres, rfl, hb⟩
            obtain rfl := HORD.out.part (HORD.out.past HPM.out) hres
            have HU4 := Lib.hid (bMore HU3.out hb (Nat.le_refl _))
            have e0 : errV 0 = .nilIface := rfl
            rw [e0]
            clear hres hb e0
            have hcq := (HSVr.out.later HU4.out).rd.one rfl HNM.out
            go_wp2_with fail
            clear hcq
            refine (place_any pa pc pn pl nm u4 HPSr.out.len (by omega) (HPSr.out.later HU4.out).rd).mono ?_
            rintro e u5 ⟨rfl, rfl⟩
            obtain ⟨pv, hpv⟩ : ∃ pv, pv = place nm pl 0 := ⟨_, rfl⟩
            have hpv0 : pv < 0 := by
              rw [hpv]
              exact (place_neg nm pl 0).1.2 (fun hin => HORD.out.notSelf HNM.out ((HPM.out nm).1 hin))
            rw [← hpv]
            clear hpv
            go_wp2_with fail
            have hrn : rn ≤ 60 := by
              have := HRS.out.len
              have := restL_le l hd
              have := HLN.out
              omega
            refine (only_any w.heap.size a n c S ra rn rc (restL l hd) u4 (Below.keep HU4.out HBXr.out) HN.out (by omega) ((HA.out.below HBr.out).below HU4.out) HRS.out.len (by omega) (HRS.out.later HU4.out).rd (HRS.out.later HU4.out).lt).mono ?_
            rintro e u6 ⟨a6, n6, c6, rfl, ol6, ord6, hb⟩
            have OL6 := Lib.hid ol6
            have OR6 := Lib.hid ord6
            have HU6 := Lib.hid (bMore HU4.out hb (Nat.le_refl _))
            have hn6 : n6 ≤ 60 := by have := onlyS_le S (restL l hd); have := HN.out; omega
            clear hb ol6 ord6
            go_wp2_with fail
            refine (check_any a6 n6 c6 (onlyS S (restL l hd)) u6 OL6.out (by omega) (onlyS_deps HD.out) OR6.out).mono ?_
            rintro e u7 ⟨t, cc, hres, rfl, hb⟩
            obtain rfl := HORD.out.part (HORD.out.rest HHD.out (m := restL l hd) (fun s => restL_mem)) hres
            have HU7 := Lib.hid (bMore HU6.out hb (Nat.le_refl _))
            have e0 : errV 0 = .nilIface := rfl
            rw [e0]
            clear hres hb e0
            go_wp2_with fail
            refine (only_any w.heap.size a n c S pa pn pc pl u7 (Below.keep HU7.out HBXr.out) HN.out (by omega) ((HA.out.below HBr.out).below HU7.out) HPSr.out.len (by omega) (HPSr.out.later HU7.out).rd (HPSr.out.later HU7.out).lt).mono ?_
            rintro e u8 ⟨a8, n8, c8, rfl, ol8, ord8, hb⟩
            have hn8 : n8 = pn := by
              have := onlyS_len HORD.out.nd HPN.out (fun s hs => ((HPM.out s).1 hs).name)
              have := HPSr.out.len
              omega
            subst hn8
            have HU8 := Lib.hid (bMore HU7.out hb (Nat.le_refl _))
            clear hb ol8 ord8
            go_wp2_with fail
            go_ret
            exact ⟨rfl, bMore HBr.out HU8.out (Nat.le_refl _)⟩
    · rw [decide_eq_false hsm]
      clear hsm hbx2
      go_wp2_with fail
      go_ret
      exact ⟨rfl, HB2.out⟩
end Go.Proofs.Yteamkpmkchmhnaa
