/- tambourlaw06.OrderParts: it answers true. -/
import Derived.Test.YteamkpmkchmhnaaMiss
namespace Go.Proofs.Yteamkpmkchmhnaa
open Go.RowKit Go.Maps Go.WideMaps

theorem missL_drop {l : List BA} (h : l.Nodup) (q : Nat) : missL l (l.take q) = l.drop q := by
  have e : missL l (l.take q) = missL (l.take q ++ l.drop q) (l.take q) := by rw [List.take_append_drop]
  rw [e]
  unfold missL
  rw [List.filter_append]
  have h1 : (l.take q).filter (fun s => !decide (s ∈ l.take q)) = [] := by
    rw [List.filter_eq_nil_iff]
    intro s hs
    simp [hs]
  have h2 : (l.drop q).filter (fun s => !decide (s ∈ l.take q)) = l.drop q := by
    rw [List.filter_eq_self]
    intro s hs
    have : s ∉ l.take q := fun ht => by
      have hd := h
      rw [← List.take_append_drop q l] at hd
      exact (List.nodup_append.1 hd).2.2 s ht s hs rfl
    simp [this]
  rw [h1, h2, List.nil_append]

theorem RdS.drop {w : World} {g : Nat} {ss : List BA} (h : RdS w (some ⟨g, 0, none⟩) ss) (q : Nat) : RdS w (some ⟨g, q, none⟩) (ss.drop q) := by
  intro k hk
  have hk' : q + k < ss.length := by rw [List.length_drop] at hk; omega
  obtain ⟨b, off, ha, hc⟩ := h (q + k) hk'
  cases ha
  exact ⟨g, q, rfl, by rw [List.getElem_drop]; simpa using hc⟩

theorem own_new (w : World) : (w.alloc (.cells #[] 9)).ownsRow 0 9 1 (.slice (some ⟨w.heap.size, 0, none⟩) 0 0) 0 [] :=
  ⟨rfl, .inr ⟨w.heap.size, 0, #[], rfl, Nat.zero_le _, heap_alloc_new w _, Nat.le_refl _, by unfold maxLen; omega, rfl, rfl⟩⟩

theorem SV.kept {S : Nat → Prop} {w w' : World} {v : Value} {a : Option Addr} {n c : Nat} {l : List BA} (h : SV w v a n c l) (hk : Kept S w w') (hs : ∀ p, a = some p → ¬ S p.block) : SV w' v a n c l :=
  ⟨h.val, h.len, h.rd.kept hk hs, fun p hp => Nat.lt_of_lt_of_le (h.lt p hp) hk.size⟩

set_option maxRecDepth 100000 in
set_option maxHeartbeats 4000000 in
theorem parts_any (a : Option Addr) (n c : Nat) (S : List (Nd BA)) (x : Int) (w : World) (hn : S.length = n) (hm : n ≤ 9000000000000) (h : RdN w a S) :
    Calls Try.prog 4 #[.slice a n c, .int .i64 x] w (TruePost w) := by
  have HN := Lib.hid hn
  have HA := Lib.hid h
  clear hn h
  go_enter Try.func4, Try.ntmps4
  go_wp2_with fail
  refine (awake_any _).mono ?_
  rintro e w1 ⟨rfl, hb⟩
  have HB1 := Lib.hid hb
  clear hb
  by_cases h60 : 60 < n
  · go_wp2_with fail
    refine (small_no a n c S w1 HN.out hm (HA.out.below HB1.out) h60).mono ?_
    rintro e w2 ⟨rfl, hb⟩
    have HB2 := Lib.hid hb
    clear hb h60
    go_wp2_with fail
    go_ret
    exact ⟨rfl, bMore HB1.out HB2.out (Nat.le_refl _)⟩
  · have h60' : n ≤ 60 := by omega
    clear h60
    go_wp2_with fail
    refine (small_yes a n c S w1 HN.out (HA.out.below HB1.out) h60').mono ?_
    rintro e w2 ⟨rfl, hb⟩
    have HB2 := Lib.hid (bMore HB1.out hb (Nat.le_refl _))
    clear hb
    by_cases hsm : depSum S ≤ 400
    · have HD := Lib.hid (deps_1000 hsm)
      rw [decide_eq_true hsm]
      clear hsm
      go_wp2_with fail
      refine (linear_any a n c S w2 HN.out (by omega) HD.out (HA.out.below HB2.out)).mono ?_
      rintro e w3 ⟨v, l, cc, hres, rfl, ho, hnil, hvq, hb⟩
      have HRES := Lib.hid hres
      have HB3 := Lib.hid (bMore HB2.out hb (Nat.le_refl _))
      clear hb
      have hcase : (l = [] ∧ (errV cc = .nilIface ∨ ∃ q : Int, errV cc = .iface 59 (.int .i64 q))) ∨ (errV cc = .nilIface ∧ Ordered S l ∧ 0 < l.length) := by
        cases hres with
        | twice h => exact .inl ⟨rfl, .inr ⟨12, rfl⟩⟩
        | dep h _ _ _ _ => exact .inl ⟨rfl, .inr ⟨11, rfl⟩⟩
        | ok h _ hg hl =>
          by_cases h0 : 0 < l.length
          · exact .inr ⟨rfl, ⟨h, hg, hl⟩, h0⟩
          · exact .inl ⟨List.length_eq_zero_iff.1 (by omega), .inl rfl⟩
      clear hres
      rcases hcase with ⟨rfl, hev⟩ | ⟨hev, hord, h0⟩
      · obtain rfl := hnil rfl
        clear ho hnil hvq
        rcases hev with hev | ⟨q, hev⟩
        · rw [hev]
          clear hev
          go_wp2_with fail
          go_ret
          exact ⟨rfl, HB3.out⟩
        · rw [hev]
          clear hev
          go_wp2_with fail
          go_ret
          exact ⟨rfl, HB3.out⟩
      · rw [hev]
        have HEV := Lib.hid hev
        clear hev hnil
        obtain ⟨g, cap, rfl⟩ := ho.shape h0
        have hln : l.length = n := by rw [hord.len, HN.out]
        rw [hln] at ho hvq h0 ⊢
        obtain ⟨q, hq, hqe⟩ := turn_lt x n h0
        have hqe : (wrap64 (x.tmod ↑n + ↑n)).tmod ↑n = (q : Int) := by
          have h1 : (x.tmod n).natAbs < n := by
            rw [Int.natAbs_tmod]
            exact Nat.mod_lt _ (by simpa using h0)
          rw [IntWalk.wrap64_in _ (by omega), hqe]
        have hqc : q ≤ cap := by have := ho.cap; omega
        have hnc : n ≤ cap := ho.cap
        have hqn : q ≤ n := by omega
        have hn00 : ((n : Int) == 0) = false := by simp; omega
        have HO := Lib.hid ho
        have HORD := Lib.hid hord
        have HLN := Lib.hid hln
        have HV := Lib.hid (hvq g rfl)
        have HSV := Lib.hid (show SV w3 (.slice (some ⟨g, 0, none⟩) n cap) (some ⟨g, 0, none⟩) n cap l from ⟨rfl, hln, ho.rd, fun p hp => by cases hp; exact ho.block_lt rfl⟩)
        clear ho hord hln hvq
        have HSRC := Lib.hid (show ∀ ad, (some ⟨g, 0, none⟩ : Option Addr) = some ad → ∀ j u, ((l.take q).map Value.string)[j]? = some u → (w3.alloc (.cells #[] 9)).cell? (ad.add j) = some u from fun ad had j u hu => by
          cases had
          rw [List.getElem?_map, Option.map_eq_some_iff] at hu
          obtain ⟨s, hs, rfl⟩ := hu
          rw [WideShapes.add_plain]
          exact (Kept.refl (fun _ => False) w3).alloc _ |>.at (by
            have := (HSV.out.rd.take q).one rfl hs
            simpa using this) (fun h => h))
        have HLQ := Lib.hid (RdS.len_le HLN.out hqn)
        go_wp2_with (at_builtin; go_loud (refine wpList_append_src Try.elS (own_new w3) (sa := some ⟨g, 0, none⟩) (m := q) (c := cap) (news := (l.take q).map Value.string) (by simp) (by rw [List.length_map, HLQ.out, Nat.mul_one]) HSRC.out (strs_oneCell _) (by unfold maxLen; omega) (by omega) rfl rfl rfl rfl ?_; intro v7 w4 hown7 hgrow7 hat7; have HOW7 := Lib.hid hown7; have HGR7 := Lib.hid hgrow7; have HAT7 := Lib.hid hat7; clear hown7 hgrow7 hat7))
        have hk4 : Kept (fun _ => False) w3 w4 := ((Kept.refl (fun _ => False) w3).alloc _).then (Kept.of_grown HGR7.out) (fun i hi e => by
          have : i = w3.heap.size := by simpa [Value.ownBlock] using e
          omega)
        have HB4 := Lib.hid (hk4.below (Nat.le_refl w3.heap.size) (fun _ _ h => h))
        have ho4 : OS w4 v7 (l.take q) := by
          have := HOW7.out
          unfold OS
          rw [HLQ.out]
          simpa using this
        have hq4 : ∀ k, v7.ownBlock = some k → w3.heap.size ≤ k := fun k hk => by
          rcases HAT7.out k hk with h1 | h1
          · have : w3.heap.size = k := by simpa [Value.ownBlock] using h1
            omega
          · simp at h1
            omega
        obtain ⟨a7, c7, rfl, _⟩ := ho4.shape'
        rw [HLQ.out] at ho4 hq4 ⊢
        have HO4 := Lib.hid ho4
        have HQ4 := Lib.hid hq4
        clear ho4 hq4 hk4 HOW7 HGR7 HAT7
        refine (missing_any a n c S a7 q c7 (l.take q) w4 HN.out (by omega) HD.out (HA.out.below (bMore HB3.out HB4.out (Nat.le_refl _))) HLQ.out (by omega) HO4.out.rd).mono ?_
        rintro e w5 ⟨v5, l5, cc5, hres5, rfl, ho5, hvq5, hb⟩
        obtain ⟨rfl, rfl⟩ := LinRes.unique ltB_LO HRES.out hres5
        rw [missL_drop HORD.out.gr.nodup] at ho5
        rw [HEV.out]
        obtain ⟨a5, n5, c5, sv5⟩ := ho5.sv
        obtain rfl := sv5.val
        have hn5 : n5 = n - q := by
          have := sv5.len
          rw [List.length_drop, HLN.out] at this
          omega
        subst hn5
        have HSV5 := Lib.hid sv5
        have HQ5 := Lib.hid hvq5
        have HB5 := Lib.hid hb
        clear hres5 ho5 hvq5 hb sv5
        go_wp2_with fail
        refine (same_any a5 c5 (n - q) (l.drop q) (some ⟨g, q, none⟩) (cap - q) (n - q) (l.drop q) w5 HSV5.out.len (by omega) HSV5.out.rd (by rw [List.length_drop, HLN.out]) (by omega) (((HSV.out.later HB4.out).later HB5.out).rd.drop q)).mono ?_
        rintro e w6 ⟨⟨r, rfl, hr⟩, hk⟩
        obtain rfl : r = true := hr.2 rfl
        have HK6 := Lib.hid hk
        clear hr hk
        have HX3 := Lib.hid (show Below w3.heap.size w3 w6 from (bMore HB4.out HB5.out (Nat.le_refl _)).trans (HK6.out.below (by have := HB4.out.size; have := HB5.out.size; omega) (fun _ _ h => h)))
        have HSV6 := Lib.hid (HSV5.out.kept HK6.out (fun _ _ h => h))
        have HO6 := Lib.hid ((HO4.out.kept (Kept.of_below HB5.out) (fun b hb => by have := HO4.out.block_lt hb; omega)).kept HK6.out (fun _ _ h => h))
        have HNE := Lib.hid (show ∀ b, (Value.slice a7 q c7).ownBlock = some b → w3.heap.size ≤ b ∧ ∀ p, a5 = some p → p.block ≠ b from fun b hb => ⟨HQ4.out b hb, fun p hp => by
          have h1 := HO4.out.block_lt hb
          have h2 := HQ5.out p.block (by rw [hp]; rfl)
          omega⟩)
        clear HSV5 HB5 HK6 HO4 HQ4 HQ5
        go_wp2_with fail
        go_loopw [7, 65] (fun v i wr => ∃ (vv : Value) (k : Nat), vv = v ∧ i = .int .i64 k ∧ k ≤ n - q ∧ OS wr vv (l.take (q + k)) ∧ SV wr (.slice a5 (n - q) c5) a5 (n - q) c5 (l.drop q) ∧ Below w3.heap.size w3 wr ∧ (∀ b, vv.ownBlock = some b → w3.heap.size ≤ b ∧ ∀ p, a5 = some p → p.block ≠ b)) (fun _ i _ => n - (intOf i).toNat)
        case atStart => exact ⟨_, 0, rfl, rfl, Nat.zero_le _, HO6.out, HSV6.out, HX3.out, HNE.out⟩
        case round =>
          obtain ⟨vv, k, rfl, rfl, hk, ho, hsv, hb, hne⟩ := hrel
          have HO := Lib.hid ho
          have HSVk := Lib.hid hsv
          have HB := Lib.hid hb
          have HNEk := Lib.hid hne
          clear ho hsv hb hne
          by_cases hlt : k < n - q
          · obtain ⟨sv, hs⟩ := get_of_lt (l := l) (k := q + k) (by rw [HLN.out]; omega)
            have hs' : (l.drop q)[k]? = some sv := by rw [List.getElem?_drop]; exact hs
            obtain ⟨b5, off5, ha5, hcs⟩ := HSVk.out.rd k (by have := HSVk.out.len; omega)
            rw [(List.getElem?_eq_some_iff.1 hs').2] at hcs
            have HS := Lib.hid hs
            obtain ⟨a7', c7', rfl, _⟩ := HO.out.shape'
            have hlq : (l.take (q + k)).length = q + k := RdS.len_le HLN.out (by omega)
            have hov := HO.out
            have hbv := HNEk.out
            rw [hlq] at hov hbv ⊢
            have HOV := Lib.hid hov
            have HBV := Lib.hid hbv
            have HLQK := Lib.hid hlq
            have HA5 := Lib.hid ha5
            subst ha5
            clear hs hs' hov hbv hlq
            go_wp2_with fail
            clear hcs
            obtain ⟨w7, rfl⟩ : ∃ w7 : World, w7 = wr := ⟨wr, rfl⟩
            go_loopw [71] (fun i wr => ∃ (j : Nat), i = .int .i64 j ∧ j ≤ n ∧ Below w7.heap.size w7 wr) (fun i _ => n - (intOf i).toNat)
            case atStart => exact ⟨0, rfl, Nat.zero_le _, Below.refl _ _⟩
            case round =>
              obtain ⟨j, rfl, hj, hb7⟩ := hrel
              by_cases hjn : j < n
              · obtain ⟨y, hy⟩ := get_of_lt (l := S) (k := j) (by rw [HN.out]; exact hjn)
                have HB7 := Lib.hid hb7
                have HBA := Lib.hid (bMore HB3.out (bMore HB.out hb7 (Nat.le_refl _)) (Nat.le_refl _))
                obtain ⟨b, off, note, da, dc, oa, ol, oc, rfl, _, hns, c0, c1, c2, c3, hdv, _, _⟩ := HA.out.nth HBA.out hy
                have HY := Lib.hid hy
                have HDV := Lib.hid (hdv.below ((Below.refl _ wr).alloc (Nat.le_refl _) (.cells #[.string y.name, .string note, .slice da y.deps.length dc, .slice oa ol oc] 34)))
                have hdl : y.deps.length ≤ 1000 := HD.out y (List.mem_of_getElem? hy)
                clear hy hns hb7 hdv
                by_cases e : y.name = sv
                · have hbq : (y.name.toList == sv.toList) = true := by rw [eqB]; simp [e]
                  have HE := Lib.hid e
                  clear e
                  go_wp2_with fail
                  have HRV := Lib.hid ((HOV.out.rd.later HB7.out).later ((Below.refl _ wr).alloc (Nat.le_refl _) (.cells #[.string y.name, .string note, .slice da y.deps.length dc, .slice oa ol oc] 34)))
                  have HDE := Lib.hid (HORD.out.gr.deps HORD.out.nd (List.mem_of_getElem? HY.out) (by rw [HE.out]; exact HS.out))
                  clear c0 c1 c2 c3
                  go_loop [83] (fun i => ∃ t : Nat, t ≤ y.deps.length ∧ i = .int .i64 t) (fun i => y.deps.length - (intOf i).toNat)
                  case atStart => exact ⟨0, Nat.zero_le _, rfl⟩
                  case round =>
                    obtain ⟨t, ht, rfl⟩ := hrel
                    by_cases htl : t < y.deps.length
                    · obtain ⟨da', dc', hdv1, _, _, _, hrd, _, _⟩ := HDV.out
                      cases hdv1
                      obtain ⟨bd, offd, hda, hcd⟩ := hrd t htl
                      subst hda
                      have HIN := Lib.hid (HDE.out _ (List.getElem_mem htl))
                      clear hrd
                      generalize y.deps[t] = d at hcd HIN
                      go_wp2_with fail
                      clear hcd
                      refine (place_any a7' c7' (q + k) (l.take (q + k)) d _ HLQK.out (by omega) HRV.out).mono ?_
                      rintro e w9 ⟨rfl, rfl⟩
                      obtain ⟨pv, hpv⟩ : ∃ pv, pv = place d (l.take (q + k)) 0 := ⟨_, rfl⟩
                      have hpv0 : 0 ≤ pv := by
                        rw [hpv]
                        have := (place_neg d (l.take (q + k)) 0).2 HIN.out
                        omega
                      rw [← hpv]
                      clear hpv
                      go_wp2_with fail
                      go_round
                      case rel => exact ⟨t + 1, by omega, by go_num⟩
                      case measure => simp [intOf]; omega
                    · have htn : t = y.deps.length := by omega
                      go_wp2_with fail
                      go_roundw
                      case rel => exact ⟨j + 1, by go_num, by omega, HB7.out.alloc HB7.out.size _⟩
                      case measure => simp [intOf]; omega
                · have hbq : (y.name.toList == sv.toList) = false := by rw [eqB]; simp [e]
                  have HE := Lib.hid e
                  clear e
                  go_wp2_with fail
                  go_roundw
                  case rel => exact ⟨j + 1, by go_num, by omega, HB7.out.alloc HB7.out.size _⟩
                  case measure => simp [intOf]; omega
              · have HB7 := Lib.hid hb7
                clear hb7
                have HLL := Lib.hid (show (l.take (q + (k + 1))) = l.take (q + k) ++ [sv] by
                  rw [show q + (k + 1) = q + k + 1 by omega]
                  obtain ⟨h1, h2⟩ := List.getElem?_eq_some_iff.1 HS.out
                  rw [List.take_succ_eq_append_getElem h1, h2])
                have HOW := Lib.hid (show wr.ownsRow 0 9 1 (.slice a7' (q + k) c7') (q + k) ((l.take (q + k)).map Value.string) by
                  have := HOV.out.kept (Kept.of_below HB7.out) (fun b hb => by have := HOV.out.block_lt hb; omega)
                  unfold OS at this
                  rwa [HLQK.out] at this)
                go_wp2_with (at_builtin; go_loud (refine wpList_append_any Try.elS (by exact World.ownsRow.alloc HOW.out _) (news := [.string sv]) (by exact World.news_of_block (cs := #[.string sv]) (t := 9) (fr := (0, 0)) (by have := heap_alloc_new wr (.cells #[.string sv] 9); simpa using this)) (by simp [Value.oneCell']) rfl (by decide) (by unfold maxLen; omega) (by omega) rfl rfl rfl rfl ?_; intro gg cap9 w9 hown9 hgrow9 hat9 hlt9; have HOW9 := Lib.hid hown9; have HGR9 := Lib.hid hgrow9; have HAT9 := Lib.hid hat9; clear hown9 hgrow9 hat9 hlt9))
                have hk9 : Kept (fun b => (Value.slice a7' (q + k) c7').ownBlock = some b) w7 w9 := ((((Kept.refl _ w7).then (Kept.of_below HB7.out) (fun i hi e => by omega)).alloc _).then (Kept.of_grown HGR9.out) (fun _ _ e => e.symm))
                refine ⟨⟨_, k + 1, rfl, by go_num, by omega, ?_, ?_, ?_, ?_⟩, ?_⟩
                · unfold OS
                  rw [HLL.out]
                  have := HOW9.out
                  simpa [HLQK.out] using this
                · exact HSVk.out.kept hk9 (fun p hp e => (HBV.out _ e).2 p hp rfl)
                · exact HB.out.trans (hk9.below HB.out.size (fun b hb e => by have := (HBV.out _ e).1; omega))
                · intro b hb
                  have hbg : gg = b := by simpa [Value.ownBlock] using hb
                  subst hbg
                  rcases HAT9.out with h1 | h1
                  · exact HBV.out _ h1
                  · have h2 := HB.out.size
                    have h3 := HB7.out.size
                    simp at h1
                    refine ⟨by omega, fun p hp => ?_⟩
                    have := HSVk.out.lt p hp
                    omega
                · simp [intOf]
                  omega
          · have hkn : k = n - q := by omega
            subst hkn
            have hqq : q + (n - q) = n := by omega
            obtain ⟨a7', c7', rfl, _⟩ := HO.out.shape'
            have hlq : (l.take (q + (n - q))).length = n := by rw [hqq]; exact RdS.len_le HLN.out (Nat.le_refl _)
            rw [hlq]
            clear hlq hqq
            go_wp2_with fail
            go_ret
            exact ⟨rfl, bMore HB3.out HB.out (Nat.le_refl _)⟩
    · rw [decide_eq_false hsm]
      clear hsm
      go_wp2_with fail
      go_ret
      exact ⟨rfl, HB2.out⟩
end Go.Proofs.Yteamkpmkchmhnaa
