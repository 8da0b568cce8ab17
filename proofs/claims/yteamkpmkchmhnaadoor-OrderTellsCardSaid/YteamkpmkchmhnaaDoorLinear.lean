/- order.Linear. -/
import Derived.Test.YteamkpmkchmhnaaDoorLinMem
import Derived.Outline
namespace Go.Proofs.YteamkpmkchmhnaaDoor
open Go.RowKit Go.Maps Go.WideMaps

def lenOf : Value → Nat
  | .slice _ n _ => n
  | _ => 0

set_option maxRecDepth 100000 in
set_option maxHeartbeats 2000000 in
theorem linear_any (a : Option Addr) (n c : Nat) (S : List (Nd BA)) (w : World) (hn : S.length = n) (hm : n ≤ 1000) (hd : ∀ x ∈ S, x.deps.length ≤ 1000) (h : RdN w a S) :
    Calls Tryd.prog 7 #[.slice a n c] w (LinPost S w) := by
  have HN := Lib.hid hn
  have HA := Lib.hid h
  have HD := Lib.hid hd
  have HSZ := Lib.hid h.size
  clear hn h hd
  have hmm := @run_makeMap Tryd.prog
  go_enter Tryd.func7, Tryd.ntmps7
  go_wp2_with fail
  go_loopw [25] (fun i wr => ∃ (k : Nat), i = .int .i64 k ∧ k ≤ n ∧ Mps wr w.heap.size k (W0 S k) ∧ (names (S.take k)).Nodup ∧ Below w.heap.size w wr) (fun i _ => n - (intOf i).toNat)
  case atStart => exact ⟨0, rfl, Nat.zero_le _, by have := Mp.made w Tryd.prog 9 (fun s : BA => Value.string s); unfold W0; simpa [names] using this, by simp [names], (Below.refl _ _).alloc (Nat.le_refl _) _⟩
  case round =>
    obtain ⟨k, rfl, hk, hmp, hnd, hb⟩ := hrel
    by_cases hlt : k < n
    · obtain ⟨y, hy⟩ := get_of_lt (l := S) (k := k) (by rw [HN.out]; exact hlt)
      obtain ⟨b, off, note, dv, oa, ol, oc, rfl, hns, c0, c1, c2, c3, hdv⟩ := (HA.out.below hb) k y hy
      obtain ⟨da, dc, rfl, _⟩ := hdv
      have HY := Lib.hid hy
      have HMP := Lib.hid hmp
      have HND := Lib.hid hnd
      have HNS := Lib.hid hns
      have HB := Lib.hid hb
      clear hy hmp hnd hns hb
      by_cases hdup : y.name ∈ names (S.take k)
      · have hF : W0 S k y.name = some (.int .i64 0) := by unfold W0; rw [if_pos hdup]
        have HF := Lib.hid hF
        have HP : Hid (∀ w', Below w.heap.size w w' → LinPost S w (.returned (.tuple #[.slice none 0 0, .iface 48 (.int .i64 12)])) w') := by
          intro w' hb'
          refine ⟨_, [], 12, .twice fun h => ?_, rfl, World.ownsRow_nil _ _ _ _, fun _ => rfl, by simp [Value.ownBlock], hb'⟩
          obtain ⟨hk1, hk2⟩ := List.getElem?_eq_some_iff.1 HY.out
          have h2 : names S = names (S.take k) ++ names (S.drop k) := by unfold names; rw [← List.map_append, List.take_append_drop]
          rw [h2, List.nodup_append] at h
          refine h.2.2 _ hdup _ ?_ rfl
          rw [List.drop_eq_getElem_cons hk1, hk2]
          simp [names]
        clear hF
        go_wp2_with (at_lookup; refine wpList_look_ok Tryd.mapSI (HMP.out.alloc _) (keyS HNS.out) rfl rfl rfl rfl ?_; rw [HF.out])
        go_ret2
        exact HP.out _ (HB.out.alloc HB.out.size _)
      · have hF : W0 S k y.name = none := by unfold W0; rw [if_neg hdup]
        have HF := Lib.hid hF
        clear hF
        go_wp2_with (first
          | (at_lookup; refine wpList_look_ok Tryd.mapSI (HMP.out.alloc _) (keyS HNS.out) rfl rfl rfl rfl ?_; rw [HF.out])
          | (at_mapUpdate; refine wpList_store Tryd.mapSI (val := .int .i64 0) (HMP.out.alloc _) (by unfold maxLen; omega) (keyS HNS.out) rfl rfl rfl rfl rfl ?_; intro w1 hmp1 hg1; have HM1 := Lib.hid hmp1; have HG1 := Lib.hid hg1; clear hmp1 hg1))
        go_roundw
        case rel =>
          refine ⟨k + 1, by go_num, by omega, by have := HM1.out; rwa [W0_step HY.out] at this, ?_, (HB.out.alloc HB.out.size _).grown HG1.out (by have := HB.out.size; simp; omega) (fun j hj => by cases hj; exact Nat.le_refl _)⟩
          rw [names_take_succ HY.out, List.nodup_append]
          exact ⟨HND.out, by simp, fun s hs t ht e => hdup (by simp at ht; rw [← ht, ← e]; exact hs)⟩
        case measure => simp [intOf]; omega
    · have hkn : k = n := by omega
      have HK := Lib.hid hkn
      have hmw : Mps wr w.heap.size n (WF S fun _ => 0) := by
        have := W0_all (S := S) (by have := hnd; rwa [hkn, ← HN.out, List.take_of_length_le (Nat.le_refl _)] at this)
        rw [HN.out] at this
        rw [hkn] at hmp
        rwa [this] at hmp
      have HND := Lib.hid (show (names S).Nodup by have := hnd; rwa [hkn, ← HN.out, List.take_of_length_le (Nat.le_refl _)] at this)
      have HMW := Lib.hid hmw
      have HB := Lib.hid hb
      have hB : w.heap.size < wr.heap.size := hmp.lt
      have hkn' : n = k := hkn.symm
      clear hmp hmw hnd hb hkn HK
      subst hkn'
      obtain ⟨w0, rfl⟩ : ∃ w0 : World, w0 = wr := ⟨wr, rfl⟩
      go_wp2_with fail
      go_loopw [45] (fun i wr => ∃ (k m m2 : Nat) (G : BA → Option Value), i = .int .i64 k ∧ k ≤ n ∧ Mps wr w.heap.size m (WF S (cnA S k)) ∧ m ≤ n + k * 1000 ∧ Grp wr w0.heap.size m2 w0.heap.size G (users (S.take k)) ∧ m2 ≤ k * 1000 ∧
          Below w.heap.size w wr ∧ w0.heap.size < wr.heap.size) (fun i _ => n - (intOf i).toNat)
      case atStart =>
        refine ⟨0, n, 0, fun _ => none, rfl, Nat.zero_le _, ?_, by omega, ?_, by omega, HB.out.alloc HB.out.size _, by simp⟩
        · rw [← cnA_zero S HND.out]
          exact HMW.out.alloc _
        · have := Grp.start (lo := w0.heap.size) (Mp.made w0 Tryd.prog 9 (fun s : BA => Value.string s))
          have e : users (S.take 0) = fun _ => [] := by funext d; simp [users, names]
          rw [e]
          exact this
      case round =>
        obtain ⟨k, m, m2, G, rfl, hk, hmw, hmle, hg, hm2, hb, hsz⟩ := hrel
        by_cases hlt : k < n
        · obtain ⟨y, hy⟩ := get_of_lt (l := S) (k := k) (by rw [HN.out]; exact hlt)
          obtain ⟨b, off, note, dv, oa, ol, oc, rfl, hns, c0, c1, c2, c3, hdv⟩ := (HA.out.below hb) k y hy
          have hk2 : k * 1000 ≤ 1000 * 1000 := Nat.mul_le_mul_right _ (by omega)
          have hdl := HD.out y (List.mem_of_getElem? hy)
          have HY := Lib.hid hy
          have HMW1 := Lib.hid hmw
          have HG := Lib.hid hg
          have HNS := Lib.hid hns
          have HB1 := Lib.hid hb
          obtain ⟨da, dc, rfl, hdvr⟩ := hdv
          have HDV := Lib.hid (show RdV wr (.slice da y.deps.length dc) y.deps from ⟨da, dc, rfl, hdvr⟩)
          clear hy hmw hg hns hb hdvr
          go_wp2_with fail
          refine (cloneS_any _ y.deps _ (HDV.out.below ((Below.refl _ wr).alloc (Nat.le_refl _) _))).mono ?_
          rintro e w3 ⟨v1, rfl, ho1, hlow1, hb3⟩
          have HO1 := Lib.hid ho1
          have HL1 := Lib.hid hlow1
          have HB3 := Lib.hid hb3
          clear ho1 hlow1 hb3
          go_wp2_with fail
          refine (sortS_any v1 y.deps w3 HO1.out (by omega)).mono ?_
          rintro e w4 ⟨rfl, l4, ho4, hp4, hs4, hk4⟩
          have HO4 := Lib.hid ho4
          have HP4 := Lib.hid hp4
          have HS4 := Lib.hid hs4
          have HK4 := Lib.hid hk4
          clear ho4 hp4 hs4 hk4
          go_wp2_with fail
          refine (compactS_any v1 l4 w4 HO4.out HS4.out).mono ?_
          rintro e w5 ⟨v5, l5, rfl, ho5, hn5, hm5, hle5, hk5, hv5⟩
          obtain ⟨a5, cap5, hv5s, hv5b⟩ := ho5.shape'
          subst hv5s
          have HX : Hid (Below (wr.heap.size + 1) (wr.alloc (.cells #[.string y.name, .string note, .slice da y.deps.length dc, .slice oa ol oc] 30)) w5) := by
            have h1 := HL1.out
            refine (((Kept.of_below HB3.out).then HK4.out (fun i hi e => ?_)).then hk5 (fun i hi e => ?_)).below (by simp) (fun q hq e => ?_)
            · exact h1 i e
            · exact h1 i e
            · simp at e
              omega
          have HO5 := Lib.hid ho5
          have HN5 := Lib.hid hn5
          have HM5 := Lib.hid (show ∀ s, s ∈ l5 ↔ s ∈ y.deps from fun s => (hm5 s).trans HP4.out.mem_iff)
          have HV5 := Lib.hid (show ∀ q, (Value.slice a5 l5.length cap5).ownBlock = some q → wr.heap.size + 1 ≤ q from fun q hq => by have := HL1.out q (hv5 q hq); simpa using this)
          have h5b : l5.length ≤ 1000 := by have := HP4.out.length_eq; omega
          clear HO1 HL1 HB3 HO4 HP4 HS4 HK4 ho5 hn5 hm5 hle5 hk5 hv5 hv5b
          obtain ⟨w2, rfl⟩ : ∃ w2 : World, w2 = wr := ⟨wr, rfl⟩
          go_wp2_with fail
          go_loopw [58] (fun i wi => ∃ (j m m2 : Nat) (G : BA → Option Value), i = .int .i64 j ∧ j ≤ l5.length ∧ Mps wi w.heap.size m (WF S (cnB S k j y.name)) ∧ m ≤ n + k * 1000 + j ∧ Grp wi w0.heap.size m2 w0.heap.size G (usB S k j y.name l5) ∧ m2 ≤ k * 1000 + j ∧
              Below w.heap.size w wi ∧ OS wi (.slice a5 l5.length cap5) l5 ∧ (∀ d q, (atK G d).ownBlock = some q → (Value.slice a5 l5.length cap5).ownBlock ≠ some q) ∧
              wi.heap[w2.heap.size]? = some (.cells #[.string y.name, .string note, .slice da y.deps.length dc, .slice oa ol oc] 30) ∧ w0.heap.size < wi.heap.size) (fun i _ => l5.length - (intOf i).toNat)
          case atStart =>
            have hk5 := (Kept.of_below HX.out)
            refine ⟨0, m, m2, G, rfl, Nat.zero_le _, ?_, hmle, ?_, hm2, ?_, HO5.out, ?_, ?_, ?_⟩
            · rw [← cnB_zero HND.out HY.out]
              exact (HMW1.out.alloc _).kept hk5 (by have := HMW1.out.lt; omega)
            · rw [← usB_zero]
              exact (HG.out.alloc _).kept hk5 (by have := HG.out.map.lt; omega) (fun d q hq => by have := (HG.out.row d).block_lt hq; omega)
            · exact (HB1.out.alloc HB1.out.size _).trans (HX.out.mono (by have := HB1.out.size; omega))
            · intro d q hq e
              have h1 := (HG.out.row d).block_lt hq
              have h2 := HV5.out q e
              omega
            · exact hk5.heap (heap_alloc_new w2 _) (by omega)
            · have := HX.out.size
              simp at this
              omega
          case round =>
            obtain ⟨j, m3, m4, G3, rfl, hj, hmw3, hmle3, hg3, hmle4, hb3, ho3, hap3, hbx3, hsz3⟩ := hrel
            by_cases hjl : j < l5.length
            · obtain ⟨d, hd⟩ := get_of_lt hjl
              obtain ⟨bq, offq, rfl, hcd⟩ := ho3.rd j hjl
              have hdl5 : l5[j] = d := (List.getElem?_eq_some_iff.1 hd).2
              rw [hdl5] at hcd
              have hcx : wr.cell? ⟨w2.heap.size, 0, none⟩ = some (.string y.name) := by rw [cell_of_row _ _ _ _ _ _ hbx3]; rfl
              have hds : d.size ≤ maxLen := by
                obtain ⟨_, _, _, _, _, _, _, _, h7⟩ := HDV.out
                exact h7 d ((HM5.out d).1 (List.mem_of_getElem? hd))
              have HDS := Lib.hid hds
              have HDD := Lib.hid hd
              have HM3 := Lib.hid hmw3
              have HG3 := Lib.hid hg3
              have HB3 := Lib.hid hb3
              have HO3 := Lib.hid ho3
              have HAP := Lib.hid hap3
              have HBX := Lib.hid hbx3
              have hul : (usB S k j y.name l5 d).length ≤ n + 1 := by have := usB_length_le S k j y.name l5 d; rw [HN.out] at this; exact this
              obtain ⟨ud, hud⟩ : ∃ ud, ud = usB S k j y.name l5 d := ⟨_, rfl⟩
              rw [← hud] at hul
              have HUD := Lib.hid hud
              obtain ⟨vg, hvg⟩ : ∃ vg, atK G3 d = vg := ⟨_, rfl⟩
              have HVG := Lib.hid hvg
              have hov : OS wr vg ud := by rw [← hvg, hud]; exact hg3.row d
              have HOV := Lib.hid hov
              have tok1 : True := trivial
              have tok2 : True := trivial
              have tok3 : True := trivial
              have tok4 : True := trivial
              clear hmw3 hg3 hb3 ho3 hap3 hbx3 hdl5 hd hds hud hvg hov
              have hvb : vg.ownBlock ≠ some w.heap.size := HM3.out.not_row HOV.out
              have hvu : vg.ownBlock ≠ some w0.heap.size := HG3.out.map.not_row HOV.out
              have hvx : vg.ownBlock ≠ some w2.heap.size := heap_not_row HBX.out (by decide) HOV.out
              have HVB := Lib.hid hvb
              have HVU := Lib.hid hvu
              have HVX := Lib.hid hvx
              have hwu : w.heap.size ≠ w0.heap.size := by omega
              have hxu : w2.heap.size ≠ w0.heap.size := by have := HG.out.map.lt; omega
              have hxb : w2.heap.size ≠ w.heap.size := by have := HMW1.out.lt; omega
              clear hvb hvu hvx
              go_wp2_with (first
                | (at_lookup; have _t := tok1; refine wpList_look Tryd.mapSS HG3.out.map (keyS HDS.out) rfl rfl rfl rfl HVG.out ?_; clear tok1)
                | (at_builtin; refine wpList_append_any Tryd.elS (by exact World.ownsRow.alloc HOV.out _) (news := [.string y.name]) (by exact cell_one_new _ _ _) (strs_oneCell [_]) rfl (by decide) (by unfold maxLen; omega) (by omega) rfl rfl rfl rfl ?_; intro g cap w5 hown5 hgrow5 hat5 hlt5; have HOW5 := Lib.hid hown5; have HGR5 := Lib.hid hgrow5; have HAT5 := Lib.hid hat5; have HK5 := Lib.hid (app_kept hgrow5); have HM5' := Lib.hid (HG3.out.map.kept HK5.out HVU.out); clear hown5 hgrow5 hat5 hlt5)
                | (at_mapUpdate; have _t := tok3; refine wpList_store Tryd.mapSS (val := .slice (some ⟨g, 0, none⟩) (ud.length + 1) cap) HM5'.out (by unfold maxLen; omega) (keyS HDS.out) rfl rfl rfl rfl rfl ?_; intro w6 hmp6 hg6; clear tok3; have HMP6 := Lib.hid hmp6; have HGR6 := Lib.hid hg6; have HK6 := Lib.hid ((HK5.out.mono (fun q _ e => Or.inr e) : Kept (fun q => q = w0.heap.size ∨ vg.ownBlock = some q) wr w5).then (Kept.of_grown hg6) (fun q _ e => .inl (by simpa using e))); have HM6 := Lib.hid (HM3.out.kept HK6.out (fun e => e.elim hwu HVB.out)); have hcx6 := HK6.out.at hcx (fun e => e.elim hxu HVX.out); clear hmp6 hg6)
                | (at_lookup; have _t := tok2; refine wpList_look Tryd.mapSI HM6.out (keyS HNS.out) (v := .int .i64 j) rfl rfl rfl rfl (by rw [cnB_at HND.out HY.out]; rfl) ?_; clear tok2)
                | (at_mapUpdate; have _t := tok4; refine wpList_store Tryd.mapSI (val := .int .i64 ((j : Int) + 1)) HM6.out (by unfold maxLen; omega) (keyS HNS.out) rfl rfl rfl rfl rfl ?_; intro w7 hmp7 hg7; clear tok4; have HMP7 := Lib.hid hmp7; have HGR7 := Lib.hid hg7; clear hmp7 hg7))
              have HK7 := Lib.hid ((HK6.out.mono (fun q _ e => Or.inr e) : Kept (fun q => q = w.heap.size ∨ q = w0.heap.size ∨ vg.ownBlock = some q) wr w6).then (Kept.of_grown HGR7.out) (fun q _ e => .inl (by simpa using e)))
              have HLO := HG3.out.low d
              rw [HVG.out] at HLO
              go_roundw
              case rel =>
                have hG6 := HG3.out.app (by omega) (d := d) (nm := y.name) (by rw [← HUD.out]; exact HOW5.out) (by rw [HVG.out]; exact HGR5.out) (by rw [HVG.out]; exact HAT5.out) (by rw [← HUD.out]; exact HMP6.out) HGR6.out
                have hk67 := Kept.of_grown HGR7.out
                have hG7 := hG6.kept hk67 (by simp; omega) (fun x q hq => by
                  intro e
                  have := Mps.not_row HM6.out (hG6.row x)
                  simp only [Option.some.injEq] at e
                  exact this (by rw [hq, e]))
                rw [usB_step HN5.out HDD.out] at hG7
                refine ⟨j + 1, m3 + 1, m4 + 1, _, by go_num, by omega, ?_, by omega, hG7, by omega, ?_, ?_, ?_, ?_, ?_⟩
                · rw [← cnB_step HND.out HY.out]
                  exact HMP7.out
                · refine HB3.out.trans (HK7.out.below (by omega) fun q hq e => ?_)
                  rcases e with e | e | e
                  · omega
                  · omega
                  · have := HLO q e
                    omega
                · refine HO3.out.kept HK7.out fun q hq e => ?_
                  rcases e with e | e | e
                  · exact Mps.not_row HM3.out HO3.out (by rw [hq, e])
                  · exact Mps.not_row HG3.out.map HO3.out (by rw [hq, e])
                  · exact HAP.out d q (by rw [HVG.out]; exact e) hq
                · intro x q hq e
                  by_cases hx : x = d
                  · subst hx
                    simp only [atK, upd_same, Option.getD_some, Value.ownBlock, Option.some.injEq] at hq
                    subst hq
                    rcases HAT5.out with h1 | h1
                    · exact HAP.out x _ (by rw [HVG.out]; exact h1) e
                    · have h2 := HO3.out.block_lt e
                      simp at h1
                      omega
                  · exact HAP.out x q (by simpa [atK, upd_other _ _ hx] using hq) e
                · exact HK7.out.heap HBX.out (fun e => e.elim hxb (fun e => e.elim hxu HVX.out))
                · have := HK7.out.size
                  omega
              case measure => simp [intOf]; omega
            · have hjn : j = l5.length := by omega
              have HM3 := Lib.hid hmw3
              have HG3 := Lib.hid hg3
              have HB3 := Lib.hid hb3
              clear hmw3 hg3 hb3 ho3 hap3 hbx3
              subst hjn
              have hdl : l5.length = (dd y.deps).length := length_dd_eq HN5.out HM5.out
              have HDL := Lib.hid hdl
              clear hdl
              go_wp2_with fail
              go_roundw
              case rel =>
                refine ⟨k + 1, m3, m4, G3, by go_num, by omega, ?_, by omega, ?_, by omega, HB3.out, hsz3⟩
                · rw [← cnB_last HND.out HY.out HDL.out]
                  exact HM3.out
                · rw [← usB_last HY.out HM5.out]
                  exact HG3.out
              case measure => simp [intOf]; omega
        · have hkn : n = k := by omega
          subst hkn
          rw [← HN.out, cnA_all HND.out] at hmw
          rw [List.take_of_length_le (by rw [HN.out]; exact Nat.le_refl _)] at hg
          have HMW1 := Lib.hid hmw
          have HG := Lib.hid hg
          have HB1 := Lib.hid hb
          clear hmw hg hb HMW HB
          obtain ⟨w2, rfl⟩ : ∃ w2 : World, w2 = wr := ⟨wr, rfl⟩
          go_wp2_with (at_range; refine wpList_rng Tryd.mapSI (by exact (HMW1.out.alloc _).alloc _) rfl rfl rfl ?_; intro w5 cn hrg hgr5 hs5)
          go_frame
          have hri : ((w2.alloc (.cells #[] 9)).alloc (.cells #[.slice (some ⟨w2.heap.size, 0, none⟩) 0 0] 53)).heap.size = w2.heap.size + 2 := by simp
          rw [hri] at hrg hs5 ⊢
          have hwb : w.heap.size < w2.heap.size := HMW1.out.lt
          go_loopw [82] (fun _ wr => ∃ (left : BA → Bool) (cn : Nat) (v : Value) (h : List BA), RngSt S w w2 wr w.heap.size w0.heap.size m m2 G left cn v h ∧ HIn S left h) (fun _ wr => wr.rangeLeft w.heap.size (w2.heap.size + 2))
          case atStart => exact ⟨_, _, _, _, RngSt.start hwb HG.out HB1.out hrg hgr5 hs5, HIn.start _ _⟩
          case round =>
            obtain ⟨left, cn1, v, h, hst, hin⟩ := hrel
            have HST := Lib.hid hst
            have HIN := Lib.hid hin
            clear hst hin
            have hmk : ∀ (q : Nat) (W : World), (Instr.makeInterface 52 (.pointer (some ⟨q, 0, none⟩))).run Tryd.prog W = .ok (.iface 52 (.pointer (some ⟨q, 0, none⟩))) W := fun q W => by kernel_rfl
            go_wp2_with (at_next; refine wpList_nxt Tryd.mapSI HST.out.rg rfl rfl rfl ?_ ?_)
            · intro hc0 hl0
              have HL0 := Lib.hid hl0
              clear hl0
              have hOld : Old S w2 w.heap.size w0.heap.size m2 G := ⟨HG.out, hwb, by omega⟩
              have HO := Lib.hid hOld
              have HSM := Lib.hid (HST.out.main)
              have HRD := Lib.hid (HIN.out.last HL0.out)
              have hn2 : n * 1000 ≤ 1000 * 1000 := Nat.mul_le_mul_right _ (by omega)
              clear hOld
              go_wp2_with fail
              obtain ⟨w8, rfl⟩ : ∃ w8 : World, w8 = wr := ⟨wr, rfl⟩
              go_loopw [18] (fun vl wr => ∃ (l : List BA) (v : Value) (h : List BA) (m' : Nat), MainSt S w w2 wr w.heap.size w0.heap.size m' m2 G (cnt l) vl l v h ∧ Greedy ltB S l ∧ Rd0 S l h ∧ m' ≤ m + l.length * 1001 ∧ (l = [] → vl = .slice none 0 0))
                (fun vl _ => n - lenOf vl)
              case atStart => exact ⟨[], v, h, m, HSM.out, Greedy.nil, HRD.out, by omega, fun _ => rfl⟩
              case round =>
                obtain ⟨l, v1, h1, m1, hs1, hgr1, hrd1, hm1, hnil1⟩ := hrel
                obtain ⟨al, cl, hvl, hvlb⟩ := hs1.lst.shape'
                subst hvl
                obtain ⟨ah, ch, hvh, hvhb⟩ := hs1.rs.own.shape'
                subst hvh
                have hcx := cell_of_one hs1.rs.ptr
                have HS1 := Lib.hid hs1
                have HGR := Lib.hid hgr1
                have HRD1 := Lib.hid hrd1
                have HNIL := Lib.hid hnil1
                have hle1 := hgr1.le
                have hhle := hrd1.le
                rw [HN.out] at hle1 hhle
                clear hs1 hgr1 hrd1 hnil1 hvlb hvhb
                by_cases hh0 : h1 = []
                · subst hh0
                  have hstk : Stuck S l := fun x hx hr => by
                    have := (HRD1.out.2 x.name).2 ⟨x, hx, rfl, hr⟩
                    simp at this
                  have HSTK := Lib.hid hstk
                  clear hstk
                  by_cases hlen : l.length < n
                  · have HP := Lib.hid (LinRes.dep HND.out l HGR.out HSTK.out (by rw [HN.out]; exact hlen))
                    go_wp2_with (go_at_call 22; refine (rLen_any _ _ _ _).mono ?_; rintro e w' ⟨rfl, rfl⟩)
                    go_ret2
                    exact ⟨_, [], 11, HP.out, rfl, World.ownsRow_nil _ _ _ _, fun _ => rfl, by simp [Value.ownBlock], HS1.out.below⟩
                  · have HP := Lib.hid (LinRes.ok HND.out l HGR.out (by rw [HN.out]; omega))
                    go_wp2_with (go_at_call 22; refine (rLen_any _ _ _ _).mono ?_; rintro e w' ⟨rfl, rfl⟩)
                    go_ret2
                    exact ⟨_, l, 0, HP.out, rfl, HS1.out.lst, HNIL.out, fun q hq => by have := HS1.out.llo q hq; omega, HS1.out.below⟩
                · have hpos : 0 < h1.length := List.length_pos_iff.2 hh0
                  have HH0 := Lib.hid hh0
                  clear hh0
                  go_wp2_with (go_at_call 22; refine (rLen_any _ _ _ _).mono ?_; rintro e w' ⟨rfl, rfl⟩)
                  refine (heapPop_any (w2.heap.size + 1) _ h1 wr HS1.out.rs HS1.out.ish (by omega) hpos).mono ?_
                  rintro e w9 ⟨s, v9, h9, rfl, hr9, hp9, hi9, hmin9, hk9, hv9⟩
                  have HS9 := Lib.hid (HS1.out.heap_step HO.out hk9 hr9 hi9 (fun k hk => .inl (hv9 ▸ hk)))
                  obtain ⟨xs, hxs, hxn, hxr⟩ := (HRD1.out.2 s).1 (hp9.mem_iff.2 (by simp))
                  have hsl : s ∉ l := hxn ▸ hxr.1
                  have hss : s.size ≤ maxLen := hxn ▸ HSZ.out xs hxs
                  have hgs : Greedy ltB S (l ++ [s]) := HGR.out.snoc ⟨xs, hxs, hxn, hxr⟩ (fun y hy hr => hmin9 _ ((HRD1.out.2 _).2 ⟨y, hy, rfl, hr⟩))
                  have HGS := Lib.hid hgs
                  have HSL := Lib.hid hsl
                  have HSS := Lib.hid hss
                  have HR9 := Lib.hid (HRD1.out.pop hp9)
                  have hlen9 : l.length + 1 ≤ n := by have := hgs.le; rw [HN.out] at this; simpa using this
                  obtain ⟨ag, cg, hvg, _⟩ := (HG.out.row s).shape'
                  have HVG := Lib.hid hvg
                  obtain ⟨us, hus⟩ : ∃ us, us = users S s := ⟨_, rfl⟩
                  rw [← hus] at hvg
                  have HVG := Lib.hid hvg
                  have hul : us.length ≤ n := by rw [hus, ← HN.out]; exact users_length_le S s
                  have HUS := Lib.hid hus
                  have hta := assertS s
                  clear hr9 hp9 hi9 hmin9 hk9 hv9 hxs hxn hxr hsl hss hgs hvg hus
                  go_wp2_with (first
                    | (at_builtin; refine wpList_append_any Tryd.elS (by exact World.ownsRow.alloc HS9.out.lst _) (news := [.string s]) (by exact cell_one_new _ _ _) (strs_oneCell [_]) rfl (by decide) (by unfold maxLen; omega) (by omega) rfl rfl rfl rfl ?_; intro g cap w5 hown5 hgrow5 hat5 hlt5; have HS5 := Lib.hid (HS9.out.tell HO.out hown5 hgrow5 hat5); clear hown5 hgrow5 hat5 hlt5)
                    | (at_lookup; refine wpList_look Tryd.mapSS HS5.out.grp.map (keyS HSS.out) rfl rfl rfl rfl HVG.out ?_))
                  obtain ⟨w10, rfl⟩ : ∃ w10 : World, w10 = wr := ⟨wr, rfl⟩
                  go_loopw [111] (fun i wr => ∃ (j : Nat) (v : Value) (h : List BA) (m' : Nat), i = .int .i64 j ∧ j ≤ us.length ∧ MainSt S w w2 wr w.heap.size w0.heap.size m' m2 G (cM S l s j) (.slice (some ⟨g, 0, none⟩) (l.length + 1) cap) (l ++ [s]) v h ∧ Rd S l s j h ∧ m' ≤ m + l.length * 1001 + j)
                    (fun i _ => us.length - (intOf i).toNat)
                  case atStart =>
                    have := HS5.out
                    refine ⟨0, v9, h9, m1, rfl, Nat.zero_le _, ?_, HR9.out, hm1⟩
                    exact { this with wt := by rw [← cM_zero HND.out]; exact this.wt }
                  case round =>
                    obtain ⟨j, v11, h11, m11, rfl, hj, hs11, hrd11, hm11⟩ := hrel
                    have HS11 := Lib.hid hs11
                    have HR11 := Lib.hid hrd11
                    clear hs11 hrd11
                    by_cases hjl : j < us.length
                    · obtain ⟨u, hu⟩ := get_of_lt hjl
                      have hu' : (users S s)[j]? = some u := by rw [← HUS.out]; exact hu
                      obtain ⟨y, hyS, hyu, hyd⟩ := user_at hu'
                      subst hyu
                      obtain ⟨bg, offg, hag, hcu⟩ := (show OS wr (.slice ag us.length cg) us by have := HS11.out.grp.row s; rw [HVG.out, ← HUS.out] at this; exact this).rd j hjl
                      subst hag
                      rw [(List.getElem?_eq_some_iff.1 hu).2] at hcu
                      have hsy : y.name.size ≤ maxLen := HSZ.out y hyS
                      have HSY := Lib.hid hsy
                      have HU := Lib.hid hu'
                      have HYD := Lib.hid hyd
                      obtain ⟨cc, hcc⟩ : ∃ cc, cc = cnt (l ++ [s]) y := ⟨_, rfl⟩
                      have HLK := Lib.hid (cM_at HND.out hyS hyd hu' HSL.out)
                      have HST1 := Lib.hid (cM_step HND.out (l := l) hyS hu')
                      rw [← hcc] at HLK HST1
                      have hccb : cc ≤ 1000 := by
                        have h1 := HD.out y hyS
                        have h2 := length_dd_le y.deps
                        have h3 : cc ≤ (dd y.deps).length := by rw [hcc]; exact List.length_filter_le _ _
                        omega
                      have HCC := Lib.hid hcc
                      have hh11 := HR11.out.le
                      rw [HN.out] at hh11
                      have hl2 : l.length * 1001 ≤ 1000 * 1001 := Nat.mul_le_mul_right _ (by omega)
                      have tok1 : True := trivial
                      clear hu hu' hyd hsy hcc
                      by_cases hc0 : cc = 0
                      · have hcb : ((cc : Int) == 0) = true := by simp [hc0]
                        have HC0 := Lib.hid hc0
                        clear hc0
                        go_wp2_with (first
                          | (at_lookup; have _t := tok1; refine wpList_look Tryd.mapSI HS11.out.wt (keyS HSY.out) (v := .int .i64 ((cc : Int) + 1)) rfl rfl rfl rfl (by rw [HLK.out]; rfl) ?_; clear tok1)
                          | (at_mapUpdate; refine wpList_store Tryd.mapSI (val := .int .i64 (cc : Int)) HS11.out.wt (by unfold maxLen; omega) (keyS HSY.out) rfl rfl rfl rfl rfl ?_; intro w12 hmp12 hg12; have HM12 := Lib.hid hmp12; have HS12 := Lib.hid (HS11.out.count HO.out (by have := hmp12; rw [HST1.out] at this; exact this) hg12); clear hmp12 hg12)
                          | (at_lookup; refine wpList_look Tryd.mapSI HM12.out (keyS HSY.out) (v := .int .i64 (cc : Int)) rfl rfl rfl rfl (by rw [upd_same]; rfl) ?_))
                        refine (heapPush_any (w2.heap.size + 1) v11 h11 y.name w12 HS12.out.rs HS12.out.ish (by omega)).mono ?_
                        rintro e w13 ⟨rfl, hp13⟩
                        obtain ⟨v13, h13, hs13, hpm13⟩ := HS12.out.push HO.out hp13
                        have HS13 := Lib.hid hs13
                        have HR13 := Lib.hid (Rd.push HND.out HGS.out HR11.out hyS HU.out (by rw [← HCC.out]; exact HC0.out) hpm13)
                        clear hp13 hs13 hpm13
                        go_wp2_with fail
                        go_roundw
                        case rel => exact ⟨j + 1, v13, h13, m11 + 1, by go_num, by omega, HS13.out, HR13.out, by omega⟩
                        case measure => simp [intOf]; omega
                      · have hcb : ((cc : Int) == 0) = false := by simp [hc0]
                        have HC0 := Lib.hid hc0
                        clear hc0
                        go_wp2_with (first
                          | (at_lookup; have _t := tok1; refine wpList_look Tryd.mapSI HS11.out.wt (keyS HSY.out) (v := .int .i64 ((cc : Int) + 1)) rfl rfl rfl rfl (by rw [HLK.out]; rfl) ?_; clear tok1)
                          | (at_mapUpdate; refine wpList_store Tryd.mapSI (val := .int .i64 (cc : Int)) HS11.out.wt (by unfold maxLen; omega) (keyS HSY.out) rfl rfl rfl rfl rfl ?_; intro w12 hmp12 hg12; have HM12 := Lib.hid hmp12; have HS12 := Lib.hid (HS11.out.count HO.out (by have := hmp12; rw [HST1.out] at this; exact this) hg12); clear hmp12 hg12)
                          | (at_lookup; refine wpList_look Tryd.mapSI HM12.out (keyS HSY.out) (v := .int .i64 (cc : Int)) rfl rfl rfl rfl (by rw [upd_same]; rfl) ?_))
                        go_roundw
                        case rel => exact ⟨j + 1, v11, h11, m11 + 1, by go_num, by omega, HS12.out, HR11.out.skip HND.out hyS HU.out (by rw [← HCC.out]; exact HC0.out), by omega⟩
                        case measure => simp [intOf]; omega
                    · have hjn : j = us.length := by omega
                      subst hjn
                      have HRE := Lib.hid (show Rd0 S (l ++ [s]) h11 by have := HR11.out; rw [HUS.out] at this; exact this.last)
                      have HSE := Lib.hid (show MainSt S w w2 wr w.heap.size w0.heap.size m11 m2 G (cnt (l ++ [s])) (.slice (some ⟨g, 0, none⟩) (l.length + 1) cap) (l ++ [s]) v11 h11 from by
                        have := HS11.out
                        exact { this with wt := by have h := this.wt; rw [HUS.out, cM_last HND.out] at h; exact h })
                      go_wp2_with fail
                      go_roundw
                      case rel => exact ⟨l ++ [s], v11, h11, m11, HSE.out, HGS.out, HRE.out, by simp; omega, by simp⟩
                      case measure => simp [lenOf]; omega
            · intro x vx w6 cn6 hl6 hF6 hrg6 hlt6 hg6 hs6 hen6
              obtain ⟨y, hyS, hyx, hyv⟩ := WF_some hF6
              subst hyx hyv
              have HRG6 := Lib.hid hrg6
              have HS6 := Lib.hid (HST.out.step HG.out hwb hrg6 hg6)
              have HL6 := Lib.hid hl6
              clear hrg6 hg6 hl6 hF6 hs6
              by_cases hc : cnt [] y = 0
              · have hc' : (((cnt [] y : Nat) : Int) == 0) = true := by simp [hc]
                have HC := Lib.hid hc
                clear hc
                go_wp2_with fail
                refine (heapPush_any (w2.heap.size + 1) v h y.name w6 HS6.out.rs HS6.out.ish (by have := HIN.out.le; rw [HN.out] at this; omega)).mono ?_
                rintro e w7 ⟨rfl, hp7⟩
                obtain ⟨v', h', hst', hp'⟩ := HS6.out.push HG.out hwb hp7
                have HST' := Lib.hid hst'
                have HP' := Lib.hid hp'
                have hlc : w7.rangeLeft w.heap.size (w2.heap.size + 2) < wr.rangeLeft w.heap.size (w2.heap.size + 2) := by rw [hst'.rg.left_eq, HST.out.rg.left_eq]; exact hlt6
                clear hp7 hst' hp'
                go_wp2_with fail
                go_roundw
                case rel => exact ⟨_, _, v', h', HST'.out, HIN.out.push hyS HC.out HL6.out HP'.out⟩
                case measure => exact hlc
              · have hc' : (((cnt [] y : Nat) : Int) == 0) = false := by simp [hc]
                have hlc : w6.rangeLeft w.heap.size (w2.heap.size + 2) < wr.rangeLeft w.heap.size (w2.heap.size + 2) := by rw [HS6.out.rg.left_eq, HST.out.rg.left_eq]; exact hlt6
                have HC := Lib.hid hc
                clear hc
                go_wp2_with fail
                go_roundw
                case rel => exact ⟨_, _, v, h, HS6.out, HIN.out.skip HND.out hyS HC.out⟩
                case measure => exact hlc
end Go.Proofs.YteamkpmkchmhnaaDoor
