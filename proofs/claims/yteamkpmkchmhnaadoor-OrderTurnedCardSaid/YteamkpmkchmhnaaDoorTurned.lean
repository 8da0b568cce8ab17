/- tambourlaw06.OrderTurned: it answers true. -/
import Derived.Test.YteamkpmkchmhnaaDoorSv
import Derived.Test.YteamkpmkchmhnaaDoorRowN
import Derived.Test.YteamkpmkchmhnaaDoorTurnThy
import Derived.Test.YteamkpmkchmhnaaDoorCode
namespace Go.Proofs.YteamkpmkchmhnaaDoor
open Go.RowKit Go.Maps Go.WideMaps

theorem EType.later {w w' : World} (h : EType w) (hb : Below w.heap.size w w') : EType w' := Below.keep hb h

set_option maxRecDepth 100000 in
set_option maxHeartbeats 4000000 in
theorem turned_any (a : Option Addr) (n c : Nat) (S : List (Nd BA)) (x : Int) (nm : BA) (w : World) (hg : EType w) (hn : S.length = n) (hm : n ≤ 9000000000000) (h : RdN w a S) (hnm : nm.size ≤ maxLen) :
    Calls Tryd.prog 3 #[.slice a n c, .int .i64 x, .string nm] w (TruePost w) := by
  have HN := Lib.hid hn
  have HA := Lib.hid h
  have HG := Lib.hid hg
  have HNM := Lib.hid hnm
  clear hn h hg hnm
  go_enter Tryd.func3, Tryd.ntmps3
  go_wp2_with fail
  refine (awake_any _).mono ?_
  rintro e w1 ⟨rfl, hb⟩
  have HB1 := Lib.hid hb
  clear hb
  by_cases hz : n = 0
  · subst hz
    go_wp2_with fail
    go_ret
    exact ⟨rfl, HB1.out⟩
  · have h0 : 0 < n := by omega
    have hn00 : ((n : Int) == 0) = false := by simp; omega
    clear hz
    by_cases h60 : 60 < n
    · go_wp2_with fail
      refine (small_no a n c S w1 HN.out hm (HA.out.below HB1.out) h60).mono ?_
      rintro e w2 ⟨rfl, hb⟩
      have HB2 := Lib.hid hb
      clear hb h60
      go_wp2_with fail
      go_ret
      exact ⟨rfl, bMore HB1.out HB2.out (Nat.le_refl _)⟩
    · have h60' : n ≤ 60 := by omega
      clear h60
      go_wp2_with fail
      refine (small_yes a n c S w1 HN.out (HA.out.below HB1.out) h60').mono ?_
      rintro e w2 ⟨rfl, hb⟩
      have HB2 := Lib.hid (bMore HB1.out hb (Nat.le_refl _))
      clear hb
      by_cases hsm : depSum S ≤ 400
      · have HD := Lib.hid (deps_1000 hsm)
        rw [decide_eq_true hsm]
        clear hsm
        obtain ⟨k, hk, hqe⟩ := turn_lt x n h0
        have hqe : (wrap64 (x.tmod ↑n + ↑n)).tmod ↑n = (k : Int) := by
          have h1 : (x.tmod n).natAbs < n := by
            rw [Int.natAbs_tmod]
            exact Nat.mod_lt _ (by simpa using h0)
          rw [IntWalk.wrap64_in _ (by omega), hqe]
        go_wp2_with fail
        have HQE := Lib.hid hqe
        clear hqe
        go_loopw [8, 9] (fun v i wr => ∃ (vv : Value) (m : Nat) (z : Int) (E : List NX), vv = v ∧ i = .int .i64 z ∧ Hid (z = (n : Int) - 1 - m) ∧ m ≤ n ∧ wr.ownsRow 0 30 4 v E.length (E.flatMap NX.cells) ∧ (∀ e ∈ E, e.ok w2) ∧ E.map NX.x = (turned S k).take m ∧ Below w2.heap.size w2 wr ∧ (∀ q, v.ownBlock = some q → w2.heap.size ≤ q)) (fun _ i _ => (intOf i + 1).toNat)
        case atStart => exact ⟨_, 0, _, [], rfl, rfl, by show _ = _; omega, Nat.zero_le _, World.ownsRow_nil _ _ _ _, by simp, by simp, Below.refl _ _, by simp [Value.ownBlock]⟩
        case round =>
          obtain ⟨vv, m, z, E, rfl, rfl, hz, hmn, ho, hok, hE, hb, hlo⟩ := hrel
          have HZ := Lib.hid hz.out
          have hEl : E.length = m := by
            have := congrArg List.length hE
            rw [List.length_map, List.length_take, turned_len, HN.out] at this
            omega
          clear hz
          by_cases hlt : m < n
          · obtain ⟨j, rfl⟩ : ∃ j : Nat, z = j := ⟨n - 1 - m, by have := HZ.out; omega⟩
            have hj : j = n - 1 - m := by have := HZ.out; omega
            obtain ⟨r, hr⟩ : ∃ r, r = (j + k) % n := ⟨_, rfl⟩
            have hrn : r < n := by rw [hr]; exact Nat.mod_lt _ h0
            have hmod : Int.tmod ((j : Int) + k) n = r := by rw [hr]; rfl
            obtain ⟨y, hy⟩ := get_of_lt (l := S) (k := r) (by rw [HN.out]; exact hrn)
            have HT := Lib.hid (show (turned S k)[m]? = some y by
              have := turned_at (S := S) (k := k) (i := j) (by rw [HN.out]; exact hk) (by rw [HN.out]; omega)
              rw [HN.out, ← hr, hy, show n - 1 - j = m by omega] at this
              exact this)
            obtain ⟨b, off, note, da, dc, oa, ol, oc, rfl, _, hns, c0, c1, c2, c3, _, _, hdv⟩ := (HA.out.below HB2.out).nth hb hy
            have HO := Lib.hid ho
            have HOK := Lib.hid hok
            have HE := Lib.hid hE
            have HB := Lib.hid hb
            have HLO := Lib.hid hlo
            have HDV := Lib.hid hdv
            have HNS := Lib.hid hns
            have HJ := Lib.hid hj
            have HEL := Lib.hid hEl
            have hj60 : j < 60 := by omega
            clear ho hok hE hb hlo hdv hns hy hr hj hEl
            go_wp2_with (at_builtin; go_loud (refine wpList_append_any Tryd.elN (by exact World.ownsRow.alloc HO.out _) (news := [.string y.name, .string note, .slice da y.deps.length dc, .slice oa ol oc]) (by exact World.news_of_block (cs := #[.string y.name, .string note, .slice da y.deps.length dc, .slice oa ol oc]) (t := 30) (fr := (0, 0)) (by have := heap_alloc_new wr (.cells #[.string y.name, .string note, .slice da y.deps.length dc, .slice oa ol oc] 30); simpa using this)) (by simp [Value.oneCell']) rfl (by decide) (by have := HEL.out; unfold maxLen; omega) (by have := HEL.out; omega) rfl rfl rfl rfl ?_; intro g cap w6 hown6 hgrow6 hat6 hlt6; have HOW6 := Lib.hid hown6; have HGR6 := Lib.hid hgrow6; have HAT6 := Lib.hid hat6; clear hown6 hgrow6 hat6 hlt6))
            have hk6 : Kept (fun q => vv.ownBlock = some q) wr w6 := (((Kept.refl _ wr).alloc _).then (Kept.of_grown HGR6.out) (fun _ _ e => e.symm))
            refine ⟨⟨_, m + 1, _, E ++ [⟨y, note, da, dc, oa, ol, oc⟩], rfl, rfl, ?_, by omega, ?_, fun e he => ?_, ?_, HB.out.trans (hk6.below HB.out.size (fun q hq e => by have := HLO.out q e; omega)), fun q hq => ?_⟩, ?_⟩
            · have := HZ.out
              show _ = _
              omega
            · have := HOW6.out
              simpa [NX.cells] using this
            · rcases List.mem_append.1 he with he | he
              · exact HOK.out e he
              · simp only [List.mem_singleton] at he
                subst he
                exact ⟨HNS.out, HDV.out⟩
            · obtain ⟨q1, q2⟩ := List.getElem?_eq_some_iff.1 HT.out
              rw [List.map_append, HE.out, List.take_succ_eq_append_getElem q1, q2]
              rfl
            · simp only [Value.ownBlock, Option.some.injEq] at hq
              subst hq
              rcases HAT6.out with h1 | h1
              · exact HLO.out _ h1
              · have := HB.out.size
                simp at h1
                omega
            · simp [intOf]
          · have hmn' : n = m := by omega
            subst hmn'
            have hz1 : z = -1 := by have := HZ.out; omega
            subst hz1
            rw [List.take_of_length_le (by rw [turned_len, HN.out]; exact Nat.le_refl _)] at hE
            have hon : ON wr vv E := ⟨ho, fun e he => ⟨(hok e he).1, (hok e he).2.below hb⟩⟩
            obtain ⟨a', c', hv, hrd⟩ := hon.rd
            rw [hE] at hrd
            rw [hEl] at hv
            subst hv
            have HRD := Lib.hid hrd
            have HB3 := Lib.hid (bMore HB2.out hb (Nat.le_refl _))
            have HTN := Lib.hid (show (turned S k).length = n by rw [turned_len, HN.out])
            have HTD := Lib.hid (show ∀ x ∈ turned S k, x.deps.length ≤ 1000 from fun x hx => HD.out x ((turned_perm S k).mem_iff.1 hx))
            clear ho hok hE hb hlo hon hrd hEl
            go_wp2_with fail
            refine (linear_any a n c S wr HN.out (by omega) HD.out (HA.out.below HB3.out)).mono ?_
            rintro e w4 ⟨v4, l4, cc, hres4, rfl, ho4, hx1, hx2, hb4⟩
            clear hx1 hx2
            obtain ⟨a4, n4, c4, sv4⟩ := ho4.sv
            obtain rfl := sv4.val
            have HR4 := Lib.hid hres4
            have HS4 := Lib.hid sv4
            have HB4 := Lib.hid hb4
            obtain ⟨ev, hev⟩ : ∃ ev, ev = errV cc := ⟨_, rfl⟩
            rw [← hev]
            have HEV := Lib.hid hev
            clear hres4 ho4 hb4 sv4 hev
            go_wp2_with fail
            refine (linear_any a' n c' (turned S k) w4 HTN.out (by omega) HTD.out (HRD.out.below HB4.out)).mono ?_
            rintro e w5 ⟨v5, l5, cc5, hres5, rfl, ho5, hx1, hx2, hb5⟩
            clear hx1 hx2
            obtain ⟨rfl, rfl⟩ := LinRes.unique ltB_LO (HR4.out.perm (turned_perm S k).symm) hres5
            obtain ⟨a5, n5, c5, sv5⟩ := ho5.sv
            obtain rfl := sv5.val
            have HL4 := Lib.hid (show l4.length ≤ 1000000000 from by
              have : l4.length ≤ S.length := by
                cases HR4.out with
                | twice _ => simp
                | dep _ _ _ _ _ => simp
                | ok _ _ hg _ => exact hg.le
              have := HN.out
              omega)
            have HS5 := Lib.hid sv5
            have HB5 := Lib.hid hb5
            rw [← HEV.out]
            clear hres5 ho5 hb5 sv5
            go_wp2_with fail
            refine (same_any a4 c4 n4 l4 a5 c5 n5 l4 w5 HS4.out.len (by have := HL4.out; have := HS4.out.len; omega) (HS4.out.later HB5.out).rd HS5.out.len (by have := HL4.out; have := HS5.out.len; omega) HS5.out.rd).mono ?_
            rintro e w6 ⟨⟨r, rfl, hr⟩, hk⟩
            obtain rfl : r = true := hr.2 rfl
            have HB6 := Lib.hid (show Below wr.heap.size wr w6 from (bMore HB4.out HB5.out (Nat.le_refl _)).trans (hk.below (by have := HB4.out.size; have := HB5.out.size; omega) (fun _ _ h => h)))
            clear hr hk
            have hg6 : EType w6 := HG.out.later (bMore HB3.out HB6.out (Nat.le_refl _))
            have HG6 := Lib.hid hg6
            clear hg6
            go_wp2_with fail
            rw [HEV.out]
            refine (code_any cc w6 HG6.out).mono ?_
            rintro e w7 ⟨rfl, hb⟩
            have HB7 := Lib.hid hb
            clear hb
            rw [← HEV.out]
            go_wp2_with fail
            rw [HEV.out]
            refine (code_any cc w7 (HG6.out.later HB7.out)).mono ?_
            rintro e w8 ⟨rfl, hb⟩
            have HB8 := Lib.hid (bMore HB6.out (bMore HB7.out hb (Nat.le_refl _)) (Nat.le_refl _))
            clear hb
            go_wp2_with fail
            refine (past_any a n c S nm w8 HN.out (by omega) HD.out ((HA.out.below HB3.out).below HB8.out) HNM.out).mono ?_
            rintro e w9 ⟨v9, l9, rfl, ho9, hs9, hn9, hm9, hx1, hx2, hb9⟩
            clear hx1 hx2
            obtain ⟨a9, n9, c9, sv9⟩ := ho9.sv
            obtain rfl := sv9.val
            have HS9 := Lib.hid sv9
            have HB9 := Lib.hid (bMore HB8.out hb9 (Nat.le_refl _))
            have HP9 := Lib.hid (And.intro hs9 (And.intro hn9 hm9))
            clear ho9 hs9 hn9 hm9 hb9 sv9
            go_wp2_with fail
            refine (past_any a' n c' (turned S k) nm w9 HTN.out (by omega) HTD.out (HRD.out.below HB9.out) HNM.out).mono ?_
            rintro e u1 ⟨v1, l1, rfl, ho1, hs1, hn1, hm1, hx1, hx2, hb1⟩
            clear hx1 hx2
            obtain ⟨a1, n1, c1, sv1⟩ := ho1.sv
            obtain rfl := sv1.val
            obtain rfl : l9 = l1 := srt_unique HP9.out.1 hs1 HP9.out.2.1 hn1 (fun s => by rw [HP9.out.2.2, hm1]; exact ⟨fun h => h.perm (turned_perm S k).symm, fun h => h.perm (turned_perm S k)⟩)
            have hl9 : l9.length ≤ 60 := by
              have := List.Nodup.length_le_of_subset (l₁ := l9) (l₂ := names S) hn1 (fun s hs => ((HP9.out.2.2 s).1 hs).name)
              simp [names] at this
              have := HN.out
              omega
            have hn9 : n9 ≤ 60 := by have := HS9.out.len; omega
            have hn1' : n1 ≤ 60 := by have := sv1.len; omega
            have HS1 := Lib.hid sv1
            have HB91 := Lib.hid hb1
            have HB10 := Lib.hid (bMore HB9.out hb1 (Nat.le_refl _))
            clear ho1 hs1 hn1 hm1 hb1 sv1
            go_wp2_with fail
            refine (same_any a9 c9 n9 l9 a1 c1 n1 l9 u1 HS9.out.len (by omega) (HS9.out.later HB91.out).rd HS1.out.len (by omega) HS1.out.rd).mono ?_
            rintro e u2 ⟨⟨r, rfl, hr⟩, hk⟩
            obtain rfl : r = true := hr.2 rfl
            have HB11 := Lib.hid (show Below wr.heap.size wr u2 from HB10.out.trans (hk.below (HB10.out.size) (fun _ _ h => h)))
            clear hr hk
            go_wp2_with fail
            refine (heads_any a n c S u2 HN.out (by omega) HD.out ((HA.out.below HB3.out).below HB11.out)).mono ?_
            rintro e u3 ⟨v3, l3, rfl, ho3, hs3, hn3, hm3, hx1, hx2, hb3⟩
            clear hx1 hx2
            obtain ⟨a3, n3, c3, sv3⟩ := ho3.sv
            obtain rfl := sv3.val
            have HS3 := Lib.hid sv3
            have HB12 := Lib.hid (bMore HB11.out hb3 (Nat.le_refl _))
            have HP3 := Lib.hid (And.intro hs3 (And.intro hn3 hm3))
            clear ho3 hs3 hn3 hm3 hb3 sv3
            go_wp2_with fail
            refine (heads_any a' n c' (turned S k) u3 HTN.out (by omega) HTD.out (HRD.out.below HB12.out)).mono ?_
            rintro e u4 ⟨v2, l2, rfl, ho2, hs2, hn2, hm2, hx1, hx2, hb2⟩
            clear hx1 hx2
            obtain ⟨a2, n2, c2, sv2⟩ := ho2.sv
            obtain rfl := sv2.val
            obtain rfl : l3 = l2 := srt_unique HP3.out.1 hs2 HP3.out.2.1 hn2 (fun s => by rw [HP3.out.2.2, hm2]; exact heads_perm (turned_perm S k).symm s)
            have hl3 : l3.length ≤ 60 := by
              have := List.Nodup.length_le_of_subset (l₁ := l3) (l₂ := names S) hn2 (fun s hs => ((HP3.out.2.2 s).1 hs).1)
              simp [names] at this
              have := HN.out
              omega
            have hn3 : n3 ≤ 60 := by have := HS3.out.len; omega
            have hn2' : n2 ≤ 60 := by have := sv2.len; omega
            have HS2 := Lib.hid sv2
            have HB13 := Lib.hid hb2
            have HB14 := Lib.hid (bMore HB12.out hb2 (Nat.le_refl _))
            clear ho2 hs2 hn2 hm2 hb2 sv2
            go_wp2_with fail
            refine (same_any a3 c3 n3 l3 a2 c2 n2 l3 u4 HS3.out.len (by omega) (HS3.out.later HB13.out).rd HS2.out.len (by omega) HS2.out.rd).mono ?_
            rintro e u5 ⟨⟨r, rfl, hr⟩, hk⟩
            obtain rfl : r = true := hr.2 rfl
            have HB15 := Lib.hid (show Below wr.heap.size wr u5 from HB14.out.trans (hk.below (HB14.out.size) (fun _ _ h => h)))
            clear hr hk
            go_wp2_with fail
            go_ret
            exact ⟨rfl, bMore HB3.out HB15.out (Nat.le_refl _)⟩
      · rw [decide_eq_false hsm]
        clear hsm
        go_wp2_with fail
        go_ret
        exact ⟨rfl, HB2.out⟩
end Go.Proofs.YteamkpmkchmhnaaDoor
