/- tambourlaw06.OrderTells: it answers true. -/
import Derived.Test.YteamkpmkchmhnaaDoorMiss
import Derived.Test.YteamkpmkchmhnaaDoorRefE
import Derived.Test.YteamkpmkchmhnaaDoorTurnThy
import Derived.Test.YteamkpmkchmhnaaDoorCode
import Derived.Test.YteamkpmkchmhnaaDoorRowN
namespace Go.Proofs.YteamkpmkchmhnaaDoor
open Go.RowKit Go.Maps Go.WideMaps

theorem EType.later' {w w' : World} (h : EType w) (hb : Below w.heap.size w w') : EType w' := Below.keep hb h

theorem SV.le60 {w : World} {v : Value} {a : Option Addr} {n c : Nat} {l : List BA} (h : SV w v a n c l) {S : List (Nd BA)} {q : Nat} (hn : S.length = q) (hq : q ≤ 60) (hl : l.length ≤ S.length) : n ≤ 60 := by
  have := h.len
  omega

set_option maxRecDepth 100000 in
set_option maxHeartbeats 4000000 in
theorem tells_any (a : Option Addr) (n c : Nat) (S : List (Nd BA)) (nm : BA) (b : Option Addr) (m d : Nat) (ss : List BA) (w : World) (hg : EType w) (hn : S.length = n) (hm : n ≤ 9000000000000) (h : RdN w a S) (hnm : nm.size ≤ maxLen)
    (hsl : ss.length = m) (hml : m ≤ 9000000000000) (hs : RdS w b ss) :
    Calls Tryd.prog 4 #[.slice a n c, .string nm, .slice b m d] w (TruePost w) := by
  have HN := Lib.hid hn
  have HA := Lib.hid h
  have HG := Lib.hid hg
  have HNM := Lib.hid hnm
  have HSL := Lib.hid hsl
  have HS := Lib.hid hs
  clear hn h hg hnm hsl hs
  go_enter Tryd.func4, Tryd.ntmps4
  go_wp2_with fail
  refine (awake_any _).mono ?_
  rintro e w1 ⟨rfl, hb⟩
  have HB1 := Lib.hid hb
  clear hb
  by_cases h60 : 60 < n
  · go_wp2_with fail
    refine (small_no a n c S w1 HN.out hm (HA.out.below HB1.out) h60).mono ?_
    rintro e w2 ⟨rfl, hb⟩
    have HB2 := Lib.hid hb
    clear hb h60
    go_wp2_with fail
    go_ret
    exact ⟨rfl, bMore HB1.out HB2.out (Nat.le_refl _)⟩
  · have h60' : n ≤ 60 := by omega
    clear h60
    go_wp2_with fail
    refine (small_yes a n c S w1 HN.out (HA.out.below HB1.out) h60').mono ?_
    rintro e w2 ⟨rfl, hb⟩
    have HB2 := Lib.hid (bMore HB1.out hb (Nat.le_refl _))
    clear hb
    by_cases hsm : depSum S ≤ 400
    · have HD := Lib.hid (deps_1000 hsm)
      rw [decide_eq_true hsm]
      clear hsm
      by_cases h200 : 200 < m
      · go_wp2_with fail
        go_ret
        exact ⟨rfl, HB2.out⟩
      · have hm200 : m ≤ 200 := by omega
        clear h200
        go_wp2_with fail
        refine (linear_any a n c S w2 HN.out (by omega) HD.out (HA.out.below HB2.out)).mono ?_
        rintro e w4 ⟨v4, l4, cc, hres4, rfl, ho4, hx1, hx2, hb4⟩
        clear hx1 hx2
        obtain ⟨a4, n4, c4, sv4⟩ := ho4.sv
        obtain rfl := sv4.val
        have HR4 := Lib.hid hres4
        have HS4 := Lib.hid sv4
        have hn4 : n4 ≤ 60 := sv4.le60 HN.out h60' hres4.le
        have HB4 := Lib.hid (bMore HB2.out hb4 (Nat.le_refl _))
        obtain ⟨ev, hev⟩ : ∃ ev, ev = errV cc := ⟨_, rfl⟩
        rw [← hev]
        have HEV := Lib.hid hev
        clear hres4 ho4 hb4 sv4 hev
        go_wp2_with fail
        refine (rlinear_any a n c S w4 HN.out (by omega) HD.out (HA.out.below HB4.out)).mono ?_
        rintro e w5 ⟨v5, l5, a5, n5, c5, cc5, hres5, rfl, sv5, hb5⟩
        obtain ⟨rfl, rfl⟩ := LinRes.unique ltB_LO HR4.out hres5
        obtain rfl := sv5.val
        have HS5 := Lib.hid sv5
        have hn5 : n5 ≤ 60 := sv5.le60 HN.out h60' hres5.le
        have HS4 := Lib.hid (HS4.out.later hb5)
        have HB5 := Lib.hid (bMore HB4.out hb5 (Nat.le_refl _))
        clear hres5 hb5 sv5
        go_wp2_with fail
        refine (missing_any a n c S b m d ss w5 HN.out (by omega) HD.out (HA.out.below HB5.out) HSL.out (by omega) (HS.out.later HB5.out)).mono ?_
        rintro e w6 ⟨v6, l6, cc6, hres6, rfl, ho6, hx2, hb6⟩
        clear hx2
        obtain ⟨rfl, rfl⟩ := LinRes.unique ltB_LO HR4.out hres6
        obtain ⟨a6, n6, c6, sv6⟩ := ho6.sv
        obtain rfl := sv6.val
        have HS6 := Lib.hid sv6
        have hn6 : n6 ≤ 60 := sv6.le60 HN.out h60' (Nat.le_trans (List.length_filter_le _ _) hres6.le)
        have HS4 := Lib.hid (HS4.out.later hb6)
        have HS5 := Lib.hid (HS5.out.later hb6)
        have HB6 := Lib.hid (bMore HB5.out hb6 (Nat.le_refl _))
        rw [← HEV.out]
        clear hres6 hb6 sv6 ho6
        go_wp2_with fail
        refine (rmissing_any a b n c m d S ss w6 HN.out (by omega) HD.out (HA.out.below HB6.out) HSL.out (HS.out.later HB6.out) (by omega)).mono ?_
        rintro e w7 ⟨v7, l7, a7, n7, c7, cc7, hres7, rfl, sv7, hb7⟩
        obtain ⟨rfl, rfl⟩ := LinRes.unique ltB_LO HR4.out hres7
        obtain rfl := sv7.val
        have HS7 := Lib.hid sv7
        have hn7 : n7 ≤ 60 := sv7.le60 HN.out h60' (Nat.le_trans (List.length_filter_le _ _) hres7.le)
        have HS4 := Lib.hid (HS4.out.later hb7)
        have HS5 := Lib.hid (HS5.out.later hb7)
        have HS6 := Lib.hid (HS6.out.later hb7)
        have HB7 := Lib.hid (bMore HB6.out hb7 (Nat.le_refl _))
        clear hres7 hb7 sv7
        go_wp2_with fail
        refine (same_any a4 c4 n4 l4 a5 c5 n5 l4 w7 HS4.out.len (by omega) HS4.out.rd HS5.out.len (by omega) HS5.out.rd).mono ?_
        rintro e w8 ⟨⟨r, rfl, hr⟩, hk⟩
        obtain rfl : r = true := hr.2 rfl
        have HS6 := Lib.hid (HS6.out.kept hk (fun _ _ h => h))
        have HS7 := Lib.hid (HS7.out.kept hk (fun _ _ h => h))
        have HB8 := Lib.hid (show Below w.heap.size w w8 from HB7.out.trans (hk.below HB7.out.size (fun _ _ h => h)))
        clear hr hk
        go_wp2_with fail
        rw [HEV.out]
        refine (code_any cc w8 (HG.out.later' HB8.out)).mono ?_
        rintro e w9 ⟨rfl, hb⟩
        have HS6 := Lib.hid (HS6.out.later hb)
        have HS7 := Lib.hid (HS7.out.later hb)
        have HB9 := Lib.hid (bMore HB8.out hb (Nat.le_refl _))
        clear hb
        rw [← HEV.out]
        go_wp2_with fail
        refine (check_any a n c S w9 HN.out (by omega) HD.out (HA.out.below HB9.out)).mono ?_
        rintro e w10 ⟨l10, c10, hres10, rfl, hb⟩
        obtain ⟨rfl, rfl⟩ := LinRes.unique ltB_LO HR4.out hres10
        have HS6 := Lib.hid (HS6.out.later hb)
        have HS7 := Lib.hid (HS7.out.later hb)
        have HB10 := Lib.hid (bMore HB9.out hb (Nat.le_refl _))
        rw [← HEV.out]
        clear hb hres10
        go_wp2_with fail
        rw [HEV.out]
        refine (code_any cc w10 (HG.out.later' HB10.out)).mono ?_
        rintro e w11 ⟨rfl, hb⟩
        have HS6 := Lib.hid (HS6.out.later hb)
        have HS7 := Lib.hid (HS7.out.later hb)
        have HB11 := Lib.hid (bMore HB10.out hb (Nat.le_refl _))
        clear hb
        rw [← HEV.out]
        go_wp2_with fail
        refine (same_any a6 c6 n6 (missL l4 ss) a7 c7 n7 (missR l4 ss) w11 HS6.out.len (by omega) HS6.out.rd HS7.out.len (by omega) HS7.out.rd).mono ?_
        rintro e w12 ⟨⟨r, rfl, hr⟩, hk⟩
        obtain rfl : r = true := hr.2 rfl
        have HB12 := Lib.hid (show Below w.heap.size w w12 from HB11.out.trans (hk.below HB11.out.size (fun _ _ h => h)))
        clear hr hk
        go_wp2_with fail
        rw [HEV.out]
        refine (code_any cc w12 (HG.out.later' HB12.out)).mono ?_
        rintro e w13 ⟨rfl, hb⟩
        have HB13 := Lib.hid (bMore HB12.out hb (Nat.le_refl _))
        clear hb
        rw [← HEV.out]
        go_wp2_with fail
        refine (past_any a n c S nm w13 HN.out (by omega) HD.out (HA.out.below HB13.out) HNM.out).mono ?_
        rintro e w14 ⟨v9, l9, rfl, ho9, hs9, hn9, hm9, hx1, hx2, hb9⟩
        clear hx1 hx2
        obtain ⟨a9, n9, c9, sv9⟩ := ho9.sv
        obtain rfl := sv9.val
        have HS9 := Lib.hid sv9
        have HB14 := Lib.hid (bMore HB13.out hb9 (Nat.le_refl _))
        have HP9 := Lib.hid (And.intro hs9 (And.intro hn9 hm9))
        clear ho9 hs9 hn9 hm9 hb9 sv9
        go_wp2_with fail
        refine (rpast_any a n c S nm w14 HN.out (by omega) HD.out (HA.out.below HB14.out)).mono ?_
        rintro e w15 ⟨v1, l1, a1, n1, c1, rfl, sv1, hp1, hm1, hb1⟩
        obtain rfl := sv1.val
        obtain rfl : l9 = l1 := srt_unique HP9.out.1 hp1.srt HP9.out.2.1 hp1.nd (fun s => by rw [HP9.out.2.2, hm1])
        have hn1 : n1 ≤ 60 := sv1.le60 HN.out h60' hp1.le
        have hn9 : n9 ≤ 60 := by have h1 := HS9.out.len; have h2 := sv1.len; omega
        have HS1 := Lib.hid sv1
        have HS9 := Lib.hid (HS9.out.later hb1)
        have HB15 := Lib.hid (bMore HB14.out hb1 (Nat.le_refl _))
        clear hp1 hm1 hb1 sv1
        go_wp2_with fail
        refine (same_any a9 c9 n9 l9 a1 c1 n1 l9 w15 HS9.out.len (by omega) HS9.out.rd HS1.out.len (by omega) HS1.out.rd).mono ?_
        rintro e w16 ⟨⟨r, rfl, hr⟩, hk⟩
        obtain rfl : r = true := hr.2 rfl
        have HB16 := Lib.hid (show Below w.heap.size w w16 from HB15.out.trans (hk.below HB15.out.size (fun _ _ h => h)))
        clear hr hk
        go_wp2_with fail
        refine (heads_any a n c S w16 HN.out (by omega) HD.out (HA.out.below HB16.out)).mono ?_
        rintro e w17 ⟨v3, l3, rfl, ho3, hs3, hn3, hm3, hx1, hx2, hb3⟩
        clear hx1 hx2
        obtain ⟨a3, n3, c3, sv3⟩ := ho3.sv
        obtain rfl := sv3.val
        have HS3 := Lib.hid sv3
        have HB17 := Lib.hid (bMore HB16.out hb3 (Nat.le_refl _))
        have HP3 := Lib.hid (And.intro hs3 (And.intro hn3 hm3))
        clear ho3 hs3 hn3 hm3 hb3 sv3
        go_wp2_with fail
        refine (rheads_any a n c S w17 HN.out (by omega) HD.out (HA.out.below HB17.out)).mono ?_
        rintro e w18 ⟨v2, l2, a2, n2, c2, rfl, sv2, hh2, hb2⟩
        obtain rfl := sv2.val
        obtain rfl : l3 = l2 := srt_unique HP3.out.1 hh2.srt HP3.out.2.1 hh2.nd (fun s => by rw [HP3.out.2.2, hh2.mem, List.take_of_length_le (Nat.le_refl _)])
        have hn2 : n2 ≤ 60 := sv2.le60 HN.out h60' hh2.le
        have hn3 : n3 ≤ 60 := by have h1 := HS3.out.len; have h2 := sv2.len; omega
        have HS2 := Lib.hid sv2
        have HS3 := Lib.hid (HS3.out.later hb2)
        have HB18 := Lib.hid (bMore HB17.out hb2 (Nat.le_refl _))
        clear hh2 hb2 sv2
        go_wp2_with fail
        refine (same_any a3 c3 n3 l3 a2 c2 n2 l3 w18 HS3.out.len (by omega) HS3.out.rd HS2.out.len (by omega) HS2.out.rd).mono ?_
        rintro e w19 ⟨⟨r, rfl, hr⟩, hk⟩
        obtain rfl : r = true := hr.2 rfl
        have HB19 := Lib.hid (show Below w.heap.size w w19 from HB18.out.trans (hk.below HB18.out.size (fun _ _ h => h)))
        clear hr hk
        go_wp2_with fail
        go_ret
        exact ⟨rfl, HB19.out⟩
    · rw [decide_eq_false hsm]
      clear hsm
      go_wp2_with fail
      go_ret
      exact ⟨rfl, HB2.out⟩
end Go.Proofs.YteamkpmkchmhnaaDoor
