/- tambourref06.Past. -/
import Derived.Test.YteamkpmkchmhnaaDoorRefD
namespace Go.Proofs.YteamkpmkchmhnaaDoor
open Go.RowKit Go.Maps Go.WideMaps

/-- What the document's Past answers. -/
def RPastPost (S : List (Nd BA)) (nm : BA) (w : World) (e : Ending) (w' : World) : Prop :=
  ∃ v l a n c, e = .returned v ∧ SV w' v a n c l ∧ PastIn S nm l ∧ (∀ s, s ∈ l ↔ Reach S nm s) ∧ Below w.heap.size w w'

theorem PastIn.more {S : List (Nd BA)} {nm : BA} {l more : List BA} {i k : Nat} (hp : PastIn S nm l) (hm : MoreIn S nm l more i k) : ∀ j, PastIn S nm ((more.take j).foldl addL l) ∧ ∀ s, s ∈ (more.take j).foldl addL l ↔ s ∈ l ∨ s ∈ more.take j := by
  intro j
  induction j with
  | zero => simpa using hp
  | succ j ih =>
    by_cases hj : j < more.length
    · rw [foldl_take addL l (List.getElem?_eq_getElem hj)]
      refine ⟨ih.1.add ((hm.sound _ (List.getElem_mem hj)).reach hp), fun s => ?_⟩
      rw [mem_addL, ih.2, List.take_succ_eq_append_getElem hj, List.mem_append, List.mem_singleton]
      constructor
      · rintro (h | h | h)
        · exact .inr (.inr h)
        · exact .inl h
        · exact .inr (.inl h)
      · rintro (h | h | h)
        · exact .inr (.inl h)
        · exact .inr (.inr h)
        · exact .inl h
    · rw [List.take_of_length_le (by omega)]
      rw [List.take_of_length_le (by omega)] at ih
      exact ih

theorem grows {l m : List BA} {s : BA} (hl : l.Nodup) (hs : s ∉ l) (hm : s ∈ m) (hsub : ∀ t ∈ l, t ∈ m) : l.length < m.length := by
  have := List.Nodup.length_le_of_subset (l₁ := s :: l) (l₂ := m) (List.nodup_cons.2 ⟨hs, hl⟩) (fun t ht => by
    rcases List.mem_cons.1 ht with rfl | ht
    · exact hm
    · exact hsub t ht)
  simp at this
  omega

/-- The box in which a round holds the thing that it looks at. -/
def BoxN (w : World) (p : Nat) (y : Nd BA) (da : Option Addr) (dc : Nat) : Prop :=
  w.cell? ⟨p, 0, none⟩ = some (.string y.name) ∧ w.cell? ⟨p, 2, none⟩ = some (.slice da y.deps.length dc)

theorem BoxN.later {w w' : World} {p : Nat} {y : Nd BA} {da : Option Addr} {dc : Nat} (h : BoxN w p y da dc) (hb : Below w.heap.size w w') : BoxN w' p y da dc := ⟨Below.keep hb h.1, Below.keep hb h.2⟩

set_option maxRecDepth 100000 in
set_option maxHeartbeats 4000000 in
theorem rpast_any (a : Option Addr) (n c : Nat) (S : List (Nd BA)) (nm : BA) (w : World) (hn : S.length = n) (hm : n ≤ 1000) (hd : ∀ x ∈ S, x.deps.length ≤ 1000) (h : RdN w a S) :
    Calls Tryd.prog 16 #[.slice a n c, .string nm] w (RPastPost S nm w) := by
  have HN := Lib.hid hn
  have HA := Lib.hid h
  have HD := Lib.hid hd
  clear hn h hd
  go_enter Tryd.func16, Tryd.ntmps16
  go_wp2_with fail
  go_loopw [5] (fun v wr => ∃ (a1 : Option Addr) (m c1 : Nat) (l : List BA), v = .slice a1 m c1 ∧ SV wr (.slice a1 m c1) a1 m c1 l ∧ Hid (PastIn S nm l) ∧ Below w.heap.size w wr) (fun v _ => n - (match v with | .slice _ m _ => m | _ => 0))
  case atStart => exact ⟨none, 0, 0, [], rfl, SV.nil w, PastIn.start S nm, Below.refl _ _⟩
  case round =>
    obtain ⟨a1, m, c1, l, rfl, hsv, hp, hb⟩ := hrel
    have HSV := Lib.hid hsv
    have HB := Lib.hid hb
    have hml : m ≤ n := by
      have h1 := hp.out.le
      have h2 := HSV.out.len
      have h3 := HN.out
      omega
    clear hsv hb
    go_wp2_with fail
    obtain ⟨w2, rfl⟩ : ∃ w2 : World, w2 = wr := ⟨wr, rfl⟩
    go_loopw [6, 7] (fun v i wr => ∃ (k : Nat) (a2 : Option Addr) (m2 c2 : Nat) (more : List BA), v = .slice a2 m2 c2 ∧ i = .int .i64 k ∧ k ≤ n ∧ SV wr (.slice a2 m2 c2) a2 m2 c2 more ∧ Hid (MoreIn S nm l more k 0) ∧ Below w2.heap.size w2 wr) (fun _ i _ => n - (intOf i).toNat)
    case atStart => exact ⟨0, none, 0, 0, [], rfl, rfl, Nat.zero_le _, SV.nil w2, MoreIn.start S nm l, Below.refl _ _⟩
    case round =>
      obtain ⟨k, a2, m2, c2, more, rfl, rfl, hk, hsv2, hmo, hb2⟩ := hrel
      have HS2 := Lib.hid hsv2
      have HB2 := Lib.hid hb2
      have hm2l : m2 ≤ n := by
        have h1 := hmo.out.le
        have h2 := HS2.out.len
        have h3 := HN.out
        omega
      clear hsv2 hb2
      by_cases hlt : k < n
      · obtain ⟨y, hy⟩ := get_of_lt (l := S) (k := k) (by rw [HN.out]; exact hlt)
        have HBW := Lib.hid (bMore HB.out HB2.out (Nat.le_refl _))
        obtain ⟨b, off, note, da, dc, oa, ol, oc, ha, _, hns, q0, q1, q2, q3, hdv, _, _⟩ := HA.out.nth HBW.out hy
        have HAA := Lib.hid ha
        subst ha
        have hdl : y.deps.length ≤ 1000 := HD.out y (List.mem_of_getElem? hy)
        have HY := Lib.hid hy
        obtain ⟨bo, hbo⟩ : ∃ bo, bo = Obj.cells #[.string y.name, .string note, .slice da y.deps.length dc, .slice oa ol oc] 30 := ⟨_, rfl⟩
        have HBA := Lib.hid (HB2.out.alloc HB2.out.size bo)
        have HDV := Lib.hid (hdv.below ((Below.refl _ wr).alloc (Nat.le_refl _) bo))
        have HSA := Lib.hid (HS2.out.later ((Below.refl _ wr).alloc (Nat.le_refl _) bo))
        have HBX := Lib.hid (show BoxN (wr.alloc bo) wr.heap.size y da dc from ⟨by rw [hbo]; exact (cell_of_row _ _ _ _ _ _ (heap_alloc_new wr _)).trans rfl, by rw [hbo]; exact (cell_of_row _ _ _ _ _ _ (heap_alloc_new wr _)).trans rfl⟩)
        have HLA := Lib.hid ((HSV.out.later HB2.out).later ((Below.refl _ wr).alloc (Nat.le_refl _) bo))
        clear hy hns hdv
        obtain ⟨pb, hpb⟩ : ∃ pb, pb = wr.heap.size := ⟨_, rfl⟩
        rw [← hpb] at HBX
        by_cases hact : y.name = nm ∨ y.name ∈ l
        · have HACT := Lib.hid hact
          by_cases e1 : y.name = nm
          case' pos =>
            have t1 : (y.name.toList == nm.toList) = true := by rw [eqB]; simp [e1]
            clear e1 hact
            subst hbo
            subst hpb
            go_wp2_with fail
          case' neg =>
            have t1 : (y.name.toList == nm.toList) = false := by rw [eqB]; simp [e1]
            have hin : y.name ∈ l := hact.resolve_left e1
            have HIN := Lib.hid hin
            clear e1 hact hin
            subst hbo
            subst hpb
            go_wp2_with fail
            refine (rin_any a1 c1 m l y.name _ HLA.out.len (by omega) HLA.out.rd).mono ?_
            rintro e w' ⟨rfl, rfl⟩
            rw [decide_eq_true HIN.out]
            clear HIN
            go_wp2_with fail
          all_goals
            clear q0 q1 q2 q3 t1
            obtain ⟨w3, rfl⟩ : ∃ w3 : World, w3 = wr := ⟨wr, rfl⟩
            go_loopw [6, 9] (fun v i wr => ∃ (j : Nat) (a2 : Option Addr) (m2 c2 : Nat) (more : List BA), v = .slice a2 m2 c2 ∧ i = .int .i64 j ∧ j ≤ y.deps.length ∧ SV wr (.slice a2 m2 c2) a2 m2 c2 more ∧ Hid (MoreIn S nm l more k j) ∧ Below (w3.heap.size + 1) (w3.alloc (Obj.cells #[.string y.name, .string note, .slice da y.deps.length dc, .slice oa ol oc] 30)) wr) (fun _ i _ => y.deps.length - (intOf i).toNat)
            case atStart => exact ⟨0, a2, m2, c2, more, rfl, rfl, Nat.zero_le _, HSA.out, hmo, Below.refl _ _⟩
            case round =>
              obtain ⟨j, a5, m5, c5, mo5, rfl, rfl, hj, hsv5, hmo5, hb5⟩ := hrel
              have hb5' : Below (w3.alloc (Obj.cells #[.string y.name, .string note, .slice da y.deps.length dc, .slice oa ol oc] 30)).heap.size (w3.alloc (Obj.cells #[.string y.name, .string note, .slice da y.deps.length dc, .slice oa ol oc] 30)) wr := by
                rw [show (w3.alloc (Obj.cells #[.string y.name, .string note, .slice da y.deps.length dc, .slice oa ol oc] 30)).heap.size = w3.heap.size + 1 by simp]
                exact hb5
              have HS5 := Lib.hid hsv5
              have HB5 := Lib.hid (bMore HBA.out hb5' (Nat.le_refl _))
              have HB5' := Lib.hid hb5
              have hbx := HBX.out.later hb5'
              have HDV5 := Lib.hid (HDV.out.below hb5')
              have HL5 := Lib.hid (HLA.out.later hb5')
              have hm5l : m5 ≤ n := by
                have h1 := hmo5.out.le
                have h2 := HS5.out.len
                have h3 := HN.out
                omega
              obtain ⟨hx0, hx2⟩ := hbx
              have hszb : w3.heap.size < wr.heap.size := by have := hb5.size; simp at this; omega
              clear hsv5 hb5 hb5'
              by_cases hjl : j < y.deps.length
              · obtain ⟨_, _, hv, _, _, _, hr, _⟩ := HDV5.out
                cases hv
                obtain ⟨bd, offd, hda, hcd⟩ := hr j hjl
                subst hda
                have HDJ := Lib.hid (List.getElem?_eq_getElem hjl)
                clear hr
                generalize y.deps[j] = d at hcd HDJ
                go_wp2_with fail
                clear hcd hx0 hx2
                refine (rnames_any (some ⟨b, off, none⟩) n c S wr HN.out (by omega) (HA.out.below (bMore HB.out HB5.out (Nat.le_refl _)))).mono ?_
                rintro e w6 ⟨v6, rfl, ho6⟩
                have HLN := Lib.hid (show (names S).length = n by simp [names, HN.out])
                obtain ⟨a6, c6, rfl⟩ := ho6.shape HLN.out
                have HO6 := Lib.hid ho6
                have HB6 := Lib.hid (bMore HB5.out ho6.below (Nat.le_refl _))
                have HB6' := Lib.hid (HB5'.out.trans (ho6.below.mono (by omega)))
                have HS6 := Lib.hid (HS5.out.later ho6.below)
                have HL6 := Lib.hid (HL5.out.later ho6.below)
                clear ho6
                go_wp2_with fail
                refine (rin_any a6 c6 n (names S) d w6 HLN.out (by omega) HO6.out.rd).mono ?_
                rintro e w' ⟨rfl, rfl⟩
                by_cases hin : d ∈ names S
                · rw [decide_eq_true hin]
                  have HIN := Lib.hid hin
                  clear hin
                  go_wp2_with fail
                  refine (rin_any a1 c1 m l d w6 HL6.out.len (by omega) HL6.out.rd).mono ?_
                  rintro e w' ⟨rfl, rfl⟩
                  by_cases hil : d ∈ l
                  · rw [decide_eq_true hil]
                    have HM := Lib.hid (hmo5.out.skip HY.out HDJ.out (fun h => h.2 hil))
                    clear hil
                    go_wp2_with fail
                    go_roundw
                    case rel => exact ⟨j + 1, a5, m5, c5, mo5, rfl, by go_num, by omega, HS6.out, HM.out, HB6'.out⟩
                    case measure => simp [intOf]; omega
                  · rw [decide_eq_false hil]
                    have HM := Lib.hid (hmo5.out.add HY.out HDJ.out HACT.out HIN.out hil)
                    clear hil
                    go_wp2_with fail
                    refine (add_any _ a5 m5 c5 mo5 d w6 (by omega) HS6.out).mono ?_
                    rintro e w7 ⟨v7, a7, n7, c7, rfl, sv7, hb7⟩
                    obtain rfl := sv7.val
                    have HS7 := Lib.hid sv7
                    have HB7' := Lib.hid (HB6'.out.trans (hb7.mono (by have := HB6'.out.size; simp at this; omega)))
                    clear sv7 hb7
                    go_wp2_with fail
                    go_roundw
                    case rel => exact ⟨j + 1, a7, n7, c7, _, rfl, by go_num, by omega, HS7.out, HM.out, HB7'.out⟩
                    case measure => simp [intOf]; omega
                · rw [decide_eq_false hin]
                  have HM := Lib.hid (hmo5.out.skip HY.out HDJ.out (fun h => hin h.1))
                  clear hin
                  go_wp2_with fail
                  go_roundw
                  case rel => exact ⟨j + 1, a5, m5, c5, mo5, rfl, by go_num, by omega, HS6.out, HM.out, HB6'.out⟩
                  case measure => simp [intOf]; omega
              · obtain ⟨jl, hjl2⟩ : ∃ jl, y.deps.length = jl := ⟨_, rfl⟩
                obtain rfl : j = y.deps.length := by omega
                have HM := Lib.hid (hmo5.out.next HY.out)
                clear hjl2
                go_wp2_with fail
                go_roundw
                case rel => exact ⟨k + 1, a5, m5, c5, mo5, rfl, by go_num, by omega, HS5.out, HM.out, HB5.out⟩
                case measure => simp [intOf]; omega
        · have t1 : (y.name.toList == nm.toList) = false := by rw [eqB]; simp; exact fun e => hact (.inl e)
          have HIN := Lib.hid (show ¬ y.name ∈ l from fun h => hact (.inr h))
          have HM := Lib.hid (hmo.out.pass HY.out hact)
          clear hact
          subst hbo
          subst hpb
          go_wp2_with fail
          refine (rin_any a1 c1 m l y.name _ HLA.out.len (by omega) HLA.out.rd).mono ?_
          rintro e w' ⟨rfl, rfl⟩
          rw [decide_eq_false HIN.out]
          clear HIN
          go_wp2_with fail
          go_roundw
          case rel => exact ⟨k + 1, a2, m2, c2, more, rfl, by go_num, by omega, HSA.out, HM.out, HBA.out⟩
          case measure => simp [intOf]; omega
      · obtain rfl : k = n := by omega
        have HBW := Lib.hid (bMore HB.out HB2.out (Nat.le_refl _))
        have HL2 := Lib.hid (HSV.out.later HB2.out)
        by_cases h0 : m2 = 0
        · subst h0
          have HF : Hid (RPastPost S nm w (.returned (.slice a1 m c1)) wr) := by
            refine ⟨_, l, a1, m, c1, rfl, HL2.out, hp.out, hp.out.whole (fun s => ?_), HBW.out⟩
            have e : more = [] := List.length_eq_zero_iff.1 HS2.out.len
            have := hmo.out
            rw [e, ← HN.out] at this
            exact this.none s
          go_wp2_with fail
          go_ret
          exact HF.out
        · have h00 : ((m2 : Int) == 0) = false := by simp; omega
          have hm20 : 0 < m2 := by omega
          clear h0
          go_wp2_with fail
          obtain ⟨w3, rfl⟩ : ∃ w3 : World, w3 = wr := ⟨wr, rfl⟩
          go_loopw [5, 11] (fun v i wr => ∃ (j : Nat) (a4 : Option Addr) (m4 c4 : Nat), v = .slice a4 m4 c4 ∧ i = .int .i64 j ∧ j ≤ m2 ∧ SV wr (.slice a4 m4 c4) a4 m4 c4 ((more.take j).foldl addL l) ∧ Below w3.heap.size w3 wr) (fun _ i _ => m2 - (intOf i).toNat)
          case atStart => exact ⟨0, a1, m, c1, rfl, rfl, Nat.zero_le _, HL2.out, Below.refl _ _⟩
          case round =>
            obtain ⟨j, a4, m4, c4, rfl, rfl, hj, hsv4, hb4⟩ := hrel
            have HS4 := Lib.hid hsv4
            have HB4 := Lib.hid hb4
            have HM4 := Lib.hid (hp.out.more hmo.out j)
            have hm4l : m4 ≤ k := by
              have h1 := HM4.out.1.le
              have h2 := HS4.out.len
              have h3 := HN.out
              omega
            have HS2' := Lib.hid (HS2.out.later hb4)
            clear hsv4 hb4
            by_cases hjl : j < m2
            · obtain ⟨s, hs⟩ := get_of_lt (l := more) (k := j) (by rw [HS2.out.len]; exact hjl)
              obtain ⟨bd, offd, hda, hcd⟩ := HS2'.out.rd j (by rw [HS2.out.len]; exact hjl)
              subst hda
              rw [(List.getElem?_eq_some_iff.1 hs).2] at hcd
              have HFT := Lib.hid (foldl_take addL l hs)
              clear hs
              go_wp2_with fail
              clear hcd
              refine (add_any _ a4 m4 c4 _ s wr (by omega) HS4.out).mono ?_
              rintro e w7 ⟨v7, a7, n7, c7, rfl, sv7, hb7⟩
              obtain rfl := sv7.val
              rw [← HFT.out] at sv7
              have HS7 := Lib.hid sv7
              have HB7 := Lib.hid (bMore HB4.out hb7 (Nat.le_refl _))
              clear sv7 hb7
              go_wp2_with fail
              go_roundw
              case rel => exact ⟨j + 1, a7, n7, c7, rfl, by go_num, by omega, HS7.out, HB7.out⟩
              case measure => simp [intOf]; omega
            · obtain rfl : j = m2 := by omega
              have hlen : m < m4 := by
                have h2 := HS4.out.len
                have h3 := HSV.out.len
                obtain ⟨s, hs⟩ := get_of_lt (l := more) (k := 0) (by rw [HS2.out.len]; exact hm20)
                have hsm := List.mem_of_getElem? hs
                have ht : more.take j = more := List.take_of_length_le (by rw [HS2.out.len]; exact Nat.le_refl _)
                have := grows (l := l) (m := (more.take j).foldl addL l) (s := s) hp.out.nd (by
                  obtain ⟨_, _, _, _, _, h5⟩ := hmo.out.sound s hsm
                  exact h5) ((HM4.out.2 s).2 (.inr (by rw [ht]; exact hsm))) (fun t ht => (HM4.out.2 t).2 (.inl ht))
                omega
              have HBX := Lib.hid (bMore HBW.out HB4.out (Nat.le_refl _))
              go_wp2_with fail
              go_roundw
              case rel => exact ⟨a4, m4, c4, _, rfl, HS4.out, HM4.out.1, HBX.out⟩
              case measure => simp; omega
end Go.Proofs.YteamkpmkchmhnaaDoor
