/- order.Past. -/
import Derived.Test.YteamkpmkchmhnaaDoorHeads
import Derived.Test.YteamkpmkchmhnaaDoorPastThy
import Derived.Deep.RegionHeld3
import Derived.Laws.EntriesVeiled
namespace Go.Proofs.YteamkpmkchmhnaaDoor
open Go.RowKit Go.Maps Go.WideMaps

/-- The set of what is seen. -/
def VF (V : List BA) : BA → Option Value := fun s => if s ∈ V then some (.bool true) else none

theorem VF_upd (V : List BA) (d : BA) : upd (VF V) d (.bool true) = VF (d :: V) := by
  funext s
  unfold VF
  by_cases e : s = d
  · rw [e, upd_same, if_pos (by simp)]
  · rw [upd_other _ _ e]
    simp [e]

/-- What the walk finds in memory. -/
structure PS (S : List (Nd BA)) (w : World) (pd ps pw bd bs m lo : Nat) (G : BA → Option Value) (V : List BA) : Prop where
  hpd : w.heap[pd]? = some (.cells #[.map (some bd)] 49 (0, 0))
  hps : w.heap[ps]? = some (.cells #[.map (some bs)] 60 (0, 0))
  hpw : w.heap[pw]? = some (.cells #[.func (.func 26) #[] #[.pointer (some ⟨pd, 0, none⟩), .pointer (some ⟨ps, 0, none⟩), .pointer (some ⟨pw, 0, none⟩)]] 61 (0, 0))
  grp : Grp w bd m lo G (depsOf S)
  dom : ∀ s, (G s).isSome = decide (s ∈ names S)
  seen : ∃ n, MpSt w bs n (VF V) ∧ n + unseen S V ≤ S.length

theorem PS.kept {S : List (Nd BA)} {w w' : World} {pd ps pw bd bs m lo n : Nat} {G : BA → Option Value} {V V' : List BA} (h : PS S w pd ps pw bd bs m lo G V) (hk : w.grownBy w' (some bs)) (hbd : bd ≠ bs) (hs : MpSt w' bs n (VF V')) (hn : n + unseen S V' ≤ S.length) : PS S w' pd ps pw bd bs m lo G V' := by
  have hk' := Kept.of_grown hk
  obtain ⟨n0, hs0, _⟩ := h.seen
  have ne : ∀ {q : Nat} {cs : Array Value} {e : TypeId}, w.heap[q]? = some (.cells cs e (0, 0)) → ¬ some q = some bs := fun hq e => by
    simp only [Option.some.injEq] at e
    exact hs0.ne hq e.symm
  exact ⟨hk'.heap h.hpd (ne h.hpd), hk'.heap h.hps (ne h.hps), hk'.heap h.hpw (ne h.hpw), h.grp.kept hk' (by simpa using hbd) (fun d q hq => by
    obtain ⟨cur, hc⟩ := (h.grp.row d).kind hq
    exact ne hc), h.dom, ⟨n, hs, hn⟩⟩

set_option maxRecDepth 100000 in
set_option maxHeartbeats 1000000 in
theorem past1_any (S : List (Nd BA)) (pd ps pw bd bs m lo : Nat) (G : BA → Option Value) (hbd : bd ≠ bs) (hS : S.length ≤ 1000) (hsz : ∀ s d, d ∈ depsOf S s → d.size ≤ maxLen) (hdl : ∀ s, (depsOf S s).length ≤ 1000000) (u : Nat) :
    ∀ (s : BA) (V : List BA) (w : World), unseen S V ≤ u → s.size ≤ maxLen → PS S w pd ps pw bd bs m lo G V →
    Calls Tryd.prog 26 #[.string s, .pointer (some ⟨pd, 0, none⟩), .pointer (some ⟨ps, 0, none⟩), .pointer (some ⟨pw, 0, none⟩)] w fun e w' => e = .returned (.tuple #[]) ∧
      ∃ V', PS S w' pd ps pw bd bs m lo G V' ∧ Dfs S V s (depsOf S s).length V' ∧ Kept (fun q => q = bs) w w' := by
  have HSZ := Lib.hid hsz
  have HDL := Lib.hid hdl
  clear hsz hdl
  induction u using Nat.strongRecOn with
  | _ u ih =>
    intro s V w hu hss hps
    have IH := Lib.hid ih
    have HU := Lib.hid hu
    have HPS := Lib.hid hps
    have hc1 := cell_of_one hps.hpd
    obtain ⟨ag, cg, hvg, _⟩ := (hps.grp.row s).shape'
    obtain ⟨dl, hdl⟩ : ∃ dl, dl = depsOf S s := ⟨_, rfl⟩
    have HO := Lib.hid (show OS w (.slice ag dl.length cg) dl by have := hps.grp.row s; rw [hvg, ← hdl] at this; exact this)
    rw [← hdl] at hvg
    have hlen : dl.length ≤ 1000000 := by rw [hdl]; exact HDL.out s
    have hlk := hps.grp.map.look Tryd.mapSS (keyS hss) false
    rw [show (G s).getD (.slice none 0 0) = .slice ag dl.length cg from hvg] at hlk
    simp only [Bool.false_eq_true, if_false] at hlk
    have HDE := Lib.hid hdl
    clear ih hu hps hvg hdl
    go_enter Tryd.func26, Tryd.ntmps26
    go_wp2_with fail
    go_loopw [13] (fun i wr => ∃ (j : Nat) (V' : List BA), i = .int .i64 j ∧ j ≤ dl.length ∧ PS S wr pd ps pw bd bs m lo G V' ∧ Dfs S V s j V' ∧ Kept (fun q => q = bs) w wr) (fun i _ => dl.length - (intOf i).toNat)
    case atStart => exact ⟨0, V, rfl, Nat.zero_le _, HPS.out, Dfs.start S V s, Kept.refl _ _⟩
    case round =>
      obtain ⟨j, V1, rfl, hj, hps1, hdfs1, hk1⟩ := hrel
      clear hlk
      by_cases hjl : j < dl.length
      · obtain ⟨d, hd⟩ := get_of_lt hjl
        have hoq : OS wr (.slice ag dl.length cg) dl := HO.out.kept hk1 (fun q hq e => by
          obtain ⟨n0, hs0, _⟩ := HPS.out.seen
          obtain ⟨cur, hc⟩ := HO.out.kind hq
          exact hs0.ne hc e.symm)
        obtain ⟨bq, offq, hag, hcd⟩ := hoq.rd j hjl
        subst hag
        rw [(List.getElem?_eq_some_iff.1 hd).2] at hcd
        have hd' : (depsOf S s)[j]? = some d := by rw [← HDE.out]; exact hd
        have hds : d.size ≤ maxLen := HSZ.out s d (List.mem_of_getElem? hd')
        have hcx1 := cell_of_one hps1.hpd
        have hcx2 := cell_of_one hps1.hps
        have hcx3 := cell_of_one hps1.hpw
        have hdom := hps1.dom d
        obtain ⟨n1, hm1, hn1⟩ := hps1.seen
        have hlk2 := hps1.grp.map.look Tryd.mapSS (keyS hds) true
        have hlk3 := hm1.look Tryd.mapSB (keyS hds) false
        obtain ⟨vg, hvg⟩ : ∃ vg, vg = (G d).getD (.slice none 0 0) := ⟨_, rfl⟩
        rw [← hvg, hdom] at hlk2
        simp only [if_true] at hlk2
        simp only [Bool.false_eq_true, if_false] at hlk3
        have HD := Lib.hid hd'
        have HDF := Lib.hid hdfs1
        have HK1 := Lib.hid hk1
        have HP1 := Lib.hid hps1
        have HM1 := Lib.hid hm1
        have HN1 := Lib.hid hn1
        have HDS := Lib.hid hds
        clear hd hd' hoq hdfs1 hk1 hps1 hm1 hn1 hds hdom hvg
        by_cases hin : d ∈ names S
        · rw [show decide (d ∈ names S) = true from decide_eq_true hin] at hlk2
          by_cases hsn : d ∈ V1
          · rw [show (VF V1 d).getD (.bool false) = .bool true by unfold VF; rw [if_pos hsn]; rfl] at hlk3
            have HSK := Lib.hid (HDF.out.skip HD.out (.inr hsn))
            have HIN := Lib.hid hin
            clear hin hsn
            go_wp2_with fail
            go_roundw
            case rel => exact ⟨j + 1, V1, by go_num, by omega, HP1.out, HSK.out, HK1.out⟩
            case measure => simp [intOf]; omega
          · rw [show (VF V1 d).getD (.bool false) = .bool false by unfold VF; rw [if_neg hsn]; rfl] at hlk3
            have hul := unseen_lt hin hsn
            have huv : unseen S V1 ≤ unseen S V := unseen_mono HDF.out.sub
            have HIN := Lib.hid hin
            have hun : unseen S (d :: V1) < u := by have := HU.out; omega
            have hns : n1 + 1 + unseen S (d :: V1) ≤ S.length := by have := HN1.out; omega
            clear hin hsn hul huv
            go_wp2_with (at_mapUpdate; refine wpList_store Tryd.mapSB (val := .bool true) HM1.out (by unfold maxLen; omega) (keyS HDS.out) rfl rfl rfl rfl rfl ?_; intro w5 hmp5 hg5; have HP5 := Lib.hid (HP1.out.kept hg5 hbd (V' := d :: V1) (n := n1 + 1) (by have := hmp5; rw [VF_upd] at this; exact this) hns); have HG5 := Lib.hid hg5; have hcw := cell_of_one HP5.out.hpw; clear hmp5 hg5)
            refine (IH.out _ hun d (d :: V1) w5 (Nat.le_refl _) HDS.out HP5.out).mono ?_
            rintro e w6 ⟨rfl, V2, hp6, hd6, hk6⟩
            have HP6 := Lib.hid hp6
            have HD6 := Lib.hid (HDF.out.call HD.out HIN.out hd6)
            have HK6 := Lib.hid ((HK1.out.then (Kept.of_grown HG5.out) (fun q _ e => by simpa using e)).trans hk6)
            clear hp6 hd6 hk6
            go_wp2_with fail
            go_roundw
            case rel => exact ⟨j + 1, V2, by go_num, by omega, HP6.out, HD6.out, HK6.out⟩
            case measure => simp [intOf]; omega
        · rw [show decide (d ∈ names S) = false from decide_eq_false hin] at hlk2
          have HSK := Lib.hid (HDF.out.skip HD.out (.inl hin))
          clear hin
          go_wp2_with fail
          go_roundw
          case rel => exact ⟨j + 1, V1, by go_num, by omega, HP1.out, HSK.out, HK1.out⟩
          case measure => simp [intOf]; omega
      · have hjn : j = dl.length := by omega
        subst hjn
        have HF := Lib.hid (show ∃ V', PS S wr pd ps pw bd bs m lo G V' ∧ Dfs S V s (depsOf S s).length V' ∧ Kept (fun q => q = bs) w wr from ⟨V1, hps1, by rw [← HDE.out]; exact hdfs1, hk1⟩)
        clear hps1 hdfs1 hk1
        go_wp2_with fail
        go_end0
        exact ⟨rfl, HF.out⟩

theorem PS.start {S : List (Nd BA)} {wr : World} {B m : Nat} {G : BA → Option Value} (hg : Grp wr B m B G (depsOf S)) (hdom : ∀ s, (G s).isSome = decide (s ∈ names S)) (hbx : wr.heap[B + 1]? = some (.cells #[.map (some B)] 49 (0, 0))) :
    PS S (((wr.alloc (.map #[] 0)).alloc (.cells #[.map (some wr.heap.size)] 60)).alloc (.cells #[.func (.func 26) #[] #[.pointer (some ⟨B + 1, 0, none⟩), .pointer (some ⟨wr.heap.size + 1, 0, none⟩), .pointer (some ⟨wr.heap.size + 1 + 1, 0, none⟩)]] 61))
      (B + 1) (wr.heap.size + 1) (wr.heap.size + 1 + 1) B wr.heap.size m B G [] := by
  have hlt := lt_of_block hbx
  have s1 : (wr.alloc (.map #[] 0)).heap.size = wr.heap.size + 1 := by simp
  have s2 : ((wr.alloc (.map #[] 0)).alloc (.cells #[.map (some wr.heap.size)] 60)).heap.size = wr.heap.size + 1 + 1 := by simp
  refine ⟨?_, ?_, ?_, ((hg.alloc _).alloc _).alloc _, hdom, 0, ?_, ?_⟩
  · rw [Below.heap_alloc _ _ _ (by omega), Below.heap_alloc _ _ _ (by omega), Below.heap_alloc _ _ _ (by omega)]
    exact hbx
  · rw [Below.heap_alloc _ _ _ (by omega)]
    have := heap_alloc_new (wr.alloc (.map #[] 0)) (.cells #[.map (some wr.heap.size)] 60)
    rwa [s1] at this
  · have := heap_alloc_new ((wr.alloc (.map #[] 0)).alloc (.cells #[.map (some wr.heap.size)] 60)) (.cells #[.func (.func 26) #[] #[.pointer (some ⟨B + 1, 0, none⟩), .pointer (some ⟨wr.heap.size + 1, 0, none⟩), .pointer (some ⟨wr.heap.size + 1 + 1, 0, none⟩)]] 61)
    rwa [s2] at this
  · have e : VF [] = fun _ => none := by funext s; simp [VF]
    rw [e]
    exact ((Mp.made wr Tryd.prog 9 (fun s : BA => Value.string s)).alloc _).alloc _
  · unfold unseen
    have := List.length_filter_le (fun s => decide (s ∉ ([] : List BA))) (names S)
    rw [Nat.zero_add]
    refine Nat.le_trans this ?_
    simp [names]

/-- What Past answers. -/
def PastPost (S : List (Nd BA)) (nm : BA) (w : World) (e : Ending) (w' : World) : Prop :=
  ∃ v l, e = .returned v ∧ OS w' v l ∧ Srt l ∧ l.Nodup ∧ (∀ s, s ∈ l ↔ Reach S nm s) ∧ (l = [] → v = .slice none 0 0) ∧ (∀ q, v.ownBlock = some q → w.heap.size ≤ q) ∧ Below w.heap.size w w'

set_option maxRecDepth 100000 in
set_option maxHeartbeats 1000000 in
theorem past_any (a : Option Addr) (n c : Nat) (S : List (Nd BA)) (nm : BA) (w : World) (hn : S.length = n) (hm : n ≤ 1000) (hd : ∀ x ∈ S, x.deps.length ≤ 1000) (h : RdN w a S) (hnm : nm.size ≤ maxLen) :
    Calls Tryd.prog 10 #[.slice a n c, .string nm] w (PastPost S nm w) := by
  have HN := Lib.hid hn
  have HA := Lib.hid h
  have HD := Lib.hid hd
  clear hn h hd
  have hmm := @run_makeMap Tryd.prog
  go_enter Tryd.func10, Tryd.ntmps10
  go_wp2_with fail
  go_loopw [13] (fun i wr => ∃ (k m : Nat) (G : BA → Option Value), i = .int .i64 k ∧ k ≤ n ∧ Grp wr w.heap.size m w.heap.size G (depsOf (S.take k)) ∧ m ≤ k ∧ (∀ s, (G s).isSome = decide (s ∈ names (S.take k))) ∧
      wr.heap[w.heap.size + 1]? = some (.cells #[.map (some w.heap.size)] 49 (0, 0)) ∧ Below w.heap.size w wr) (fun i _ => n - (intOf i).toNat)
  case atStart =>
    have hb1 : ((w.alloc (.map #[] 0)).alloc (.cells #[.map (some w.heap.size)] 49)).heap[w.heap.size + 1]? = some (.cells #[.map (some w.heap.size)] 49 (0, 0)) := by
      have := heap_alloc_new (w.alloc (.map #[] 0)) (.cells #[.map (some w.heap.size)] 49)
      simpa using this
    have e : depsOf (S.take 0) = fun _ => [] := by funext s; simp [depsOf]
    refine ⟨0, 0, fun _ => none, rfl, Nat.zero_le _, ?_, Nat.le_refl _, by simp [names], hb1, ((Below.refl _ _).alloc (Nat.le_refl _) _).alloc (by simp) _⟩
    rw [e]
    exact (Grp.start (Mp.made w Tryd.prog 9 (fun s : BA => Value.string s))).alloc _
  case round =>
    obtain ⟨k, m, G, rfl, hk, hg, hmk, hdom, hbx, hb⟩ := hrel
    by_cases hlt : k < n
    · obtain ⟨y, hy⟩ := get_of_lt (l := S) (k := k) (by rw [HN.out]; exact hlt)
      obtain ⟨b, off, note, da, dc, oa, ol, oc, rfl, _, hns, c0, c1, c2, c3, hdv, _, _⟩ := HA.out.nth hb hy
      obtain ⟨bo, hbo⟩ : ∃ bo, bo = Obj.cells #[.string y.name, .string note, .slice da y.deps.length dc, .slice oa ol oc] 30 := ⟨_, rfl⟩
      obtain ⟨_, hsn, hsc⟩ := (hdv.below ((Below.refl _ wr).alloc (Nat.le_refl _) bo)).src
      have hdl := HD.out y (List.mem_of_getElem? hy)
      have hwbw := hg.map.lt
      have hcx : ∀ o, (wr.alloc o).cell? ⟨w.heap.size + 1, 0, none⟩ = some (.map (some w.heap.size)) := fun o => cell_of_one ((Below.heap_alloc wr o _ (lt_of_block hbx)).trans hbx)
      obtain ⟨vg, hvg⟩ : ∃ vg, vg = atK G y.name := ⟨_, rfl⟩
      have hlk : (Instr.lookup 49 (.map (some w.heap.size)) (.string y.name) false).run Tryd.prog (wr.alloc bo).drew = .ok vg (wr.alloc bo).drew := by
        have := (hg.map.alloc bo).drew.look Tryd.mapSS (keyS hns) false
        simpa [hvg, atK] using this
      have HO := Lib.hid (show OS (wr.alloc bo).drew vg (depsOf (S.take k) y.name) by rw [hvg]; exact (hg.alloc bo).row y.name)
      have hlen : (depsOf (S.take k) y.name).length ≤ n * 1000 := by
        have h1 := length_depsOf (S.take k) 1000 (fun x hx => HD.out x (List.mem_of_mem_take hx)) y.name
        have h2 : (S.take k).length * 1000 ≤ n * 1000 := Nat.mul_le_mul_right _ (by simp; omega)
        omega
      have hn2 : n * 1000 ≤ 1000 * 1000 := Nat.mul_le_mul_right _ hm
      obtain ⟨ud, hud⟩ : ∃ ud, ud = depsOf (S.take k) y.name := ⟨_, rfl⟩
      rw [← hud] at HO hlen
      have HUD := Lib.hid hud
      have HVG := Lib.hid hvg
      have HY := Lib.hid hy
      have HG := Lib.hid hg
      have HNS := Lib.hid hns
      have HDOM := Lib.hid hdom
      have HBX := Lib.hid hbx
      have HB := Lib.hid hb
      have HSN := Lib.hid hsn
      have HSC := Lib.hid hsc
      clear hy hg hns hdom hbx hb hsn hsc hdv hud hvg
      have hne : vg.ownBlock ≠ some w.heap.size := by rw [HVG.out]; exact Mps.not_row HG.out.map (HG.out.row y.name)
      have HNE := Lib.hid hne
      have hnb : vg.ownBlock ≠ some wr.heap.size := fun e => by
        rw [HVG.out] at e
        have := (HG.out.row y.name).block_lt e
        omega
      have hnx : vg.ownBlock ≠ some (w.heap.size + 1) := by rw [HVG.out]; exact heap_not_row HBX.out (by decide) (HG.out.row y.name)
      have HNB := Lib.hid hnb
      have HNX := Lib.hid hnx
      have HCB := Lib.hid (show (wr.alloc bo).drew.cell? ⟨wr.heap.size, 0, none⟩ = some (.string y.name) by rw [hbo]; exact (cell_of_row _ _ _ _ _ _ (heap_alloc_new wr _)).trans rfl)
      have HCD := Lib.hid (show (wr.alloc bo).drew.cell? ⟨wr.heap.size, 2, none⟩ = some (.slice da y.deps.length dc) by rw [hbo]; exact (cell_of_row _ _ _ _ _ _ (heap_alloc_new wr _)).trans rfl)
      have HCX := Lib.hid (hcx bo)
      clear hne hnb hnx
      subst hbo
      go_wp2_with fail
      go_region_held3 (fun W => W.cell? ⟨w.heap.size + 1, 0, none⟩ = some (.map (some w.heap.size)) ∧ W.cell? ⟨wr.heap.size, 0, none⟩ = some (.string y.name) ∧ W.cell? ⟨wr.heap.size, 2, none⟩ = some (.slice da y.deps.length dc)) (first | exact ⟨HCX.out, HCB.out, HCD.out⟩ | exact ⟨hcx6, hcb6, hcd6⟩ | exact ⟨hcx5, hcb5, hcd5⟩) (first | (refine step_append_src Tryd.elS HO.out (news := y.deps.map Value.string) HSN.out (by simp) (by exact HSC.out) (strs_oneCell _) (by unfold maxLen; omega) (by omega) rfl rfl rfl rfl ?_; intro v5 w5 hown5 hgrow5 hat5; have hcd5 := (Kept.of_grown hgrow5).at HCD.out (fun e => HNB.out e.symm); have hcb5 := (Kept.of_grown hgrow5).at HCB.out (fun e => HNB.out e.symm); have hcx5 := (Kept.of_grown hgrow5).at (p := ⟨w.heap.size + 1, 0, none⟩) HCX.out (fun e => HNX.out e.symm); have HK5 := Lib.hid (((Kept.refl (fun q => vg.ownBlock = some q) wr).alloc _).drew.then (Kept.of_grown hgrow5) (fun _ _ e => e.symm)); obtain ⟨w6, hrun6, hmp6, hg6⟩ := (HG.out.map.kept HK5.out HNE.out).store Tryd.mapSS (by unfold maxLen; omega) (keyS HNS.out) v5; have hcx6 := (Kept.of_grown hg6).at hcx5 (by simp); have hcb6 := (Kept.of_grown hg6).at hcb5 (by simp; omega); have hcd6 := (Kept.of_grown hg6).at hcd5 (by simp; omega); have HO5 := Lib.hid hown5; have HA5 := Lib.hid hat5; have HM6 := Lib.hid hmp6; have HG6 := Lib.hid hg6; clear hown5 hgrow5 hat5 hmp6 hg6))
      go_wp2_with fail
      go_roundw
      case rel =>
        have hg7 := HG.out.app2 HB.out.size (d := y.name) (v' := v5) (l' := ud ++ y.deps) (by rw [← HVG.out]; exact HK5.out) (by unfold OS; have := HO5.out; simpa using this) (fun q hq => by
          rw [← HVG.out]
          rcases HA5.out q hq with h1 | h1
          · exact .inl h1
          · right; simp [World.drew] at h1; omega) HM6.out HG6.out
        rw [HUD.out, depsOf_step HY.out] at hg7
        have hk6 : Kept (fun q => vg.ownBlock = some q ∨ q = w.heap.size) wr w6 := (HK5.out.mono fun _ _ e => .inl e).then (Kept.of_grown HG6.out) (fun q _ e => .inr (by simpa using e))
        refine ⟨k + 1, m + 1, _, by go_num, by omega, hg7, by omega, fun s => ?_, hk6.heap HBX.out ?_, HB.out.trans (hk6.below HB.out.size ?_)⟩
        · rw [names_take_succ HY.out]
          by_cases e : s = y.name
          · rw [e, upd_same]
            simp
          · rw [upd_other _ _ e, HDOM.out]
            simp [e]
        · rintro (e | e)
          · have := heap_not_row HBX.out (by decide) (HG.out.row y.name)
            exact this (by rw [← HVG.out]; exact e)
          · omega
        · rintro q hq (e | e)
          · rw [HVG.out] at e
            have := HG.out.low _ _ e
            omega
          · omega
      case measure => simp [intOf]; omega
    · have hkn : n = k := by omega
      subst hkn
      rw [List.take_of_length_le (by rw [HN.out]; exact Nat.le_refl _)] at hg hdom
      have HG := Lib.hid hg
      have HDOM := Lib.hid hdom
      have HBX := Lib.hid hbx
      have HB := Lib.hid hb
      have hwb := hg.map.lt
      have hwx := lt_of_block hbx
      clear hg hdom hbx hb
      have hn2 : n * 1000 ≤ 1000 * 1000 := Nat.mul_le_mul_right _ hm
      go_wp2_with fail
      refine (past1_any S (w.heap.size + 1) (wr.heap.size + 1) (wr.heap.size + 1 + 1) w.heap.size wr.heap.size m w.heap.size G (by omega) (by rw [HN.out]; exact hm) ?_ ?_ _ nm [] _ (Nat.le_refl _) hnm (PS.start HG.out HDOM.out HBX.out)).mono ?_
      · intro s d hd
        obtain ⟨x, hx, _, hdx⟩ := mem_depsOf.1 hd
        exact HA.out.depsize x hx d hdx
      · intro s
        have := length_depsOf S 1000 HD.out s
        rw [HN.out] at this
        omega
      rintro e w6 ⟨rfl, V, hp6, hd6, hk6⟩
      have hsz6 : wr.heap.size + 3 ≤ w6.heap.size := by have := hk6.size; simp at this; omega
      have hb6 : Below w.heap.size w w6 := HB.out.trans ((((((Kept.refl (fun q => q = wr.heap.size) wr).alloc _).alloc _).alloc _).trans hk6).below HB.out.size (fun q hq e => by omega))
      have hc6 := cell_of_one hp6.hps
      obtain ⟨n6, hm6, hn6⟩ := hp6.seen
      have HM6 := Lib.hid hm6
      have HB6 := Lib.hid hb6
      have HD6 := Lib.hid hd6
      have hn6' : n6 ≤ 1000 := by rw [HN.out] at hn6; omega
      clear hp6 hd6 hk6 hm6 hb6 hn6
      go_wp2_with fail
      refine (keys_any _ w6).mono ?_
      rintro e w7 ⟨rfl, rfl⟩
      go_wp2_with fail
      refine (sorted_any _ n6 _ w6 HM6.out (by omega)).mono ?_
      rintro e w8 ⟨⟨v, l, rfl, ho, hs, hnd, hmem, hnil, hlo⟩, hb8⟩
      have HF : Hid (PastPost S nm w (.returned v) w8) := by
        refine ⟨v, l, rfl, ho, hs, hnd, fun s => ?_, hnil, fun q hq => by have := hlo q hq; omega, HB6.out.trans (hb8.mono HB6.out.size)⟩
        rw [hmem s, ← HD6.out.reach s]
        unfold VF
        by_cases e : s ∈ V
        · simp [e]
        · simp [e]
      clear ho hs hnd hmem hnil hlo hb8
      go_wp2_with fail
      go_ret
      exact HF.out
end Go.Proofs.YteamkpmkchmhnaaDoor
