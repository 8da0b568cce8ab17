/- slices.Contains and slices.DeleteFunc at strings; order.Missing and its closure. -/
import Derived.Test.YteamkpmkchmhnaaDoorDel
import Derived.Test.YteamkpmkchmhnaaDoorSv
namespace Go.Proofs.YteamkpmkchmhnaaDoor
open Go.RowKit Go.Maps Go.WideMaps Go.Shelf Go.Sort

/-- slices.Contains. -/
theorem contains_any (a : Option Addr) (n c : Nat) (ss : List BA) (x : BA) (w : World) (hn : ss.length = n) (hm : n ≤ 1000000000) (h : RdS w a ss) :
    Calls Tryd.prog 34 #[.slice a n c, .string x] w fun e w' => e = .returned (.bool (decide (x ∈ ss))) ∧ w' = w := by
  by_cases h0 : n = 0
  · subst h0
    have : ss = [] := List.length_eq_zero_iff.1 hn
    subst this
    refine (Tryd.slices_Contains_string_empty a c x w).mono ?_
    rintro e w' ⟨rfl, rfl⟩
    exact ⟨by simp, rfl⟩
  · obtain ⟨b, off, rfl, _⟩ := h 0 (by omega)
    refine (Tryd.slices_Contains_string b off n c ss x w (by omega) (by omega) ?_).mono ?_
    · intro j hj
      obtain ⟨b', off', hb', hc'⟩ := h j hj
      cases hb'
      rw [getD_at _ hj]
      exact hc'
    · rintro e w' ⟨rfl, rfl⟩
      refine ⟨?_, rfl⟩
      rw [List.take_of_length_le (by omega)]
      congr 2
      rw [Bool.eq_iff_iff, Lib.containsS_iff, decide_eq_true_eq]

/-- The closure: does the captured list hold it. -/
theorem miss1_any (p : Nat) (a : Option Addr) (n c : Nat) (ss : List BA) (x : BA) (w : World) (hp : w.cell? ⟨p, 0, none⟩ = some (.slice a n c)) (hn : ss.length = n) (hm : n ≤ 1000000000) (h : RdS w a ss) :
    Calls Tryd.prog 33 #[.string x, .pointer (some ⟨p, 0, none⟩)] w fun e w' => e = .returned (.bool (decide (x ∈ ss))) ∧ ∃ q, w' = w.drewN q := by
  have hc := contains_any a n c ss x w hn hm h
  generalize decide (x ∈ ss) = r at hc ⊢
  clear hn h
  go_enter Tryd.func33, Tryd.ntmps33
  go_wp2_with (go_at_call 34; refine hc.mono ?_; rintro e w' ⟨rfl, rfl⟩)
  go_ret
  exact ⟨rfl, 0, rfl⟩

theorem sortWorld_other {w : World} {blk off n : Nat} {dk : Array (List UInt8)} {os : Array Obj} {a : Addr} {v : Value} (hne : a.block ≠ blk) (h : w.cell? a = some v) : (sortWorld encStr w blk off n dk os).cell? a = some v := by
  have hlt := World.block_lt_of_cell? w a h
  unfold sortWorld
  rw [cell?_grow _ _ _ (by show a.block < (putRow _ _ _ _ _).heap.size; rw [size_putRow]; exact hlt), cell?_putRow_other _ _ blk off _ _ (Or.inl hne)]
  exact h

/-- slices.DeleteFunc with that closure: what the captured list holds goes. -/
theorem delete_some (g n c : Nat) (l : List BA) (p : Nat) (a : Option Addr) (m d : Nat) (ss : List BA) (w : World) (h : OS w (.slice (some ⟨g, 0, none⟩) n c) l)
    (hpg : p ≠ g) (hp : w.cell? ⟨p, 0, none⟩ = some (.slice a m d)) (hm : ss.length = m) (hm2 : m ≤ 1000000000) (hs : RdS w a ss) (hsg : ∀ q, a = some q → 0 < ss.length → q.block ≠ g) :
    Calls Tryd.prog 32 #[.slice (some ⟨g, 0, none⟩) n c, .func (.func 33) #[] #[.pointer (some ⟨p, 0, none⟩)]] w fun e w' => ∃ l', e = .returned (.slice (some ⟨g, 0, none⟩) l'.length c) ∧ l' = l.filter (fun s => !decide (s ∈ ss)) ∧ OS w' (.slice (some ⟨g, 0, none⟩) l'.length c) l' ∧ Kept (fun k => k = g) w w' := by
  obtain ⟨rfl, cur, hb, h1, h2, h3, h4⟩ := h.row
  have hle := h.le
  have hH : Holds encStr w g 0 (l.map bl).toArray := holds_of_block hb (by simpa using h4)
  have eg : ∀ args w, (callFunc 33 args).run Tryd.prog w = .ok (.enter 33 args) w := enters_of Tryd.func33 (by kernel_rfl) rfl
  have hpred : PredAt Tryd.prog 33 #[.pointer (some ⟨p, 0, none⟩)] encStr (fun x => decide (lb x ∈ ss)) w := fun W x hbW => by
    show Calls _ _ _ _ _
    exact miss1_any p a m d ss (lb x) W (Below.keep hbW hp) hm hm2 (hs.later hbW)
  have hover : PredOver Tryd.prog 33 #[.pointer (some ⟨p, 0, none⟩)] encStr (fun x => decide (lb x ∈ ss)) g 0 (l.map bl).toArray.size w := fun n os dk x _ => by
    show Calls _ _ _ _ _
    refine miss1_any p a m d ss (lb x) _ (sortWorld_other hpg hp) hm hm2 ?_
    intro k hk
    obtain ⟨b, off, hb, hc⟩ := hs k hk
    exact ⟨b, off, hb, sortWorld_other (a := ⟨b, off + k, none⟩) (hsg ⟨b, off, none⟩ hb (by omega)) hc⟩
  have hc := AnyE.slices_DeleteFunc Tryd.del encStr (fun _ => rfl) (fun x => decide (lb x ∈ ss)) 33 #[.pointer (some ⟨p, 0, none⟩)] eg [] Tryd.zeroValue9 g 0 c (l.map bl).toArray w hpred hover hH (by simpa using hle) (by simpa using h1)
  change Calls Tryd.prog 32 _ _ _ at hc
  rw [List.size_toArray, List.length_map] at hc
  refine hc.mono ?_
  rintro e w' ⟨rfl, q, rfl⟩
  obtain ⟨zs, hzs⟩ : ∃ zs, zs = (l.map bl).filter (fun x => !decide (lb x ∈ ss)) := ⟨_, rfl⟩
  have hzl : zs.map lb = l.filter (fun s => !decide (s ∈ ss)) := by
    rw [hzs, List.filter_map, List.map_map]
    have e1 : lb ∘ bl = id := by funext s; exact lb_bl s
    have e2 : ((fun x => !decide (lb x ∈ ss)) ∘ bl) = fun s => !decide (s ∈ ss) := by
      funext s
      show (!decide (lb (bl s) ∈ ss)) = _
      rw [lb_bl]
    rw [e1, e2, List.map_id]
  have hlen : zs.length ≤ l.length := by
    rw [hzs]
    refine Nat.le_trans (List.length_filter_le _ _) (by simp)
  have htl : (l.map bl).toArray.toList.filter (fun x => !decide (lb x ∈ ss)) = zs := by rw [hzs]
  rw [htl]
  refine ⟨zs.map lb, by rw [List.length_map], hzl, ?_, ?_⟩
  · have := ownsRow_sorted (base := 0) (n := q) (os := #[]) (ss := l.map bl) (ts := zs ++ List.replicate (l.length - zs.length) []) (by simp; omega) (Nat.zero_le _) hb (by simpa using h1) h2 h3
    rw [show ∀ W : World, grow W #[] = W from fun W => by simp [grow]] at this
    refine ⟨by simp, .inr ?_⟩
    rcases this.2 with ⟨e1, _⟩ | ⟨g', cap, cur', hv, hbase, hg, k1, k2, k3, k4⟩
    · cases e1
    · simp only [Value.slice.injEq, Option.some.injEq, Addr.mk.injEq] at hv
      obtain ⟨⟨rfl, _⟩, _, rfl⟩ := hv
      refine ⟨_, _, cur', by simp, Nat.zero_le _, hg, by simp; omega, k2, k3, ?_⟩
      have k5 := congrArg (List.take zs.length) k4
      rw [List.take_take, List.map_append, List.take_append_of_le_length (by simp), List.take_of_length_le (l := List.map encStr _) (by simp)] at k5
      rw [List.length_map, Nat.mul_one, show zs.length = min zs.length ((l.map bl).length * 1) by simp; omega, k5, List.map_map]
      rfl
  · have := (grownBy_sorted (w := w) (g := g) (n := q) (os := #[]) (zs ++ List.replicate (l.length - zs.length) []).toArray)
    rw [show ∀ W : World, grow W #[] = W from fun W => by simp [grow]] at this
    exact (Kept.of_grown this).mono fun k _ e => by simpa using e

theorem delete_nil (g : Nat) (lb : Array Value) (w : World) :
    Calls Tryd.prog 32 #[.slice none 0 0, .func (.func g) #[] lb] w fun e w' => e = .returned (.slice none 0 0) ∧ w' = w := by
  have hc := AnyE.slices_IndexFunc_empty (P := Tryd.prog) (ρ := Tryd.del_ren) { Tryd.del with } none 0 (.func (.func g) #[] lb) w
  change Calls Tryd.prog 50 _ _ _ at hc
  go_enter Tryd.func32, Tryd.ntmps32
  go_wp2_with (go_at_call 50; refine hc.mono ?_; rintro e w' ⟨rfl, rfl⟩)
  go_ret
  exact ⟨rfl, rfl⟩

/-- What is missing: of the order what the list hasn't. -/
def missL (l ss : List BA) : List BA := l.filter (fun s => !decide (s ∈ ss))

/-- What Missing answers. -/
def MissPost (S : List (Nd BA)) (ss : List BA) (w : World) (e : Ending) (w' : World) : Prop :=
  ∃ v l c, LinRes ltB S l c ∧ e = .returned (.tuple #[v, errV c]) ∧ OS w' v (missL l ss) ∧ (∀ k, v.ownBlock = some k → w.heap.size ≤ k) ∧ Below w.heap.size w w'

set_option maxRecDepth 100000 in
set_option maxHeartbeats 1000000 in
theorem missing_any (a : Option Addr) (n c : Nat) (S : List (Nd BA)) (ha : Option Addr) (hn hc : Nat) (ss : List BA) (w : World) (hsn : S.length = n) (hm : n ≤ 1000) (hd : ∀ x ∈ S, x.deps.length ≤ 1000) (h : RdN w a S)
    (hl : ss.length = hn) (hlm : hn ≤ 1000000) (hs : RdS w ha ss) :
    Calls Tryd.prog 13 #[.slice a n c, .slice ha hn hc] w (MissPost S ss w) := by
  have HN := Lib.hid hsn
  have HD := Lib.hid hd
  have HA := Lib.hid h
  have HL := Lib.hid hl
  have HS := Lib.hid hs
  clear hsn hd h hl hs
  go_enter Tryd.func13, Tryd.ntmps13
  go_wp2_with fail
  have HB0 := Lib.hid ((Below.refl w.heap.size w).alloc (Nat.le_refl _) (.cells #[.slice ha hn hc] 25))
  have HBX := Lib.hid (show (w.alloc (.cells #[.slice ha hn hc] 25)).cell? ⟨w.heap.size, 0, none⟩ = some (.slice ha hn hc) by go_simp)
  refine (linear_any a n c S _ HN.out hm HD.out (HA.out.below HB0.out)).mono ?_
  rintro e w2 ⟨v, l, cc, hres, rfl, ho, hnil, hvq, hb⟩
  have HR := Lib.hid hres
  have HB2 := Lib.hid (bMore HB0.out hb (Nat.le_refl _))
  have HBX2 := Lib.hid (Below.keep hb HBX.out)
  obtain ⟨ev, hev⟩ : ∃ ev, ev = errV cc := ⟨_, rfl⟩
  rw [← hev]
  have HEV := Lib.hid hev
  clear hres hb hev
  rcases ho.2 with ⟨rfl, h0⟩ | ⟨g, cap, cur, rfl, _⟩
  · have : l = [] := List.length_eq_zero_iff.1 h0
    subst this
    clear ho hnil hvq h0
    go_wp2_with fail
    refine (delete_nil _ _ w2).mono ?_
    rintro e w3 ⟨rfl, rfl⟩
    go_wp2_with fail
    go_ret2
    exact ⟨_, [], cc, HR.out, by rw [HEV.out]; rfl, World.ownsRow_nil _ _ _ _, by simp [Value.ownBlock], HB2.out⟩
  · have HO := Lib.hid ho
    have hg : w.heap.size < g := by have := hvq g rfl; simp at this; omega
    clear ho hnil hvq
    go_wp2_with fail
    refine (delete_some g _ cap l w.heap.size ha hn hc ss w2 HO.out (by omega) HBX2.out HL.out (by omega) (HS.out.later HB2.out) ?_).mono ?_
    · intro q hq h0
      obtain ⟨b, off, hb, hc⟩ := HS.out 0 h0
      rw [hq] at hb
      cases hb
      have := World.block_lt_of_cell? w _ hc
      simp at this ⊢
      omega
    · rintro e w3 ⟨l', rfl, hl', ho3, hk3⟩
      have HO3 := Lib.hid ho3
      have HK3 := Lib.hid hk3
      have HL3 := Lib.hid hl'
      clear ho3 hk3 hl'
      go_wp2_with fail
      go_ret2
      exact ⟨_, l, cc, HR.out, by rw [HEV.out]; rfl, by unfold missL; rw [← HL3.out]; exact HO3.out, fun k hk => by simp [Value.ownBlock] at hk; omega, HB2.out.trans (HK3.out.below HB2.out.size (fun q hq e => by omega))⟩
end Go.Proofs.YteamkpmkchmhnaaDoor
