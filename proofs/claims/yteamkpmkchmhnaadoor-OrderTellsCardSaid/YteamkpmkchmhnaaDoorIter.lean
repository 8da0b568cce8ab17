/-
  DERIVED: THE SHELF's CONTRACTS AT THIS DUMP, IN PLAIN WORDS (tools/lay-plain.mjs out of 'TrydIter.lean', which tools/lay-shelf.mjs wrote): THE SAME DECLARATIONS UNDER THE SAME NAMES: 'import', 'namespace', 'open', 'def', 'theorem' AND NOTHING ELSE: no command of the shelf's: FOR A HAND-IN. Each laying: the table of numbers ('.._ren') and one theorem, a field a fact of the dump's own or the kernel's comparison; each contract: ONE APPLICATION.
-/
import Derived.Shelf.SlIter.Nil
import Derived.Shelf.SortM.Plain
import Derived.Shelf.SortM.SortNone
import Derived.Ground.GgzProg
import Derived.Ground.SlgmProg
import Derived.Test.YteamkpmkchmhnaaDoorProg
namespace Go.Proofs
open Go.Shelf
def Tryd.keys28_ren : Go.Shelf.Ren := ⟨fun | 7 => 28 | 10 => 47 | n => n, fun | 23 => 60 | 26 => 9 | 3 => 4 | 28 => 65 | 0 => 0 | 27 => 64 | 33 => 71 | 4 => 4 | n => n, fun | n => n⟩
theorem Tryd.keys28 : Go.Proofs.SlLaysZ.n7 Tryd.prog Tryd.keys28_ren := {
  mixed := by kernel_rfl
  f7 := ⟨Tryd.f28.name, by decide, Tryd.func28.trans (congrArg some (by kernel_rfl))⟩
  f10 := ⟨Tryd.f47.name, by decide, Tryd.func47.trans (congrArg some (by kernel_rfl))⟩
  t0 := Tryd.underlying0
  a0 := Tryd.isAgg0
  z0 := Tryd.sizeOf0
  v0 := Tryd.zeroValue0
  t4 := Tryd.underlying4
  a4 := Tryd.isAgg4
  z4 := Tryd.sizeOf4
  v4 := Tryd.zeroValue4
  t23 := Tryd.underlying60
  a23 := Tryd.isAgg60
  z23 := Tryd.sizeOf60
  v23 := Tryd.zeroValue60
  t26 := Tryd.underlying9
  a26 := Tryd.isAgg9
  z26 := Tryd.sizeOf9
  v26 := Tryd.zeroValue9
  t27 := Tryd.underlying64
  a27 := Tryd.isAgg64
  z27 := Tryd.sizeOf64
  v27 := Tryd.zeroValue64
  t28 := Tryd.underlying65
  a28 := Tryd.isAgg65
  z28 := Tryd.sizeOf65
  v28 := Tryd.zeroValue65
  t33 := Tryd.underlying71
  a33 := Tryd.isAgg71
  z33 := Tryd.sizeOf71
  v33 := Tryd.zeroValue71 }
def Tryd.sorted27_ren : Go.Shelf.Ren := ⟨fun | 6 => 27 | 8 => 46 | 9 => 19 | 11 => 65 | 13 => 37 | 12 => 36 | 23 => 61 | 24 => 62 | 14 => 52 | 15 => 53 | 16 => 54 | 17 => 55 | 18 => 56 | 19 => 57 | 20 => 58 | 21 => 59 | 22 => 60 | 25 => 66 | 26 => 67 | 27 => 68 | 28 => 69 | 29 => 70 | 30 => 71 | 31 => 72 | n => n, fun | 26 => 9 | 28 => 65 | 24 => 25 | 0 => 0 | 3 => 3 | 37 => 75 | 48 => 108 | 50 => 110 | 4 => 4 | 40 => 101 | 39 => 100 | 45 => 47 | 5 => 5 | 9 => 9 | 51 => 129 | 55 => 133 | 57 => 135 | 58 => 136 | 33 => 71 | n => n, fun | n => n⟩
theorem Tryd.sorted27 : Go.Proofs.SlLaysZ.n6 Tryd.prog Tryd.sorted27_ren := {
  mixed := by kernel_rfl
  f6 := ⟨Tryd.f27.name, by decide, Tryd.func27.trans (congrArg some (by kernel_rfl))⟩
  f8 := ⟨Tryd.f46.name, by decide, Tryd.func46.trans (congrArg some (by kernel_rfl))⟩
  f11 := ⟨Tryd.f65.name, by decide, Tryd.func65.trans (congrArg some (by kernel_rfl))⟩
  t0 := Tryd.underlying0
  a0 := Tryd.isAgg0
  z0 := Tryd.sizeOf0
  v0 := Tryd.zeroValue0
  t24 := Tryd.underlying25
  a24 := Tryd.isAgg25
  z24 := Tryd.sizeOf25
  v24 := Tryd.zeroValue25
  t26 := Tryd.underlying9
  a26 := Tryd.isAgg9
  z26 := Tryd.sizeOf9
  v26 := Tryd.zeroValue9
  t28 := Tryd.underlying65
  a28 := Tryd.isAgg65
  z28 := Tryd.sizeOf65
  v28 := Tryd.zeroValue65
  i26 := by kernel_rfl }
def Tryd.sort19_ren : Go.Shelf.Ren := ⟨fun | 6 => 19 | 8 => 37 | 9 => 36 | 19 => 61 | 20 => 62 | 21 => 52 | 22 => 53 | 23 => 54 | 24 => 55 | 25 => 56 | 26 => 57 | 27 => 58 | 28 => 59 | 29 => 60 | 36 => 66 | 31 => 67 | 32 => 68 | 37 => 69 | 38 => 70 | 39 => 71 | 41 => 72 | n => n, fun | 27 => 25 | 29 => 9 | 3 => 3 | 32 => 75 | 26 => 25 | 0 => 0 | 44 => 108 | 46 => 110 | 4 => 4 | 36 => 101 | 35 => 100 | 41 => 47 | 5 => 5 | 9 => 9 | 53 => 129 | 57 => 133 | 63 => 135 | 64 => 136 | n => n, fun | n => n⟩
theorem Tryd.sort19 : Go.Proofs.SlLaysM.n6 Tryd.prog Tryd.sort19_ren := {
  mixed := by kernel_rfl
  f6 := ⟨Tryd.f19.name, by decide, Tryd.func19.trans (congrArg some (by kernel_rfl))⟩
  f8 := Tryd.func37.trans (congrArg some (by kernel_rfl))
  f9 := ⟨Tryd.f36.name, by decide, Tryd.func36.trans (congrArg some (by kernel_rfl))⟩
  f19 := Tryd.func61.trans (congrArg some (by kernel_rfl))
  f20 := Tryd.func62.trans (congrArg some (by kernel_rfl))
  f21 := ⟨Tryd.f52.name, by decide, Tryd.func52.trans (congrArg some (by kernel_rfl))⟩
  f22 := ⟨Tryd.f53.name, by decide, Tryd.func53.trans (congrArg some (by kernel_rfl))⟩
  f23 := ⟨Tryd.f54.name, by decide, Tryd.func54.trans (congrArg some (by kernel_rfl))⟩
  f24 := ⟨Tryd.f55.name, by decide, Tryd.func55.trans (congrArg some (by kernel_rfl))⟩
  f25 := ⟨Tryd.f56.name, by decide, Tryd.func56.trans (congrArg some (by kernel_rfl))⟩
  f26 := ⟨Tryd.f57.name, by decide, Tryd.func57.trans (congrArg some (by kernel_rfl))⟩
  f27 := ⟨Tryd.f58.name, by decide, Tryd.func58.trans (congrArg some (by kernel_rfl))⟩
  f28 := ⟨Tryd.f59.name, by decide, Tryd.func59.trans (congrArg some (by kernel_rfl))⟩
  f29 := ⟨Tryd.f60.name, by decide, Tryd.func60.trans (congrArg some (by kernel_rfl))⟩
  f31 := Tryd.func67.trans (congrArg some (by kernel_rfl))
  f32 := Tryd.func68.trans (congrArg some (by kernel_rfl))
  f36 := ⟨Tryd.f66.name, by decide, Tryd.func66.trans (congrArg some (by kernel_rfl))⟩
  f37 := ⟨Tryd.f69.name, by decide, Tryd.func69.trans (congrArg some (by kernel_rfl))⟩
  f38 := ⟨Tryd.f70.name, by decide, Tryd.func70.trans (congrArg some (by kernel_rfl))⟩
  f39 := ⟨Tryd.f71.name, by decide, Tryd.func71.trans (congrArg some (by kernel_rfl))⟩
  f41 := ⟨Tryd.f72.name, by decide, Tryd.func72.trans (congrArg some (by kernel_rfl))⟩
  t0 := Tryd.underlying0
  a0 := Tryd.isAgg0
  z0 := Tryd.sizeOf0
  v0 := Tryd.zeroValue0
  t3 := Tryd.underlying3
  a3 := Tryd.isAgg3
  z3 := Tryd.sizeOf3
  v3 := Tryd.zeroValue3
  t4 := Tryd.underlying4
  a4 := Tryd.isAgg4
  z4 := Tryd.sizeOf4
  v4 := Tryd.zeroValue4
  t5 := Tryd.underlying5
  a5 := Tryd.isAgg5
  z5 := Tryd.sizeOf5
  v5 := Tryd.zeroValue5
  t9 := Tryd.underlying9
  a9 := Tryd.isAgg9
  z9 := Tryd.sizeOf9
  v9 := Tryd.zeroValue9
  t26 := Tryd.underlying25
  a26 := Tryd.isAgg25
  z26 := Tryd.sizeOf25
  v26 := Tryd.zeroValue25
  t27 := Tryd.underlying25
  a27 := Tryd.isAgg25
  z27 := Tryd.sizeOf25
  v27 := Tryd.zeroValue25
  t29 := Tryd.underlying9
  a29 := Tryd.isAgg9
  z29 := Tryd.sizeOf9
  v29 := Tryd.zeroValue9
  t32 := Tryd.underlying75
  a32 := Tryd.isAgg75
  z32 := Tryd.sizeOf75
  v32 := Tryd.zeroValue75
  t35 := Tryd.underlying100
  a35 := Tryd.isAgg100
  z35 := Tryd.sizeOf100
  v35 := Tryd.zeroValue100
  t36 := Tryd.underlying101
  a36 := Tryd.isAgg101
  z36 := Tryd.sizeOf101
  v36 := Tryd.zeroValue101
  t41 := Tryd.underlying47
  a41 := Tryd.isAgg47
  z41 := Tryd.sizeOf47
  v41 := Tryd.zeroValue47
  t44 := Tryd.underlying108
  a44 := Tryd.isAgg108
  z44 := Tryd.sizeOf108
  v44 := Tryd.zeroValue108
  t46 := Tryd.underlying110
  a46 := Tryd.isAgg110
  z46 := Tryd.sizeOf110
  v46 := Tryd.zeroValue110
  t53 := Tryd.underlying129
  a53 := Tryd.isAgg129
  z53 := Tryd.sizeOf129
  v53 := Tryd.zeroValue129
  t57 := Tryd.underlying133
  a57 := Tryd.isAgg133
  z57 := Tryd.sizeOf133
  v57 := Tryd.zeroValue133
  t63 := Tryd.underlying135
  a63 := Tryd.isAgg135
  z63 := Tryd.sizeOf135
  v63 := Tryd.zeroValue135
  t64 := Tryd.underlying136
  a64 := Tryd.isAgg136
  z64 := Tryd.sizeOf136
  v64 := Tryd.zeroValue136 }
open Go.RowKit Go.Maps Go.Sort in
/-- slices.Sort's two contracts at this dump, at the fence that asks nothing. -/
theorem Tryd.sorts27 (m : Nat) : AnyZ.SortsIn Tryd.prog Tryd.sorted27_ren Fence.wide m :=
  ⟨fun blk off cap ss W hH hblk hsz => callsIn_wide.2 (AnyM.slices_Sort_string Tryd.sort19 blk off cap ss W hH hblk hsz),
   fun p cap W => callsIn_wide.2 (AnyM.slices_Sort_string_none Tryd.sort19 p cap W)⟩

open Go.RowKit Go.Maps Go.Sort in
/-- **maps.Keys[map[string]bool,string,bool], at whatever map, the nil one too:** a function value over ONE NEW BLOCK, which holds the map. -/
theorem Tryd.maps_Keys_28 (mb : Option Nat) (W : World) : CallsIn Fence.wide 5 Tryd.prog 28 #[.map mb] W fun e w' => e = .returned (.func (.func 47) #[] #[.pointer (some ⟨W.heap.size, 0, none⟩)]) ∧ w' = W.alloc (.cells #[.map mb] 60) :=
  AnyZ.keys_in Tryd.keys28 Fence.wide 5 trivial rfl mb W

open Go.RowKit Go.Maps Go.Sort in
/-- **slices.Sorted[string] AT WHAT maps.Keys[map[string]bool,string,bool] HANDED BACK FOR A MAP THAT IS NOT nil** ('w': the world AHEAD of maps.Keys' call): A NEW SLICE THAT HOLDS THE MAP's KEYS, SORTED; nil just where it has none; nothing that lay before has turned. -/
theorem Tryd.slices_Sorted_keys_27_28 {H : Type} (b nn : Nat) (D0 : DataW H) (R : Value → Option (DataW H × List MemPlace)) (w : World) (hown : w.ownsMap Tryd.prog 9 R b nn D0) (hmax : Maps.size D0 ≤ maxLen) (hbytes : Maps.size D0 * 16 ≤ 140737488355328) :
    CallsIn Fence.wide 5 Tryd.prog 27 #[.func (.func 47) #[] #[.pointer (some ⟨w.heap.size, 0, none⟩)]] (w.alloc (.cells #[.map (some b)] 60)) fun e w' => ∃ (v : Value) (ss : List (List UInt8)), e = .returned v ∧ ss.Perm (strKeys D0) ∧
      w'.ownsRow (w.alloc (.cells #[.map (some b)] 60)).heap.size 9 1 v ss.length ((ss.mergeSort (fun x y => decide (x ≤ y))).map encStr) ∧ (v = .slice none 0 0 ↔ ss = []) ∧ Below (w.alloc (.cells #[.map (some b)] 60)).heap.size (w.alloc (.cells #[.map (some b)] 60)) w' := by
  have hbl := hown.lt
  have hseq : SeqGives Fence.wide 2 Tryd.prog 47 #[.pointer (some ⟨w.heap.size, 0, none⟩)] encStr (fun ss => ss.Perm (strKeys D0)) (Maps.size D0) (w.alloc (.cells #[.map (some b)] 60)) :=
    AnyZ.keys_gives (ρ := Tryd.keys28_ren) { Tryd.keys28 with } Fence.wide _ trivial rfl (by omega) w.heap.size b nn D0 _ (by simp) (by simp) (by
      obtain ⟨es, clock, hb, Ft, hs, hD⟩ := hown
      exact ⟨es, clock, (Below.heap_alloc _ _ b hbl).trans hb, Ft, hs, hD⟩)
  exact AnyZ.sorted_in Tryd.sorted27 Fence.wide 5 trivial trivial trivial trivial rfl (by omega) (Tryd.sorts27 _) (enters_of Tryd.func19 (by kernel_rfl) rfl) 47 #[.pointer (some ⟨w.heap.size, 0, none⟩)] trivial (enters_of Tryd.func47 (by kernel_rfl) rfl) _ _ hmax hbytes _ hseq

open Go.RowKit Go.Maps Go.Sort in
/-- **.. AND FOR THE nil MAP: nil.** -/
theorem Tryd.slices_Sorted_keys_nil_27_28 (w : World) :
    CallsIn Fence.wide 5 Tryd.prog 27 #[.func (.func 47) #[] #[.pointer (some ⟨w.heap.size, 0, none⟩)]] (w.alloc (.cells #[.map none] 60)) fun e w' => ∃ (v : Value) (ss : List (List UInt8)), e = .returned v ∧ ss = [] ∧
      w'.ownsRow (w.alloc (.cells #[.map none] 60)).heap.size 9 1 v ss.length ((ss.mergeSort (fun x y => decide (x ≤ y))).map encStr) ∧ (v = .slice none 0 0 ↔ ss = []) ∧ Below (w.alloc (.cells #[.map none] 60)).heap.size (w.alloc (.cells #[.map none] 60)) w' := by
  have hseq : SeqGives Fence.wide 2 Tryd.prog 47 #[.pointer (some ⟨w.heap.size, 0, none⟩)] encStr (fun ss : List (List UInt8) => ss = []) 0 (w.alloc (.cells #[.map none] 60)) :=
    AnyZ.keys_gives_nil (ρ := Tryd.keys28_ren) { Tryd.keys28 with } Fence.wide _ trivial rfl w.heap.size _ (by simp) (by simp)
  exact AnyZ.sorted_in Tryd.sorted27 Fence.wide 5 trivial trivial trivial trivial rfl (by omega) (Tryd.sorts27 _) (enters_of Tryd.func19 (by kernel_rfl) rfl) 47 #[.pointer (some ⟨w.heap.size, 0, none⟩)] trivial (enters_of Tryd.func47 (by kernel_rfl) rfl) _ 0 (Nat.zero_le _) (by omega) _ hseq
end Go.Proofs
