/-
  DERIVED: THE SHELF's CONTRACTS AT THIS DUMP, IN PLAIN WORDS (tools/lay-plain.mjs out of 'TrydIterS.lean', which tools/lay-shelf.mjs wrote): THE SAME DECLARATIONS UNDER THE SAME NAMES: 'import', 'namespace', 'open', 'def', 'theorem' AND NOTHING ELSE: no command of the shelf's: FOR A HAND-IN. Each laying: the table of numbers ('.._ren') and one theorem, a field a fact of the dump's own or the kernel's comparison; each contract: ONE APPLICATION.
-/
import Derived.Shelf.SlIter.Nil
import Derived.Shelf.SortM.Plain
import Derived.Shelf.SortM.SortNone
import Derived.Ground.GgzProg
import Derived.Ground.SlgmProg
import Derived.Test.YtflgagglkkehiaaDoorProg
namespace Go.Proofs
open Go.Shelf
def Tryd.keys39_ren : Go.Shelf.Ren := ⟨fun | 7 => 39 | 10 => 56 | n => n, fun | 23 => 66 | 26 => 9 | 3 => 9 | 28 => 81 | 0 => 0 | 27 => 80 | 33 => 89 | 4 => 4 | n => n, fun | n => n⟩
theorem Tryd.keys39 : Go.Proofs.SlLaysZ.n7 Tryd.prog Tryd.keys39_ren := {
  mixed := by kernel_rfl
  f7 := ⟨Tryd.f39.name, by decide, Tryd.func39.trans (congrArg some (by kernel_rfl))⟩
  f10 := ⟨Tryd.f56.name, by decide, Tryd.func56.trans (congrArg some (by kernel_rfl))⟩
  t0 := Tryd.underlying0
  a0 := Tryd.isAgg0
  z0 := Tryd.sizeOf0
  v0 := Tryd.zeroValue0
  t4 := Tryd.underlying4
  a4 := Tryd.isAgg4
  z4 := Tryd.sizeOf4
  v4 := Tryd.zeroValue4
  t23 := Tryd.underlying66
  a23 := Tryd.isAgg66
  z23 := Tryd.sizeOf66
  v23 := Tryd.zeroValue66
  t26 := Tryd.underlying9
  a26 := Tryd.isAgg9
  z26 := Tryd.sizeOf9
  v26 := Tryd.zeroValue9
  t27 := Tryd.underlying80
  a27 := Tryd.isAgg80
  z27 := Tryd.sizeOf80
  v27 := Tryd.zeroValue80
  t28 := Tryd.underlying81
  a28 := Tryd.isAgg81
  z28 := Tryd.sizeOf81
  v28 := Tryd.zeroValue81
  t33 := Tryd.underlying89
  a33 := Tryd.isAgg89
  z33 := Tryd.sizeOf89
  v33 := Tryd.zeroValue89 }
def Tryd.sorted38_ren : Go.Shelf.Ren := ⟨fun | 6 => 38 | 8 => 54 | 9 => 55 | 11 => 65 | 13 => 67 | 12 => 66 | 23 => 84 | 24 => 85 | 14 => 75 | 15 => 76 | 16 => 77 | 17 => 78 | 18 => 79 | 19 => 80 | 20 => 81 | 21 => 82 | 22 => 83 | 25 => 90 | 26 => 91 | 27 => 92 | 28 => 93 | 29 => 94 | 30 => 95 | 31 => 99 | n => n, fun | 26 => 9 | 28 => 81 | 24 => 43 | 0 => 0 | 3 => 3 | 37 => 101 | 48 => 118 | 50 => 120 | 4 => 4 | 40 => 111 | 39 => 110 | 45 => 115 | 5 => 5 | 9 => 9 | 51 => 125 | 55 => 129 | 57 => 132 | 58 => 133 | 33 => 89 | n => n, fun | n => n⟩
theorem Tryd.sorted38 : Go.Proofs.SlLaysZ.n6 Tryd.prog Tryd.sorted38_ren := {
  mixed := by kernel_rfl
  f6 := ⟨Tryd.f38.name, by decide, Tryd.func38.trans (congrArg some (by kernel_rfl))⟩
  f8 := ⟨Tryd.f54.name, by decide, Tryd.func54.trans (congrArg some (by kernel_rfl))⟩
  f11 := ⟨Tryd.f65.name, by decide, Tryd.func65.trans (congrArg some (by kernel_rfl))⟩
  t0 := Tryd.underlying0
  a0 := Tryd.isAgg0
  z0 := Tryd.sizeOf0
  v0 := Tryd.zeroValue0
  t24 := Tryd.underlying43
  a24 := Tryd.isAgg43
  z24 := Tryd.sizeOf43
  v24 := Tryd.zeroValue43
  t26 := Tryd.underlying9
  a26 := Tryd.isAgg9
  z26 := Tryd.sizeOf9
  v26 := Tryd.zeroValue9
  t28 := Tryd.underlying81
  a28 := Tryd.isAgg81
  z28 := Tryd.sizeOf81
  v28 := Tryd.zeroValue81
  i26 := by kernel_rfl }
def Tryd.sort55_ren : Go.Shelf.Ren := ⟨fun | 6 => 55 | 8 => 67 | 9 => 66 | 19 => 84 | 20 => 85 | 21 => 75 | 22 => 76 | 23 => 77 | 24 => 78 | 25 => 79 | 26 => 80 | 27 => 81 | 28 => 82 | 29 => 83 | 36 => 90 | 31 => 91 | 32 => 92 | 37 => 93 | 38 => 94 | 39 => 95 | 41 => 99 | n => n, fun | 27 => 43 | 29 => 9 | 3 => 3 | 32 => 101 | 26 => 43 | 0 => 0 | 44 => 118 | 46 => 120 | 4 => 4 | 36 => 111 | 35 => 110 | 41 => 115 | 5 => 5 | 9 => 9 | 53 => 125 | 57 => 129 | 63 => 132 | 64 => 133 | n => n, fun | n => n⟩
theorem Tryd.sort55 : Go.Proofs.SlLaysM.n6 Tryd.prog Tryd.sort55_ren := {
  mixed := by kernel_rfl
  f6 := ⟨Tryd.f55.name, by decide, Tryd.func55.trans (congrArg some (by kernel_rfl))⟩
  f8 := Tryd.func67.trans (congrArg some (by kernel_rfl))
  f9 := ⟨Tryd.f66.name, by decide, Tryd.func66.trans (congrArg some (by kernel_rfl))⟩
  f19 := Tryd.func84.trans (congrArg some (by kernel_rfl))
  f20 := Tryd.func85.trans (congrArg some (by kernel_rfl))
  f21 := ⟨Tryd.f75.name, by decide, Tryd.func75.trans (congrArg some (by kernel_rfl))⟩
  f22 := ⟨Tryd.f76.name, by decide, Tryd.func76.trans (congrArg some (by kernel_rfl))⟩
  f23 := ⟨Tryd.f77.name, by decide, Tryd.func77.trans (congrArg some (by kernel_rfl))⟩
  f24 := ⟨Tryd.f78.name, by decide, Tryd.func78.trans (congrArg some (by kernel_rfl))⟩
  f25 := ⟨Tryd.f79.name, by decide, Tryd.func79.trans (congrArg some (by kernel_rfl))⟩
  f26 := ⟨Tryd.f80.name, by decide, Tryd.func80.trans (congrArg some (by kernel_rfl))⟩
  f27 := ⟨Tryd.f81.name, by decide, Tryd.func81.trans (congrArg some (by kernel_rfl))⟩
  f28 := ⟨Tryd.f82.name, by decide, Tryd.func82.trans (congrArg some (by kernel_rfl))⟩
  f29 := ⟨Tryd.f83.name, by decide, Tryd.func83.trans (congrArg some (by kernel_rfl))⟩
  f31 := Tryd.func91.trans (congrArg some (by kernel_rfl))
  f32 := Tryd.func92.trans (congrArg some (by kernel_rfl))
  f36 := ⟨Tryd.f90.name, by decide, Tryd.func90.trans (congrArg some (by kernel_rfl))⟩
  f37 := ⟨Tryd.f93.name, by decide, Tryd.func93.trans (congrArg some (by kernel_rfl))⟩
  f38 := ⟨Tryd.f94.name, by decide, Tryd.func94.trans (congrArg some (by kernel_rfl))⟩
  f39 := ⟨Tryd.f95.name, by decide, Tryd.func95.trans (congrArg some (by kernel_rfl))⟩
  f41 := ⟨Tryd.f99.name, by decide, Tryd.func99.trans (congrArg some (by kernel_rfl))⟩
  t0 := Tryd.underlying0
  a0 := Tryd.isAgg0
  z0 := Tryd.sizeOf0
  v0 := Tryd.zeroValue0
  t3 := Tryd.underlying3
  a3 := Tryd.isAgg3
  z3 := Tryd.sizeOf3
  v3 := Tryd.zeroValue3
  t4 := Tryd.underlying4
  a4 := Tryd.isAgg4
  z4 := Tryd.sizeOf4
  v4 := Tryd.zeroValue4
  t5 := Tryd.underlying5
  a5 := Tryd.isAgg5
  z5 := Tryd.sizeOf5
  v5 := Tryd.zeroValue5
  t9 := Tryd.underlying9
  a9 := Tryd.isAgg9
  z9 := Tryd.sizeOf9
  v9 := Tryd.zeroValue9
  t26 := Tryd.underlying43
  a26 := Tryd.isAgg43
  z26 := Tryd.sizeOf43
  v26 := Tryd.zeroValue43
  t27 := Tryd.underlying43
  a27 := Tryd.isAgg43
  z27 := Tryd.sizeOf43
  v27 := Tryd.zeroValue43
  t29 := Tryd.underlying9
  a29 := Tryd.isAgg9
  z29 := Tryd.sizeOf9
  v29 := Tryd.zeroValue9
  t32 := Tryd.underlying101
  a32 := Tryd.isAgg101
  z32 := Tryd.sizeOf101
  v32 := Tryd.zeroValue101
  t35 := Tryd.underlying110
  a35 := Tryd.isAgg110
  z35 := Tryd.sizeOf110
  v35 := Tryd.zeroValue110
  t36 := Tryd.underlying111
  a36 := Tryd.isAgg111
  z36 := Tryd.sizeOf111
  v36 := Tryd.zeroValue111
  t41 := Tryd.underlying115
  a41 := Tryd.isAgg115
  z41 := Tryd.sizeOf115
  v41 := Tryd.zeroValue115
  t44 := Tryd.underlying118
  a44 := Tryd.isAgg118
  z44 := Tryd.sizeOf118
  v44 := Tryd.zeroValue118
  t46 := Tryd.underlying120
  a46 := Tryd.isAgg120
  z46 := Tryd.sizeOf120
  v46 := Tryd.zeroValue120
  t53 := Tryd.underlying125
  a53 := Tryd.isAgg125
  z53 := Tryd.sizeOf125
  v53 := Tryd.zeroValue125
  t57 := Tryd.underlying129
  a57 := Tryd.isAgg129
  z57 := Tryd.sizeOf129
  v57 := Tryd.zeroValue129
  t63 := Tryd.underlying132
  a63 := Tryd.isAgg132
  z63 := Tryd.sizeOf132
  v63 := Tryd.zeroValue132
  t64 := Tryd.underlying133
  a64 := Tryd.isAgg133
  z64 := Tryd.sizeOf133
  v64 := Tryd.zeroValue133 }
open Go.RowKit Go.Maps Go.Sort


/-- slices.Sort's two contracts at this dump, at the fence that asks nothing. -/
theorem Tryd.sorts38 (m : Nat) : AnyZ.SortsIn Tryd.prog Tryd.sorted38_ren Fence.wide m :=
  ⟨fun blk off cap ss W hH hblk hsz => callsIn_wide.2 (AnyM.slices_Sort_string Tryd.sort55 blk off cap ss W hH hblk hsz),
   fun p cap W => callsIn_wide.2 (AnyM.slices_Sort_string_none Tryd.sort55 p cap W)⟩

/-- **maps.Keys[map[string]string,string,string], at whatever map, the nil one too:** a function value over ONE NEW BLOCK, which holds the map. -/
theorem Tryd.maps_Keys_39 (mb : Option Nat) (W : World) : CallsIn Fence.wide 5 Tryd.prog 39 #[.map mb] W fun e w' => e = .returned (.func (.func 56) #[] #[.pointer (some ⟨W.heap.size, 0, none⟩)]) ∧ w' = W.alloc (.cells #[.map mb] 66) :=
  AnyZ.keys_in Tryd.keys39 Fence.wide 5 trivial rfl mb W

set_option maxHeartbeats 1000000 in
/-- **slices.Sorted[string] AT WHAT maps.Keys[map[string]string,string,string] HANDED BACK FOR A MAP THAT IS NOT nil** ('w': the world AHEAD of maps.Keys' call): A NEW SLICE THAT HOLDS THE MAP's KEYS, SORTED; nil just where it has none; nothing that lay before has turned. -/
theorem Tryd.slices_Sorted_keys_38_39 {H : Type} (b nn : Nat) (D0 : DataW H) (R : Value → Option (DataW H × List MemPlace)) (w : World) (hown : w.ownsMap Tryd.prog 9 R b nn D0) (hmax : Maps.size D0 ≤ maxLen) (hbytes : Maps.size D0 * 16 ≤ 140737488355328) :
    CallsIn Fence.wide 5 Tryd.prog 38 #[.func (.func 56) #[] #[.pointer (some ⟨w.heap.size, 0, none⟩)]] (w.alloc (.cells #[.map (some b)] 66)) fun e w' => ∃ (v : Value) (ss : List (List UInt8)), e = .returned v ∧ ss.Perm (strKeys D0) ∧
      w'.ownsRow (w.alloc (.cells #[.map (some b)] 66)).heap.size 9 1 v ss.length ((ss.mergeSort (fun x y => decide (x ≤ y))).map encStr) ∧ (v = .slice none 0 0 ↔ ss = []) ∧ Below (w.alloc (.cells #[.map (some b)] 66)).heap.size (w.alloc (.cells #[.map (some b)] 66)) w' := by
  have hbl := hown.lt
  have hseq : SeqGives Fence.wide 2 Tryd.prog 56 #[.pointer (some ⟨w.heap.size, 0, none⟩)] encStr (fun ss => ss.Perm (strKeys D0)) (Maps.size D0) (w.alloc (.cells #[.map (some b)] 66)) :=
    AnyZ.keys_gives (ρ := Tryd.keys39_ren) { Tryd.keys39 with } Fence.wide _ trivial rfl (by omega) w.heap.size b nn D0 _ (by simp) (by simp) (by
      obtain ⟨es, clock, hb, Ft, hs, hD⟩ := hown
      exact ⟨es, clock, (Below.heap_alloc _ _ b hbl).trans hb, Ft, hs, hD⟩)
  exact AnyZ.sorted_in Tryd.sorted38 Fence.wide 5 trivial trivial trivial trivial rfl (by omega) (Tryd.sorts38 _) (enters_of Tryd.func55 (by kernel_rfl) rfl) 56 #[.pointer (some ⟨w.heap.size, 0, none⟩)] trivial (enters_of Tryd.func56 (by kernel_rfl) rfl) _ _ hmax hbytes _ hseq

set_option maxHeartbeats 1000000 in
/-- **.. AND FOR THE nil MAP: nil.** -/
theorem Tryd.slices_Sorted_keys_nil_38_39 (w : World) :
    CallsIn Fence.wide 5 Tryd.prog 38 #[.func (.func 56) #[] #[.pointer (some ⟨w.heap.size, 0, none⟩)]] (w.alloc (.cells #[.map none] 66)) fun e w' => ∃ (v : Value) (ss : List (List UInt8)), e = .returned v ∧ ss = [] ∧
      w'.ownsRow (w.alloc (.cells #[.map none] 66)).heap.size 9 1 v ss.length ((ss.mergeSort (fun x y => decide (x ≤ y))).map encStr) ∧ (v = .slice none 0 0 ↔ ss = []) ∧ Below (w.alloc (.cells #[.map none] 66)).heap.size (w.alloc (.cells #[.map none] 66)) w' := by
  have hseq : SeqGives Fence.wide 2 Tryd.prog 56 #[.pointer (some ⟨w.heap.size, 0, none⟩)] encStr (fun ss : List (List UInt8) => ss = []) 0 (w.alloc (.cells #[.map none] 66)) :=
    AnyZ.keys_gives_nil (ρ := Tryd.keys39_ren) { Tryd.keys39 with } Fence.wide _ trivial rfl w.heap.size _ (by simp) (by simp)
  exact AnyZ.sorted_in Tryd.sorted38 Fence.wide 5 trivial trivial trivial trivial rfl (by omega) (Tryd.sorts38 _) (enters_of Tryd.func55 (by kernel_rfl) rfl) 56 #[.pointer (some ⟨w.heap.size, 0, none⟩)] trivial (enters_of Tryd.func56 (by kernel_rfl) rfl) _ 0 (Nat.zero_le _) (by omega) _ hseq



end Go.Proofs
