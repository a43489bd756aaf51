/-
  Parts of the proof: Iter.
-/
import Derived.Shelf.SlIter.Nil
import Derived.Shelf.SortM.Plain
import Derived.Shelf.SortM.SortNone
import Derived.Ground.GgzProg
import Derived.Ground.SlgmProg
import Derived.Test.YtbpgbhmibmcbnaaGreatDoorProg
/-
  DERIVED. MADE BY PROGRAM (lay-iter.mjs) off ytbpgbhmibmcbnaagreatdoor.cut.gsa: THE SHELF's CONTRACTS ON 'slices.Sorted(maps.Keys(m))' LAID AT THIS DUMP: 1 map type. NO WALK OF THE LIBRARY's TEXT: each is one application of a contract over any P and ρ (Derived/Shelf/SlIter/, Derived/Shelf/SortM/).
-/
namespace Go.Proofs
open Go.RowKit Go.Maps Go.Sort Go.Shelf

def Tryz.keys55_ren : Go.Shelf.Ren := ⟨fun | 7 => 55 | 10 => 96 | n => n, fun | 23 => 86 | 26 => 9 | 3 => 22 | 28 => 128 | 0 => 0 | 27 => 127 | 33 => 55 | 4 => 4 | n => n, fun | n => n⟩
theorem Tryz.keys55 : Go.Proofs.SlLaysZ.n7 Tryz.prog Tryz.keys55_ren := {
  mixed := by kernel_rfl
  f7 := ⟨Tryz.f55.name, by decide, Tryz.func55.trans (congrArg some (by kernel_rfl))⟩
  f10 := ⟨Tryz.f96.name, by decide, Tryz.func96.trans (congrArg some (by kernel_rfl))⟩
  t0 := Tryz.underlying0
  a0 := Tryz.isAgg0
  z0 := Tryz.sizeOf0
  v0 := Tryz.zeroValue0
  t4 := Tryz.underlying4
  a4 := Tryz.isAgg4
  z4 := Tryz.sizeOf4
  v4 := Tryz.zeroValue4
  t23 := Tryz.underlying86
  a23 := Tryz.isAgg86
  z23 := Tryz.sizeOf86
  v23 := Tryz.zeroValue86
  t26 := Tryz.underlying9
  a26 := Tryz.isAgg9
  z26 := Tryz.sizeOf9
  v26 := Tryz.zeroValue9
  t27 := Tryz.underlying127
  a27 := Tryz.isAgg127
  z27 := Tryz.sizeOf127
  v27 := Tryz.zeroValue127
  t28 := Tryz.underlying128
  a28 := Tryz.isAgg128
  z28 := Tryz.sizeOf128
  v28 := Tryz.zeroValue128
  t33 := Tryz.underlying55
  a33 := Tryz.isAgg55
  z33 := Tryz.sizeOf55
  v33 := Tryz.zeroValue55 }
def Tryz.sorted54_ren : Go.Shelf.Ren := ⟨fun | 6 => 54 | 8 => 94 | 9 => 95 | 11 => 136 | 13 => 108 | 12 => 137 | 23 => 154 | 24 => 155 | 14 => 188 | 15 => 189 | 16 => 190 | 17 => 191 | 18 => 192 | 19 => 193 | 20 => 194 | 21 => 195 | 22 => 196 | 25 => 225 | 26 => 200 | 27 => 201 | 28 => 226 | 29 => 227 | 30 => 228 | 31 => 238 | n => n, fun | 26 => 9 | 28 => 128 | 24 => 22 | 0 => 0 | 3 => 3 | 37 => 61 | 48 => 245 | 50 => 247 | 4 => 4 | 40 => 239 | 39 => 238 | 45 => 222 | 5 => 5 | 9 => 9 | 51 => 272 | 55 => 276 | 57 => 297 | 58 => 298 | 33 => 55 | n => n, fun | n => n⟩
theorem Tryz.sorted54 : Go.Proofs.SlLaysZ.n6 Tryz.prog Tryz.sorted54_ren := {
  mixed := by kernel_rfl
  f6 := ⟨Tryz.f54.name, by decide, Tryz.func54.trans (congrArg some (by kernel_rfl))⟩
  f8 := ⟨Tryz.f94.name, by decide, Tryz.func94.trans (congrArg some (by kernel_rfl))⟩
  f11 := ⟨Tryz.f136.name, by decide, Tryz.func136.trans (congrArg some (by kernel_rfl))⟩
  t0 := Tryz.underlying0
  a0 := Tryz.isAgg0
  z0 := Tryz.sizeOf0
  v0 := Tryz.zeroValue0
  t24 := Tryz.underlying22
  a24 := Tryz.isAgg22
  z24 := Tryz.sizeOf22
  v24 := Tryz.zeroValue22
  t26 := Tryz.underlying9
  a26 := Tryz.isAgg9
  z26 := Tryz.sizeOf9
  v26 := Tryz.zeroValue9
  t28 := Tryz.underlying128
  a28 := Tryz.isAgg128
  z28 := Tryz.sizeOf128
  v28 := Tryz.zeroValue128
  i26 := by kernel_rfl }
def Tryz.sort95_ren : Go.Shelf.Ren := ⟨fun | 6 => 95 | 8 => 108 | 9 => 137 | 19 => 154 | 20 => 155 | 21 => 188 | 22 => 189 | 23 => 190 | 24 => 191 | 25 => 192 | 26 => 193 | 27 => 194 | 28 => 195 | 29 => 196 | 36 => 225 | 31 => 200 | 32 => 201 | 37 => 226 | 38 => 227 | 39 => 228 | 41 => 238 | n => n, fun | 27 => 22 | 29 => 9 | 3 => 3 | 32 => 61 | 26 => 22 | 0 => 0 | 44 => 245 | 46 => 247 | 4 => 4 | 36 => 239 | 35 => 238 | 41 => 222 | 5 => 5 | 9 => 9 | 53 => 272 | 57 => 276 | 63 => 297 | 64 => 298 | n => n, fun | n => n⟩
theorem Tryz.sort95 : Go.Proofs.SlLaysM.n6 Tryz.prog Tryz.sort95_ren := {
  mixed := by kernel_rfl
  f6 := ⟨Tryz.f95.name, by decide, Tryz.func95.trans (congrArg some (by kernel_rfl))⟩
  f8 := Tryz.func108.trans (congrArg some (by kernel_rfl))
  f9 := ⟨Tryz.f137.name, by decide, Tryz.func137.trans (congrArg some (by kernel_rfl))⟩
  f19 := Tryz.func154.trans (congrArg some (by kernel_rfl))
  f20 := Tryz.func155.trans (congrArg some (by kernel_rfl))
  f21 := ⟨Tryz.f188.name, by decide, Tryz.func188.trans (congrArg some (by kernel_rfl))⟩
  f22 := ⟨Tryz.f189.name, by decide, Tryz.func189.trans (congrArg some (by kernel_rfl))⟩
  f23 := ⟨Tryz.f190.name, by decide, Tryz.func190.trans (congrArg some (by kernel_rfl))⟩
  f24 := ⟨Tryz.f191.name, by decide, Tryz.func191.trans (congrArg some (by kernel_rfl))⟩
  f25 := ⟨Tryz.f192.name, by decide, Tryz.func192.trans (congrArg some (by kernel_rfl))⟩
  f26 := ⟨Tryz.f193.name, by decide, Tryz.func193.trans (congrArg some (by kernel_rfl))⟩
  f27 := ⟨Tryz.f194.name, by decide, Tryz.func194.trans (congrArg some (by kernel_rfl))⟩
  f28 := ⟨Tryz.f195.name, by decide, Tryz.func195.trans (congrArg some (by kernel_rfl))⟩
  f29 := ⟨Tryz.f196.name, by decide, Tryz.func196.trans (congrArg some (by kernel_rfl))⟩
  f31 := Tryz.func200.trans (congrArg some (by kernel_rfl))
  f32 := Tryz.func201.trans (congrArg some (by kernel_rfl))
  f36 := ⟨Tryz.f225.name, by decide, Tryz.func225.trans (congrArg some (by kernel_rfl))⟩
  f37 := ⟨Tryz.f226.name, by decide, Tryz.func226.trans (congrArg some (by kernel_rfl))⟩
  f38 := ⟨Tryz.f227.name, by decide, Tryz.func227.trans (congrArg some (by kernel_rfl))⟩
  f39 := ⟨Tryz.f228.name, by decide, Tryz.func228.trans (congrArg some (by kernel_rfl))⟩
  f41 := ⟨Tryz.f238.name, by decide, Tryz.func238.trans (congrArg some (by kernel_rfl))⟩
  t0 := Tryz.underlying0
  a0 := Tryz.isAgg0
  z0 := Tryz.sizeOf0
  v0 := Tryz.zeroValue0
  t3 := Tryz.underlying3
  a3 := Tryz.isAgg3
  z3 := Tryz.sizeOf3
  v3 := Tryz.zeroValue3
  t4 := Tryz.underlying4
  a4 := Tryz.isAgg4
  z4 := Tryz.sizeOf4
  v4 := Tryz.zeroValue4
  t5 := Tryz.underlying5
  a5 := Tryz.isAgg5
  z5 := Tryz.sizeOf5
  v5 := Tryz.zeroValue5
  t9 := Tryz.underlying9
  a9 := Tryz.isAgg9
  z9 := Tryz.sizeOf9
  v9 := Tryz.zeroValue9
  t26 := Tryz.underlying22
  a26 := Tryz.isAgg22
  z26 := Tryz.sizeOf22
  v26 := Tryz.zeroValue22
  t27 := Tryz.underlying22
  a27 := Tryz.isAgg22
  z27 := Tryz.sizeOf22
  v27 := Tryz.zeroValue22
  t29 := Tryz.underlying9
  a29 := Tryz.isAgg9
  z29 := Tryz.sizeOf9
  v29 := Tryz.zeroValue9
  t32 := Tryz.underlying61
  a32 := Tryz.isAgg61
  z32 := Tryz.sizeOf61
  v32 := Tryz.zeroValue61
  t35 := Tryz.underlying238
  a35 := Tryz.isAgg238
  z35 := Tryz.sizeOf238
  v35 := Tryz.zeroValue238
  t36 := Tryz.underlying239
  a36 := Tryz.isAgg239
  z36 := Tryz.sizeOf239
  v36 := Tryz.zeroValue239
  t41 := Tryz.underlying222
  a41 := Tryz.isAgg222
  z41 := Tryz.sizeOf222
  v41 := Tryz.zeroValue222
  t44 := Tryz.underlying245
  a44 := Tryz.isAgg245
  z44 := Tryz.sizeOf245
  v44 := Tryz.zeroValue245
  t46 := Tryz.underlying247
  a46 := Tryz.isAgg247
  z46 := Tryz.sizeOf247
  v46 := Tryz.zeroValue247
  t53 := Tryz.underlying272
  a53 := Tryz.isAgg272
  z53 := Tryz.sizeOf272
  v53 := Tryz.zeroValue272
  t57 := Tryz.underlying276
  a57 := Tryz.isAgg276
  z57 := Tryz.sizeOf276
  v57 := Tryz.zeroValue276
  t63 := Tryz.underlying297
  a63 := Tryz.isAgg297
  z63 := Tryz.sizeOf297
  v63 := Tryz.zeroValue297
  t64 := Tryz.underlying298
  a64 := Tryz.isAgg298
  z64 := Tryz.sizeOf298
  v64 := Tryz.zeroValue298 }

/-- slices.Sort's two contracts at this dump, at the fence that asks nothing. -/
theorem Tryz.sorts54 (m : Nat) : AnyZ.SortsIn Tryz.prog Tryz.sorted54_ren Fence.wide m :=
  ⟨fun blk off cap ss W hH hblk hsz => callsIn_wide.2 (AnyM.slices_Sort_string Tryz.sort95 blk off cap ss W hH hblk hsz),
   fun p cap W => callsIn_wide.2 (AnyM.slices_Sort_string_none Tryz.sort95 p cap W)⟩

/-- **maps.Keys[map[string][]string,string,[]string], at whatever map, the nil one too:** a function value over ONE NEW BLOCK, which holds the map. -/
theorem Tryz.maps_Keys_55 (mb : Option Nat) (W : World) : CallsIn Fence.wide 5 Tryz.prog 55 #[.map mb] W fun e w' => e = .returned (.func (.func 96) #[] #[.pointer (some ⟨W.heap.size, 0, none⟩)]) ∧ w' = W.alloc (.cells #[.map mb] 86) :=
  AnyZ.keys_in Tryz.keys55 Fence.wide 5 trivial rfl mb W

set_option maxHeartbeats 1000000 in
/-- **slices.Sorted[string] AT WHAT maps.Keys[map[string][]string,string,[]string] HANDED BACK FOR A MAP THAT IS NOT nil** ('w': the world AHEAD of maps.Keys' call): A NEW SLICE THAT HOLDS THE MAP's KEYS, SORTED; nil just where it has none; nothing that lay before has turned. -/
theorem Tryz.slices_Sorted_keys_54_55 {H : Type} (b nn : Nat) (D0 : DataW H) (R : Value → Option (DataW H × List MemPlace)) (w : World) (hown : w.ownsMap Tryz.prog 9 R b nn D0) (hmax : Maps.size D0 ≤ maxLen) (hbytes : Maps.size D0 * 16 ≤ 140737488355328) :
    CallsIn Fence.wide 5 Tryz.prog 54 #[.func (.func 96) #[] #[.pointer (some ⟨w.heap.size, 0, none⟩)]] (w.alloc (.cells #[.map (some b)] 86)) fun e w' => ∃ (v : Value) (ss : List (List UInt8)), e = .returned v ∧ ss.Perm (strKeys D0) ∧
      w'.ownsRow (w.alloc (.cells #[.map (some b)] 86)).heap.size 9 1 v ss.length ((ss.mergeSort (fun x y => decide (x ≤ y))).map encStr) ∧ (v = .slice none 0 0 ↔ ss = []) ∧ Below (w.alloc (.cells #[.map (some b)] 86)).heap.size (w.alloc (.cells #[.map (some b)] 86)) w' := by
  have hbl := hown.lt
  have hseq : SeqGives Fence.wide 2 Tryz.prog 96 #[.pointer (some ⟨w.heap.size, 0, none⟩)] encStr (fun ss => ss.Perm (strKeys D0)) (Maps.size D0) (w.alloc (.cells #[.map (some b)] 86)) :=
    AnyZ.keys_gives (ρ := Tryz.keys55_ren) { Tryz.keys55 with } Fence.wide _ trivial rfl (by omega) w.heap.size b nn D0 _ (by simp) (by simp) (by
      obtain ⟨es, clock, hb, Ft, hs, hD⟩ := hown
      exact ⟨es, clock, (Below.heap_alloc _ _ b hbl).trans hb, Ft, hs, hD⟩)
  exact AnyZ.sorted_in Tryz.sorted54 Fence.wide 5 trivial trivial trivial trivial rfl (by omega) (Tryz.sorts54 _) (enters_of Tryz.func95 (by kernel_rfl) rfl) 96 #[.pointer (some ⟨w.heap.size, 0, none⟩)] trivial (enters_of Tryz.func96 (by kernel_rfl) rfl) _ _ hmax hbytes _ hseq

set_option maxHeartbeats 1000000 in
/-- **.. AND FOR THE nil MAP: nil.** -/
theorem Tryz.slices_Sorted_keys_nil_54_55 (w : World) :
    CallsIn Fence.wide 5 Tryz.prog 54 #[.func (.func 96) #[] #[.pointer (some ⟨w.heap.size, 0, none⟩)]] (w.alloc (.cells #[.map none] 86)) fun e w' => ∃ (v : Value) (ss : List (List UInt8)), e = .returned v ∧ ss = [] ∧
      w'.ownsRow (w.alloc (.cells #[.map none] 86)).heap.size 9 1 v ss.length ((ss.mergeSort (fun x y => decide (x ≤ y))).map encStr) ∧ (v = .slice none 0 0 ↔ ss = []) ∧ Below (w.alloc (.cells #[.map none] 86)).heap.size (w.alloc (.cells #[.map none] 86)) w' := by
  have hseq : SeqGives Fence.wide 2 Tryz.prog 96 #[.pointer (some ⟨w.heap.size, 0, none⟩)] encStr (fun ss : List (List UInt8) => ss = []) 0 (w.alloc (.cells #[.map none] 86)) :=
    AnyZ.keys_gives_nil (ρ := Tryz.keys55_ren) { Tryz.keys55 with } Fence.wide _ trivial rfl w.heap.size _ (by simp) (by simp)
  exact AnyZ.sorted_in Tryz.sorted54 Fence.wide 5 trivial trivial trivial trivial rfl (by omega) (Tryz.sorts54 _) (enters_of Tryz.func95 (by kernel_rfl) rfl) 96 #[.pointer (some ⟨w.heap.size, 0, none⟩)] trivial (enters_of Tryz.func96 (by kernel_rfl) rfl) _ 0 (Nat.zero_le _) (by omega) _ hseq



end Go.Proofs
