/- SlicesEquivalent: the texts of the claim, put together (part 3 of 7). The law is proved in the last one: it takes no condition beyond the statement's own. -/
import Derived.Shelf.Small.Bits
import Derived.Shelf.Strconv.Itoa0
import Derived.Ground.Names2Prog
import Derived.Shelf.Slices.Clone
import Derived.Ground.SlgfProg
import Derived.Shelf.SlicesE.IndexFunc
import Derived.Shelf.SlicesE.DeleteFunc
import Derived.Ground.SlsfProg
import Derived.Shelf.SlSortCmp.Insertion
import Derived.Shelf.SlSortCmp.SiftDown1
import Derived.Shelf.SlSortCmp.HeapSort1
import Derived.Shelf.SlSortCmp.Insertion1
import Derived.Shelf.SlSortCmp.Median1
import Derived.Shelf.SlSortCmp.Pivot1
import Derived.Shelf.SlSortCmp.ReverseRange1
import Derived.Shelf.SlSortCmp.PartialInsertion1
import Derived.Shelf.SlSortCmp.PartitionEqual1
import Derived.Shelf.SlSortCmp.Partition1
import Derived.Shelf.SlSortCmp.Pdq1
import Derived.Shelf.SlSortCmp.Whole1
import Derived.Shelf.SlSortCmp.NoneTotal
import Derived.Test.YtfkpimjiaijmgaaProg
import Derived.Below
import Derived.Laws.BitsAllLaws
import Derived.IntWalk
import Derived.RangeFuncBox
import Derived.RangeFuncLeaves
import Derived.RangeFuncNested
import Derived.RangeFuncBound
import Derived.RangeFuncCalls
import Derived.Shelf.Abstract
import Derived.Shelf.RegionOpen
import Derived.OwnWalkIn
import Derived.TacticsInMore
import Derived.LoopNIn
import Derived.LoopIn
import Derived.Maps.AppendAt
import Derived.Shelf.Spec.SlicesInsert
import Derived.Test.YtfkpimjiaijmgaaCSlicesEquivalent1
section
namespace Go.Proofs
open Go.Shelf
def Try.laysNm215_ren : Go.Shelf.Ren := ⟨fun | 15 => 60 | n => n, fun | 22 => 22 | 3 => 3 | 4 => 4 | n => n, fun | n => n⟩
theorem Try.laysNm215 : Go.Proofs.Lays2.n15 Try.prog Try.laysNm215_ren := {
 mixed := by kernel_rfl
 f15 := Try.func60.trans (congrArg some (by kernel_rfl))
 t3 := Try.underlying3
 a3 := Try.isAgg3
 z3 := Try.sizeOf3
 v3 := Try.zeroValue3
 t4 := Try.underlying4
 a4 := Try.isAgg4
 z4 := Try.sizeOf4
 v4 := Try.zeroValue4
 t22 := Try.underlying22
 a22 := Try.isAgg22
 z22 := Try.sizeOf22
 v22 := Try.zeroValue22
 i3 := by kernel_rfl }
open Go.RowKit Go.Lib in
theorem Try.slices_Clone_int (b off n c : Nat) (zs : List Int) (w : World) (hz : n ≤ zs.length) (hbig : n * 8 ≤ 140737488355328) (hc : ∀ j, j < zs.length → w.cell? ⟨b, off + j, none⟩ = some (.int .i64 (zs.getD j 0))) :
 Calls Try.prog 60 #[.slice (some ⟨b, off, none⟩) n c] w fun e w' => ∃ v', e = .returned v' ∧ w'.ownsRow w.heap.size 3 1 v' n ((zs.take n).map (Value.int .i64)) ∧ v' ≠ .slice none 0 0 ∧ Below w.heap.size w w' := Any.slices_Clone_int Try.laysNm215 b off n c zs w hz hbig hc
open Go.RowKit Go.Lib in
theorem Try.slices_Clone_int_nil (n c : Nat) (w : World) :
 Calls Try.prog 60 #[.slice none n c] w fun e w' => e = .returned (.slice none 0 0) ∧ w' = w := Any.slices_Clone_int_nil Try.laysNm215 n c w
open Go.RowKit Go.Lib in
theorem Try.slices_Clone_int_zero (a : Addr) (c : Nat) (w : World) :
 Calls Try.prog 60 #[.slice (some a) 0 c] w fun e w' => ∃ v', e = .returned v' ∧ w'.ownsRow w.heap.size 3 1 v' 0 [] ∧ v' ≠ .slice none 0 0 ∧ Below w.heap.size w w' := Any.slices_Clone_int_zero Try.laysNm215 a c w
def Try.laysSlH6_f69_ren : Go.Shelf.Ren := ⟨fun | 6 => 69 | n => n, fun | 22 => 22 | 23 => 3 | 25 => 47 | 3 => 3 | 0 => 0 | 4 => 4 | n => n, fun | n => n⟩
theorem Try.laysSlH6_f69 : Go.Proofs.SlLaysH.n6 Try.prog Try.laysSlH6_f69_ren := {
 mixed := by kernel_rfl
 f6 := ⟨Try.f69.name, by decide, Try.func69.trans (congrArg some (by kernel_rfl))⟩
 t0 := Try.underlying0
 a0 := Try.isAgg0
 z0 := Try.sizeOf0
 v0 := Try.zeroValue0
 t3 := Try.underlying3
 a3 := Try.isAgg3
 z3 := Try.sizeOf3
 v3 := Try.zeroValue3
 t4 := Try.underlying4
 a4 := Try.isAgg4
 z4 := Try.sizeOf4
 v4 := Try.zeroValue4
 t22 := Try.underlying22
 a22 := Try.isAgg22
 z22 := Try.sizeOf22
 v22 := Try.zeroValue22
 a23 := Try.isAgg3
 z23 := Try.sizeOf3
 t25 := Try.underlying47
 a25 := Try.isAgg47
 z25 := Try.sizeOf47
 v25 := Try.zeroValue47 }
open Go.RowKit Go.Lib in
open Go.RowKit Go.Lib in
theorem Try.slices_IndexFunc_empty {α : Type} [Inhabited α] (a : Option Addr) (c : Nat) (fv : Value) (w : World) :
 Calls Try.prog 69 #[.slice a 0 c, fv] w fun e w' => e = .returned (.int .i64 (-1)) ∧ w' = w := AnyE.slices_IndexFunc_empty Try.laysSlH6_f69 a c fv w
def Try.laysSlH8_f54_ren : Go.Shelf.Ren := ⟨fun | 8 => 54 | 6 => 69 | n => n, fun | 22 => 22 | 23 => 3 | 25 => 47 | 4 => 4 | 3 => 3 | 0 => 0 | n => n, fun | n => n⟩
theorem Try.laysSlH8_f54 : Go.Proofs.SlLaysH.n8 Try.prog Try.laysSlH8_f54_ren := {
 mixed := by kernel_rfl
 f6 := ⟨Try.f69.name, by decide, Try.func69.trans (congrArg some (by kernel_rfl))⟩
 f8 := ⟨Try.f54.name, by decide, Try.func54.trans (congrArg some (by kernel_rfl))⟩
 t0 := Try.underlying0
 a0 := Try.isAgg0
 z0 := Try.sizeOf0
 v0 := Try.zeroValue0
 t3 := Try.underlying3
 a3 := Try.isAgg3
 z3 := Try.sizeOf3
 v3 := Try.zeroValue3
 t4 := Try.underlying4
 a4 := Try.isAgg4
 z4 := Try.sizeOf4
 v4 := Try.zeroValue4
 t22 := Try.underlying22
 a22 := Try.isAgg22
 z22 := Try.sizeOf22
 v22 := Try.zeroValue22
 a23 := Try.isAgg3
 z23 := Try.sizeOf3
 t25 := Try.underlying47
 a25 := Try.isAgg47
 z25 := Try.sizeOf47
 v25 := Try.zeroValue47 }
open Go.RowKit Go.Lib in
theorem Try.slices_ContainsFunc {α : Type} [Inhabited α] (enc : α → Value) (p : α → Bool) (g : Nat) (lb : Array Value) (eg : ∀ args w, (callFunc g args).run Try.prog w = .ok (.enter g args) w) (b off n c : Nat) (zs : List α) (w : World) (hp : PredAt Try.prog g lb enc p w) (hz : n ≤ zs.length) (hbig : n ≤ 9223372036854775807) (hc : ∀ j, j < zs.length → w.cell? ⟨b, off + j, none⟩ = some (enc zs[j]!)) :
 Calls Try.prog 54 #[.slice (some ⟨b, off, none⟩) n c, .func (.func g) #[] lb] w fun e w' => e = .returned (.bool ((zs.take n).any p)) ∧ ∃ q, w' = w.drewN q := AnyE.slices_ContainsFunc Try.laysSlH8_f54 enc p g lb eg b off n c zs w hp hz hbig hc
open Go.RowKit Go.Lib in
theorem Try.slices_ContainsFunc_empty {α : Type} [Inhabited α] (a : Option Addr) (c : Nat) (fv : Value) (w : World) :
 Calls Try.prog 54 #[.slice a 0 c, fv] w fun e w' => e = .returned (.bool false) ∧ w' = w := AnyE.slices_ContainsFunc_empty Try.laysSlH8_f54 a c fv w
def Try.laysSlH10_f59_ren : Go.Shelf.Ren := ⟨fun | 10 => 59 | 6 => 69 | n => n, fun | 22 => 22 | 23 => 3 | 25 => 47 | 3 => 3 | 4 => 4 | 0 => 0 | n => n, fun | n => n⟩
theorem Try.laysSlH10_f59 : Go.Proofs.SlLaysH.n10 Try.prog Try.laysSlH10_f59_ren := {
 mixed := by kernel_rfl
 f6 := ⟨Try.f69.name, by decide, Try.func69.trans (congrArg some (by kernel_rfl))⟩
 f10 := ⟨Try.f59.name, by decide, Try.func59.trans (congrArg some (by kernel_rfl))⟩
 t0 := Try.underlying0
 a0 := Try.isAgg0
 z0 := Try.sizeOf0
 v0 := Try.zeroValue0
 t3 := Try.underlying3
 a3 := Try.isAgg3
 z3 := Try.sizeOf3
 v3 := Try.zeroValue3
 t4 := Try.underlying4
 a4 := Try.isAgg4
 z4 := Try.sizeOf4
 v4 := Try.zeroValue4
 t22 := Try.underlying22
 a22 := Try.isAgg22
 z22 := Try.sizeOf22
 v22 := Try.zeroValue22
 a23 := Try.isAgg3
 z23 := Try.sizeOf3
 t25 := Try.underlying47
 a25 := Try.isAgg47
 z25 := Try.sizeOf47
 v25 := Try.zeroValue47 }
open Go.RowKit Go.Lib Go.Sort in
theorem Try.slices_DeleteFunc {α : Type} [Inhabited α] (enc : α → Value) (hO : OneCell enc) (p : α → Bool) (g : Nat) (lb : Array Value) (eg : ∀ args w, (callFunc g args).run Try.prog w = .ok (.enter g args) w) (zr : α) (v23 : ∀ w, (zeroValue 3).run Try.prog w = .ok (enc zr) w) (blk off cap : Nat) (d : Array α) (w : World) (hp : PredAt Try.prog g lb enc p w) (hpo : PredOver Try.prog g lb enc p blk off d.size w) (hH : Holds enc w blk off d) (hsz : d.size ≤ 9223372036854775807) (hcap : d.size ≤ cap) :
 Calls Try.prog 59 #[.slice (some ⟨blk, off, none⟩) d.size cap, .func (.func g) #[] lb] w fun e w' => e = .returned (.slice (some ⟨blk, off, none⟩) (d.toList.filter fun x => !p x).length cap) ∧ ∃ q, w' = putRow enc (Sort.ahead w q) blk off ((d.toList.filter fun x => !p x) ++ List.replicate (d.size - (d.toList.filter fun x => !p x).length) zr).toArray := AnyE.slices_DeleteFunc Try.laysSlH10_f59 enc hO p g lb eg zr v23 blk off cap d w hp hpo hH hsz hcap
def Try.laysSlF6_f62_ren : Go.Shelf.Ren := ⟨fun | 6 => 62 | 15 => 72 | 14 => 71 | 28 => 86 | 29 => 87 | 20 => 78 | 21 => 79 | 22 => 80 | 23 => 81 | 24 => 82 | 25 => 83 | 26 => 84 | 27 => 85 | 46 => 91 | 47 => 92 | 48 => 93 | 49 => 94 | 50 => 95 | 57 => 96 | n => n, fun | 22 => 22 | 24 => 3 | 25 => 29 | 3 => 3 | 39 => 71 | 0 => 0 | 53 => 80 | 55 => 82 | 4 => 4 | 46 => 74 | 45 => 73 | 50 => 52 | 5 => 5 | 9 => 9 | 66 => 83 | 70 => 87 | 76 => 89 | 77 => 90 | n => n, fun | n => n⟩
theorem Try.laysSlF6_f62 : Go.Proofs.SlLaysF.n6 Try.prog Try.laysSlF6_f62_ren := {
 mixed := by kernel_rfl
 f6 := ⟨Try.f62.name, by decide, Try.func62.trans (congrArg some (by kernel_rfl))⟩
 f14 := ⟨Try.f71.name, by decide, Try.func71.trans (congrArg some (by kernel_rfl))⟩
 f15 := Try.func72.trans (congrArg some (by kernel_rfl))
 f20 := ⟨Try.f78.name, by decide, Try.func78.trans (congrArg some (by kernel_rfl))⟩
 f21 := ⟨Try.f79.name, by decide, Try.func79.trans (congrArg some (by kernel_rfl))⟩
 f22 := ⟨Try.f80.name, by decide, Try.func80.trans (congrArg some (by kernel_rfl))⟩
 f23 := ⟨Try.f81.name, by decide, Try.func81.trans (congrArg some (by kernel_rfl))⟩
 f24 := ⟨Try.f82.name, by decide, Try.func82.trans (congrArg some (by kernel_rfl))⟩
 f25 := ⟨Try.f83.name, by decide, Try.func83.trans (congrArg some (by kernel_rfl))⟩
 f26 := ⟨Try.f84.name, by decide, Try.func84.trans (congrArg some (by kernel_rfl))⟩
 f27 := ⟨Try.f85.name, by decide, Try.func85.trans (congrArg some (by kernel_rfl))⟩
 f28 := Try.func86.trans (congrArg some (by kernel_rfl))
 f29 := Try.func87.trans (congrArg some (by kernel_rfl))
 f46 := ⟨Try.f91.name, by decide, Try.func91.trans (congrArg some (by kernel_rfl))⟩
 f47 := Try.func92.trans (congrArg some (by kernel_rfl))
 f48 := Try.func93.trans (congrArg some (by kernel_rfl))
 f49 := ⟨Try.f94.name, by decide, Try.func94.trans (congrArg some (by kernel_rfl))⟩
 f50 := ⟨Try.f95.name, by decide, Try.func95.trans (congrArg some (by kernel_rfl))⟩
 f57 := ⟨Try.f96.name, by decide, Try.func96.trans (congrArg some (by kernel_rfl))⟩
 t0 := Try.underlying0
 a0 := Try.isAgg0
 z0 := Try.sizeOf0
 v0 := Try.zeroValue0
 t3 := Try.underlying3
 a3 := Try.isAgg3
 z3 := Try.sizeOf3
 v3 := Try.zeroValue3
 t4 := Try.underlying4
 a4 := Try.isAgg4
 z4 := Try.sizeOf4
 v4 := Try.zeroValue4
 t5 := Try.underlying5
 a5 := Try.isAgg5
 z5 := Try.sizeOf5
 v5 := Try.zeroValue5
 t9 := Try.underlying9
 a9 := Try.isAgg9
 z9 := Try.sizeOf9
 v9 := Try.zeroValue9
 t22 := Try.underlying22
 a22 := Try.isAgg22
 z22 := Try.sizeOf22
 v22 := Try.zeroValue22
 a24 := Try.isAgg3
 z24 := Try.sizeOf3
 t25 := Try.underlying29
 a25 := Try.isAgg29
 z25 := Try.sizeOf29
 v25 := Try.zeroValue29
 t39 := Try.underlying71
 a39 := Try.isAgg71
 z39 := Try.sizeOf71
 v39 := Try.zeroValue71
 t45 := Try.underlying73
 a45 := Try.isAgg73
 z45 := Try.sizeOf73
 v45 := Try.zeroValue73
 t46 := Try.underlying74
 a46 := Try.isAgg74
 z46 := Try.sizeOf74
 v46 := Try.zeroValue74
 t50 := Try.underlying52
 a50 := Try.isAgg52
 z50 := Try.sizeOf52
 v50 := Try.zeroValue52
 t53 := Try.underlying80
 a53 := Try.isAgg80
 z53 := Try.sizeOf80
 v53 := Try.zeroValue80
 t55 := Try.underlying82
 a55 := Try.isAgg82
 z55 := Try.sizeOf82
 v55 := Try.zeroValue82
 t66 := Try.underlying83
 a66 := Try.isAgg83
 z66 := Try.sizeOf83
 v66 := Try.zeroValue83
 t70 := Try.underlying87
 a70 := Try.isAgg87
 z70 := Try.sizeOf87
 v70 := Try.zeroValue87
 t76 := Try.underlying89
 a76 := Try.isAgg89
 z76 := Try.sizeOf89
 v76 := Try.zeroValue89
 t77 := Try.underlying90
 a77 := Try.isAgg90
 z77 := Try.sizeOf90
 v77 := Try.zeroValue90 }
def Try.laysSlF06_f62_ren : Go.Shelf.Ren := ⟨fun | 6 => 62 | 15 => 72 | 14 => 71 | 28 => 86 | 29 => 87 | 20 => 78 | 21 => 79 | 22 => 80 | 23 => 81 | 24 => 82 | 25 => 83 | 26 => 84 | 27 => 85 | 46 => 91 | 47 => 92 | 48 => 93 | 49 => 94 | 50 => 95 | 57 => 96 | n => n, fun | 22 => 22 | 24 => 3 | 25 => 29 | 3 => 3 | 39 => 71 | 0 => 0 | 53 => 80 | 55 => 82 | 4 => 4 | 46 => 74 | 45 => 73 | 50 => 52 | 5 => 5 | 9 => 9 | 66 => 83 | 70 => 87 | 76 => 89 | 77 => 90 | n => n, fun | n => n⟩
theorem Try.laysSlF06_f62 : Go.Proofs.SlLaysF0.n6 Try.prog Try.laysSlF06_f62_ren := {
 mixed := by kernel_rfl
 f6 := ⟨Try.f62.name, by decide, Try.func62.trans (congrArg some (by kernel_rfl))⟩
 f14 := ⟨Try.f71.name, by decide, Try.func71.trans (congrArg some (by kernel_rfl))⟩
 f15 := Try.func72.trans (congrArg some (by kernel_rfl))
 f20 := ⟨Try.f78.name, by decide, Try.func78.trans (congrArg some (by kernel_rfl))⟩
 f21 := ⟨Try.f79.name, by decide, Try.func79.trans (congrArg some (by kernel_rfl))⟩
 f22 := ⟨Try.f80.name, by decide, Try.func80.trans (congrArg some (by kernel_rfl))⟩
 f23 := ⟨Try.f81.name, by decide, Try.func81.trans (congrArg some (by kernel_rfl))⟩
 f24 := ⟨Try.f82.name, by decide, Try.func82.trans (congrArg some (by kernel_rfl))⟩
 f25 := ⟨Try.f83.name, by decide, Try.func83.trans (congrArg some (by kernel_rfl))⟩
 f26 := ⟨Try.f84.name, by decide, Try.func84.trans (congrArg some (by kernel_rfl))⟩
 f27 := ⟨Try.f85.name, by decide, Try.func85.trans (congrArg some (by kernel_rfl))⟩
 f28 := Try.func86.trans (congrArg some (by kernel_rfl))
 f29 := Try.func87.trans (congrArg some (by kernel_rfl))
 f46 := ⟨Try.f91.name, by decide, Try.func91.trans (congrArg some (by kernel_rfl))⟩
 f47 := Try.func92.trans (congrArg some (by kernel_rfl))
 f48 := Try.func93.trans (congrArg some (by kernel_rfl))
 f49 := ⟨Try.f94.name, by decide, Try.func94.trans (congrArg some (by kernel_rfl))⟩
 f50 := ⟨Try.f95.name, by decide, Try.func95.trans (congrArg some (by kernel_rfl))⟩
 f57 := ⟨Try.f96.name, by decide, Try.func96.trans (congrArg some (by kernel_rfl))⟩
 t0 := Try.underlying0
 a0 := Try.isAgg0
 z0 := Try.sizeOf0
 v0 := Try.zeroValue0
 t3 := Try.underlying3
 a3 := Try.isAgg3
 z3 := Try.sizeOf3
 v3 := Try.zeroValue3
 t4 := Try.underlying4
 a4 := Try.isAgg4
 z4 := Try.sizeOf4
 v4 := Try.zeroValue4
 t5 := Try.underlying5
 a5 := Try.isAgg5
 z5 := Try.sizeOf5
 v5 := Try.zeroValue5
 t9 := Try.underlying9
 a9 := Try.isAgg9
 z9 := Try.sizeOf9
 v9 := Try.zeroValue9
 t22 := Try.underlying22
 a22 := Try.isAgg22
 z22 := Try.sizeOf22
 v22 := Try.zeroValue22
 t25 := Try.underlying29
 a25 := Try.isAgg29
 z25 := Try.sizeOf29
 v25 := Try.zeroValue29
 t39 := Try.underlying71
 a39 := Try.isAgg71
 z39 := Try.sizeOf71
 v39 := Try.zeroValue71
 t45 := Try.underlying73
 a45 := Try.isAgg73
 z45 := Try.sizeOf73
 v45 := Try.zeroValue73
 t46 := Try.underlying74
 a46 := Try.isAgg74
 z46 := Try.sizeOf74
 v46 := Try.zeroValue74
 t50 := Try.underlying52
 a50 := Try.isAgg52
 z50 := Try.sizeOf52
 v50 := Try.zeroValue52
 t53 := Try.underlying80
 a53 := Try.isAgg80
 z53 := Try.sizeOf80
 v53 := Try.zeroValue80
 t55 := Try.underlying82
 a55 := Try.isAgg82
 z55 := Try.sizeOf82
 v55 := Try.zeroValue82
 t66 := Try.underlying83
 a66 := Try.isAgg83
 z66 := Try.sizeOf83
 v66 := Try.zeroValue83
 t70 := Try.underlying87
 a70 := Try.isAgg87
 z70 := Try.sizeOf87
 v70 := Try.zeroValue87
 t76 := Try.underlying89
 a76 := Try.isAgg89
 z76 := Try.sizeOf89
 v76 := Try.zeroValue89
 t77 := Try.underlying90
 a77 := Try.isAgg90
 z77 := Try.sizeOf90
 v77 := Try.zeroValue90 }
open Go.RowKit Go.Lib Go.Sort in
theorem Try.slices_SortFunc_none {α : Type} [Inhabited α] (p : Option Addr) (cap : Nat) (fv : Value) (w : World) :
 Calls Try.prog 62 #[.slice p 0 cap, fv] w fun e w' => e = .returned (.tuple #[]) ∧ w' = w := AnyF.slices_SortFunc_none Try.laysSlF06_f62 p cap fv w
open Go.RowKit Go.Lib Go.Sort in
theorem Try.slices_SortFunc_total {α : Type} [Inhabited α] (enc : α → Value) (h1 : OneCell enc) (cf : α → α → Int) (hO : SWO (ltOf cf)) (g : Nat) (cb : Array Value) (blk off cap : Nat) (d : Array α) (w : World) (eg : ∀ args w, (callFunc g args).run Try.prog w = .ok (.enter g args) w) (hcmp : CmpLays1 Try.prog g cb enc cf blk off d.size w) (hH : Holds enc w blk off d) (hblk : blk < w.heap.size) (hsz : d.size < 4611686018427387904) (hT : ∀ x y, (ltOf cf) x y = false → (ltOf cf) y x = false → x = y) :
 Calls Try.prog 62 #[.slice (some ⟨blk, off, none⟩) d.size cap, .func (.func g) #[] cb] w fun e w' =>
  e = .returned (.tuple #[]) ∧ ∃ n os, w' = sortWorld enc w blk off n (d.toList.mergeSort fun x y => !(ltOf cf) y x).toArray os := Any.slices_SortFunc_total Try.laysSlF6_f62 enc h1 cf hO g cb blk off cap d w eg hcmp hH hblk hsz hT
end Go.Proofs
end
section
namespace Go.Proofs.Ytfkpimjiaijmgaa.G
open Go.RowKit Go.Proofs.YtfkpimjiaijmgaaW.PrintWords Go.Proofs.YtfkpimjiaijmgaaW.PrintLast Go.Proofs.YtfkpimjiaijmgaaW.PrintMore
attribute [local go_sem] max2_int min2_int max_two min_two max_three min_three max_four min_four   -- for this text's walks alone
set_option linter.unusedVariables false
set_option linter.unusedSimpArgs false
section
open Go.Sort Go.Lib YtfkpimjiaijmgaaV
def isNode (x : Int) : Bool := decide (0 ≤ x) && decide (x < 10)
theorem node_eq (x : Int) : threshold_node.f x = some (isNode x) := by
 unfold threshold_node.f isNode
 by_cases h : 0 ≤ x <;> simp [h, ge_iff_le]
theorem level1_gives (x : Int) (W : World) : FnGives Try.prog 55 #[] #[.int .i64 x] (.bool (!isNode x)) W := by
 have A := Aside0.mk (node_eq x)
 unfold FnGives
 generalize isNode x = b at *
 show Calls Try.prog 55 #[.int .i64 x] W _
 go_enter Try.func55, Try.ntmps55
 go_wp2_with (first | (go_at_call 56; (with_reducible refine (threshold_node.calls x b _ A.out).mono ?_); rintro e w' ⟨rfl, ⟨nd, rfl⟩⟩))
 go_ret
 exact ⟨rfl, _, rfl⟩
end
def threshold_level_1.f (l0 : List Int) : Option Bool := some (l0.any fun x => !isNode x)
theorem threshold_level_1.calls (A0 : Option Addr) (c0 : Nat) (l0 : List Int) (r : Bool) (w : World) (hr0 : Kd.C (Kd.int .i64) w A0 l0.length l0) (hc0 : l0.length ≤ c0) (h : threshold_level_1.f l0 = some r) :
 Calls Try.prog 54 #[.slice A0 l0.length c0, .func (.func 55) #[] #[]] w fun e w' => e = .returned (.bool r) ∧ Drawn0 w w' := by
 obtain rfl := Option.some.inj h
 by_cases hl : l0 = []
 ·subst hl
  refine (Try.slices_ContainsFunc_empty (α := Int) A0 c0 _ w).mono ?_
  rintro e w' ⟨rfl, rfl⟩
  exact ⟨rfl, Drawn0.refl _⟩
 ·have hn : 0 < l0.length := List.length_pos_iff.2 hl
  obtain ⟨b, off, rfl, _, hcs⟩ := YtfkpimjiaijmgaaV.addr_of_C hr0 hn
  have hcon := Try.slices_ContainsFunc (Value.int .i64) (fun x => !isNode x) 55 #[] (enters_of Try.func55 (by kernel_rfl) rfl) b off l0.length c0 l0 w
   (fun W' x _ => level1_gives x W') (Nat.le_refl _) (Kd.C_max hr0) (fun j hj => by rw [hcs j hj]; simp [List.getD, hj])
  rw [List.take_length] at hcon
  exact hcon.mono fun e w' ⟨he, q, hq⟩ => ⟨he, ⟨q, hq⟩⟩
end Go.Proofs.Ytfkpimjiaijmgaa.G
end
section
namespace Go.Proofs.Ytfkpimjiaijmgaa.G
open Go.RowKit Go.Proofs.YtfkpimjiaijmgaaW.PrintWords Go.Proofs.YtfkpimjiaijmgaaW.PrintLast Go.Proofs.YtfkpimjiaijmgaaW.PrintMore
attribute [local go_sem] max2_int min2_int max_two min_two max_three min_three max_four min_four   -- for this text's walks alone
set_option linter.unusedVariables false
set_option linter.unusedSimpArgs false
mutual
def threshold_level.j0 : Nat → Bool → Int → List Int → List (S27) → Option (Int)
 | 0, _, _, _, _ => none
 | k + 1, x22, x210000, x210001, x210002 => if x22 = true then (some 4) else ((threshold_level_1.f x210001).bind fun t210 => (if t210 = true then (some 5) else ((nodeset_Of.f k x210001).bind fun bt211 => (if bt211.2 = 0 then (threshold_level.l0 k x210002 (x210002.length : Int) 0) else (some bt211.2)))))
def threshold_level.l0 : Nat → List (S27) → Int → Int → Option (Int)
 | 0, _, _, _ => none
 | k + 1, x36, x37, x38 => if x38 < x37 then (if 0 ≤ x38 then (if x38 < (x36.length : Int) then ((threshold_level.f k ((rd_T27 x36 x38).f0) ((rd_T27 x36 x38).f1) ((rd_T27 x36 x38).f2)).bind fun t215 => (if t215 = 0 then (threshold_level.l0 k x36 x37 (wrap64 (x38 + 1))) else (some t215))) else (none)) else (none)) else (some 0)
def threshold_level.f : Nat → Int → List Int → List (S27) → Option (Int)
 | 0, _, _, _ => none
 | k + 1, a0_0, l0_1, l0_2 => if a0_0 < 1 then (threshold_level.j0 k true a0_0 l0_1 l0_2) else (threshold_level.j0 k (decide (a0_0 > (wrap64 ((l0_1.length : Int) + (l0_2.length : Int))))) a0_0 l0_1 l0_2)
end
set_option maxHeartbeats 8000000 in
set_option maxRecDepth 100000 in
theorem threshold_level.calls (k : Nat) : ∀ (a0_0 : Int) (A0_1 : Option Addr) (c0_1 : Nat) (l0_1 : List Int) (A0_2 : Option Addr) (c0_2 : Nat) (l0_2 : List (S27)) (r : Int) (w : World) (hr0_1 : Kd.C (Kd.int .i64) w A0_1 l0_1.length l0_1) (hc0_1 : l0_1.length ≤ c0_1) (hr0_2 : Kd.C k27 w A0_2 l0_2.length l0_2) (hc0_2 : l0_2.length ≤ c0_2) (h : threshold_level.f k a0_0 l0_1 l0_2 = some r),
 Calls Try.prog 43 #[.agg #[.int .i64 a0_0, .slice A0_1 l0_1.length c0_1, .slice A0_2 l0_2.length c0_2]] w fun e w' => e = .returned (.int .i64 r) ∧ Below w.heap.size w w' := by
 induction k using Nat.strongRecOn with
 | _ k ih =>
 intro a0_0 A0_1 c0_1 l0_1 A0_2 c0_2 l0_2 r w hr0_1 hc0_1 hr0_2 hc0_2 h
 cases k with
 | zero => exact absurd h (by simp [threshold_level.f])
 | succ k =>
 simp only [threshold_level.f] at h
 have hu27 := Try.underlying27
 have HR0_1 := Aside0.mk hr0_1
 have HC0_1 := Aside0.mk hc0_1
 clear hr0_1 hc0_1
 have HR0_2 := Aside0.mk hr0_2
 have HC0_2 := Aside0.mk hc0_2
 clear hr0_2 hc0_2
 have HB := Aside0.mk (Below.refl w.heap.size w)
 have H : (if a0_0 < 1 then (threshold_level.j0 k true a0_0 l0_1 l0_2) else (threshold_level.j0 k (decide (a0_0 > (wrap64 ((l0_1.length : Int) + (l0_2.length : Int))))) a0_0 l0_1 l0_2)) = some r := h
 clear h
 have HC2 := Aside0.mk H
 clear H
 go_enter Try.func43, Try.ntmps43
 go_upto_region 1 with (first | ((with_reducible refine gate_dst (N := 1) rfl ?_); (try (refine gate_guard (by rfl) ?_; dsimp only)); refine box_event ?hg (N := 1) ?hd (cs := #[.int .i64 a0_0, .slice A0_1 l0_1.length c0_1, .slice A0_2 l0_2.length c0_2]) (t := 27) ?hr ?_; (case hd => rfl); (case hg => rfl); (case hr => first | (go_simp; done) | (go_simp; rfl)); intro gb209 hg w3 hbox hb; have BK209 := Aside0.mk (hbox); have GW209 := Aside0.mk ((by rw [hg]; exact (below_size (bB HB)) : w.heap.size ≤ gb209)); have GE209 := Aside0.mk ((by rw [hg]; exact (below_size (bB HB)) : w.heap.size ≤ gb209)); replace HB := bs HB hb; clear hb hbox hg))
 (try simp only [Act.put, List.setIfInBounds_toArray, List.set_cons_zero, List.set_cons_succ])
 go_cut [22] (fun v22 wc => ∃ (kq : Nat) (x22_1 : Bool), v22 = .bool x22_1 ∧ Aside0 (threshold_level.j0 kq x22_1 a0_0 l0_1 l0_2 = some r) ∧ Aside0 (kq ≤ k) ∧ Aside0 (wc.heap[gb209]? = some (.cells #[.int .i64 a0_0, (.slice A0_1 l0_1.length c0_1), (.slice A0_2 l0_2.length c0_2)] 27 (0, 0))) ∧ Aside0 (Below w.heap.size w wc))
 case first =>
  have H := HC2.out
  clear HC2
  by_cases c4 : a0_0 < 1
  ·rw [if_pos c4] at H
   have c4b0 : decide (a0_0 < 1) = true := decide_eq_true c4
   clear c4
   (first | rw [c4b0] | (simp only [i64_w, i32_w]; rw [c4b0]) | skip)
   have H' := Aside0.mk H
   clear H
   have hcz5_0 := bC0 BK209
   have hcz5_1 := bC1 BK209
   have hcz5_2 := bC2 BK209
   have hfz5_0 := blk_frozen BK209.out 0
   have hfz5_1 := blk_frozen BK209.out 1
   have hfz5_2 := blk_frozen BK209.out 2
   go_wp2
   go_meet
   case rel => exact ⟨_, (true), (by first | rfl | (simp; done) | (simp [*]; done)), H', ⟨by first | omega | exact Nat.le_refl _⟩, ⟨bU BK209⟩, ⟨bB HB⟩⟩
  ·rw [if_neg c4] at H
   have c4b0 : decide (a0_0 < 1) = false := decide_eq_false c4
   clear c4
   (first | rw [c4b0] | (simp only [i64_w, i32_w]; rw [c4b0]) | skip)
   have H' := Aside0.mk H
   clear H
   have hcz6_0 := bC0 BK209
   have hcz6_1 := bC1 BK209
   have hcz6_2 := bC2 BK209
   have hfz6_0 := blk_frozen BK209.out 0
   have hfz6_1 := blk_frozen BK209.out 1
   have hfz6_2 := blk_frozen BK209.out 2
   go_wp2
   go_meet
   case rel => exact ⟨_, (decide (a0_0 > (wrap64 ((l0_1.length : Int) + (l0_2.length : Int))))), (by first | rfl | (simp; done) | (simp [*]; done)), H', ⟨by first | omega | exact Nat.le_refl _⟩, ⟨bU BK209⟩, ⟨bB HB⟩⟩
 case rest =>
  clear HC2
  try clear p2
  try clear c4
  try clear c4b0
  try clear p6
  try clear hcz5_0
  try clear hcz5_1
  try clear hcz5_2
  try clear hcz6_0
  try clear hcz6_1
  try clear hcz6_2
  try clear hfz5_0
  try clear hfz5_1
  try clear hfz5_2
  try clear hfz6_0
  try clear hfz6_1
  try clear hfz6_2
  obtain ⟨kq, x22_1, rfl, HA, HJ1, BK209, HB⟩ := hcut
  cases kq with
  | zero => exact absurd HA.out (by simp [threshold_level.j0])
  | succ kj1 =>
   have H := HA.out
   clear HA
   simp only [threshold_level.j0] at H
   by_cases c7 : x22_1 = true
   ·subst c7
    have H1 : (some 4) = some r := by rw [if_pos rfl] at H; exact H
    clear H
    have H := H1
    clear H1
    obtain rfl := Option.some.inj H
    go_wp2
    go_ret
    exact ⟨by first | rfl | (simp [errW_none, errW_some] <;> rfl) | (simp [*, errW_none, errW_some] <;> rfl), bB HB⟩
   ·replace c7 := Bool.eq_false_iff.mpr c7
    subst c7
    have H1 : ((threshold_level_1.f l0_1).bind fun t210 => (if t210 = true then (some 5) else ((nodeset_Of.f kj1 l0_1).bind fun bt211 => (if bt211.2 = 0 then (threshold_level.l0 kj1 l0_2 (l0_2.length : Int) 0) else (some bt211.2))))) = some r := by rw [if_neg (show ¬ (false = true) by decide)] at H; exact H
    clear H
    have H := H1
    clear H1
    replace H := Option.bind_eq_some_iff.mp H
    obtain ⟨t210, A80, H⟩ := H
    replace H : (if t210 = true then (some 5) else ((nodeset_Of.f kj1 l0_1).bind fun bt211 => (if bt211.2 = 0 then (threshold_level.l0 kj1 l0_2 (l0_2.length : Int) 0) else (some bt211.2)))) = some r := H
    have A8 := Aside0.mk A80
    clear A80
    by_cases c9 : t210 = true
    ·subst c9
     have H1 : (some 5) = some r := by rw [if_pos rfl] at H; exact H
     clear H
     have H := H1
     clear H1
     obtain rfl := Option.some.inj H
     have hcz10_0 := bC0 BK209
     have hcz10_1 := bC1 BK209
     have hcz10_2 := bC2 BK209
     have hfz10_0 := blk_frozen BK209.out 0
     have hfz10_1 := blk_frozen BK209.out 1
     have hfz10_2 := blk_frozen BK209.out 2
     go_wp2_with (first | (go_at_call 54; (with_reducible refine (threshold_level_1.calls _ _ l0_1 true _ ?side1 ?side2 A8.out).mono ?_); (case side1 => exact Kd.uC (Kd.C_below HR0_1.out HB.out)); (case side2 => exact HC0_1.out); rintro e w' ⟨rfl, ⟨nd, rfl⟩⟩))
     go_ret
     exact ⟨by first | rfl | (simp [errW_none, errW_some] <;> rfl) | (simp [*, errW_none, errW_some] <;> rfl), bB HB⟩
    ·replace c9 := Bool.eq_false_iff.mpr c9
     subst c9
     have H1 : ((nodeset_Of.f kj1 l0_1).bind fun bt211 => (if bt211.2 = 0 then (threshold_level.l0 kj1 l0_2 (l0_2.length : Int) 0) else (some bt211.2))) = some r := by rw [if_neg (show ¬ (false = true) by decide)] at H; exact H
     clear H
     have H := H1
     clear H1
     replace H := Option.bind_eq_some_iff.mp H
     obtain ⟨⟨t211, t212⟩, A110, H⟩ := H
     replace H : (if t212 = 0 then (threshold_level.l0 kj1 l0_2 (l0_2.length : Int) 0) else (some t212)) = some r := H
     have A11 := Aside0.mk A110
     clear A110
     by_cases c12 : t212 = 0
     ·rw [if_pos c12] at H
      have c12b0 : (t212 == 0) = true := beq_iff_eq.mpr c12
      have c12b1 : (t212 != 0) = false := bne_eq_false_iff_eq.mpr c12
      clear c12
      have H' := Aside0.mk H
      clear H
      have hcz13_0 := bC0 BK209
      have hcz13_1 := bC1 BK209
      have hcz13_2 := bC2 BK209
      have hfz13_0 := blk_frozen BK209.out 0
      have hfz13_1 := blk_frozen BK209.out 1
      have hfz13_2 := blk_frozen BK209.out 2
      go_wp2_with (first | (go_at_call 54; (with_reducible refine (threshold_level_1.calls _ _ l0_1 false _ ?side1 ?side2 A8.out).mono ?_); (case side1 => exact Kd.uC (Kd.C_below HR0_1.out HB.out)); (case side2 => exact HC0_1.out); rintro e w' ⟨rfl, ⟨nd, rfl⟩⟩) | ((with_reducible refine gate_callee (f := 57) rfl ?_); refine goesA_ (some 29) rfl rfl Try.func57 rfl #[.slice A0_1 l0_1.length c0_1] rfl ?_; (with_reducible refine (nodeset_Of.calls kj1 _ _ l0_1 t211 t212 _ ?side1 ?side2 A11.out).mono ?_); (case side1 => exact Kd.uC (Kd.C_below HR0_1.out (bB HB))); (case side2 => exact HC0_1.out); rintro e w' ⟨rfl, ⟨nd, rfl⟩⟩; refine ⟨_, rfl, ?_⟩))
      go_loopg [38] kj1 (fun kq v38 w' => ∃ (x38_2 : Int), v38 = .int .i64 x38_2 ∧ Aside0 (threshold_level.l0 kq l0_2 (l0_2.length : Int) x38_2 = some r) ∧ Aside0 (kq ≤ kj1) ∧ Aside0 (w'.heap[gb209]? = some (.cells #[.int .i64 a0_0, (.slice A0_1 l0_1.length c0_1), (.slice A0_2 l0_2.length c0_2)] 27 (0, 0))) ∧ Aside0 (Below w.heap.size w w'))
      case atStart => exact ⟨(0), (by first | rfl | (simp; done) | (simp [*]; done)), H', ⟨Nat.le_refl _⟩, ⟨bU BK209⟩, ⟨bB HB⟩⟩
      case round =>
       clear H'
       try clear c1
       try clear p2
       try clear c4
       try clear c4b0
       try clear c5
       try clear p6
       try clear c7
       try clear c9
       try clear c12
       try clear c12b0
       try clear c12b1
       try clear hcz10_0
       try clear hcz10_1
       try clear hcz10_2
       try clear hcz13_0
       try clear hcz13_1
       try clear hcz13_2
       try clear hcz5_0
       try clear hcz5_1
       try clear hcz5_2
       try clear hcz6_0
       try clear hcz6_1
       try clear hcz6_2
       try clear hfz10_0
       try clear hfz10_1
       try clear hfz10_2
       try clear hfz13_0
       try clear hfz13_1
       try clear hfz13_2
       try clear hfz5_0
       try clear hfz5_1
       try clear hfz5_2
       try clear hfz6_0
       try clear hfz6_1
       try clear hfz6_2
       try clear p2
       try clear p6
       obtain ⟨x38_2, rfl, HA, HK2, BK209, HB⟩ := hrel
       cases gk with
       | zero => exact absurd HA.out (by simp [threshold_level.l0])
       | succ k2 =>
        have H := HA.out
        clear HA
        simp only [threshold_level.l0] at H
        by_cases c14 : x38_2 < (l0_2.length : Int)
        ·rw [if_pos c14] at H
         have c14b0 : decide (x38_2 < (l0_2.length : Int)) = true := decide_eq_true c14
         clear c14
         by_cases c15 : 0 ≤ x38_2
         ·rw [if_pos c15] at H
          have c15b0 : decide (0 ≤ x38_2) = true := decide_eq_true c15
          clear c15
          by_cases c16 : x38_2 < (l0_2.length : Int)
          ·rw [if_pos c16] at H
           have c16b0 : decide (x38_2 < (l0_2.length : Int)) = true := decide_eq_true c16
           clear c16
           replace H := Option.bind_eq_some_iff.mp H
           obtain ⟨t215, A170, H⟩ := H
           replace H : (if t215 = 0 then (threshold_level.l0 k2 l0_2 (l0_2.length : Int) (wrap64 (x38_2 + 1))) else (some t215)) = some r := H
           have A17 := Aside0.mk A170
           clear A170
           by_cases c18 : t215 = 0
           ·rw [if_pos c18] at H
            have c18b0 : (t215 == 0) = true := beq_iff_eq.mpr c18
            have c18b1 : (t215 != 0) = false := bne_eq_false_iff_eq.mpr c18
            clear c18
            have H' := Aside0.mk H
            clear H
            have p213 : 0 ≤ (x38_2 : Int) := of_decide_eq_true (by first | (with_reducible assumption) | assumption)
            have q213 : x38_2 < (l0_2.length : Int) := of_decide_eq_true (by first | (with_reducible assumption) | assumption)
            obtain ⟨ad213, A213_1, c213_1, A213_2, c213_2, e213, hx213_0, hx213_1, hx213_2, hl213_1, hi213_1, hl213_2, hi213_2⟩ := at_T27 HR0_2.out x38_2 p213 q213
            cases e213
            replace hx213_0 := (HB.out.cell (World.block_lt_of_cell? w _ hx213_0)).trans hx213_0
            replace hx213_1 := (HB.out.cell (World.block_lt_of_cell? w _ hx213_1)).trans hx213_1
            replace hx213_2 := (HB.out.cell (World.block_lt_of_cell? w _ hx213_2)).trans hx213_2
            have HR213_1 := Aside0.mk hi213_1
            have HC213_1 := Aside0.mk hl213_1
            clear hi213_1 hl213_1
            have HR213_2 := Aside0.mk hi213_2
            have HC213_2 := Aside0.mk hl213_2
            clear hi213_2 hl213_2
            replace p213 := eq_true p213
            replace q213 := eq_true q213
            go_wp2_with (first | ((with_reducible refine gate_dst (N := 6) rfl ?_); (try (refine gate_guard (by rfl) ?_; dsimp only)); refine box_event ?hg (N := 6) ?hd (cs := #[.int .i64 0, .slice none 0 0, .slice none 0 0]) (t := 27) ?hr ?_; (case hd => rfl); (case hg => rfl); (case hr => first | (go_simp; done) | (go_simp; rfl)); intro gb214 hg w19 hbox hb; have BK214 := Aside0.mk (hbox); have GW214 := Aside0.mk ((by rw [hg]; exact (below_size (bB HB)) : w.heap.size ≤ gb214)); have GE214 := Aside0.mk ((by rw [hg]; exact (below_size (bB HB)) : w.heap.size ≤ gb214)); replace HB := bs HB hb; have NB209_214 := Aside0.mk ((by rw [hg]; exact Nat.ne_of_lt (blk_lt (bU BK209)) : gb209 ≠ gb214)); have NB214_209 := Aside0.mk ((by rw [hg]; exact Nat.ne_of_gt (blk_lt (bU BK209)) : gb214 ≠ gb209)); replace BK209 := bb BK209 hb; clear hb hbox hg; have hnb20 := NB214_209.out; have hnc20 := NB209_214.out; have hcz21_0 := bC0 BK214; have hcz21_1 := bC1 BK214; have hcz21_2 := bC2 BK214; have hfz21_0 := blk_frozen BK214.out 0; have hfz21_1 := blk_frozen BK214.out 1; have hfz21_2 := blk_frozen BK214.out 2) | ((with_reducible refine gate_callee (f := 43) rfl ?_); refine goesA_ (some 43) rfl rfl Try.func43 rfl #[.agg #[.int .i64 ((rd_T27 l0_2 x38_2).f0), .slice A213_1 ((rd_T27 l0_2 x38_2).f1).length c213_1, .slice A213_2 ((rd_T27 l0_2 x38_2).f2).length c213_2]] rfl ?_; (with_reducible refine (ih k2 (by have := HJ1.out; have := HK2.out; omega) ((rd_T27 l0_2 x38_2).f0) _ _ ((rd_T27 l0_2 x38_2).f1) _ _ ((rd_T27 l0_2 x38_2).f2) t215 _ ?side1 ?side2 ?side3 ?side4 A17.out).mono ?_); (case side1 => exact Kd.C_below HR213_1.out (bB HB)); (case side2 => exact HC213_1.out); (case side3 => exact Kd.C_below HR213_2.out (bB HB)); (case side4 => exact HC213_2.out); rintro e w22 ⟨rfl, hb⟩; refine ⟨_, rfl, ?_⟩; replace BK209 := Aside0.mk (blk_below (g := gb209) (o := .cells #[.int .i64 a0_0, .slice A0_1 l0_1.length c0_1, .slice (some ad213) l0_2.length c0_2] 27 (0, 0)) (bF BK209) hb); replace BK214 := Aside0.mk (blk_below (g := gb214) (o := .cells #[.int .i64 ((rd_T27 l0_2 x38_2).f0), .slice A213_1 ((rd_T27 l0_2 x38_2).f1).length c213_1, .slice A213_2 ((rd_T27 l0_2 x38_2).f2).length c213_2] 27 (0, 0)) (bP3 BK214) hb); replace HB := bs HB hb; (try clear hb); (try clear hb2); (try clear hk); (try clear hi)))
            go_roundg k2
            case measure => have := HJ1.out; have := HK2.out; omega
            case rel => exact ⟨(wrap64 (x38_2 + 1)), (by first | rfl | (simp; done) | (simp [*]; done)), H', ⟨by have := HJ1.out; have := HK2.out; omega⟩, ⟨bU BK209⟩, ⟨bB HB⟩⟩
           ·rw [if_neg c18] at H
            have c18b0 : (t215 == 0) = false := beq_eq_false_iff_ne.mpr c18
            have c18b1 : (t215 != 0) = true := bne_iff_ne.mpr c18
            obtain rfl := Option.some.inj H
            have p213 : 0 ≤ (x38_2 : Int) := of_decide_eq_true (by first | (with_reducible assumption) | assumption)
            have q213 : x38_2 < (l0_2.length : Int) := of_decide_eq_true (by first | (with_reducible assumption) | assumption)
            obtain ⟨ad213, A213_1, c213_1, A213_2, c213_2, e213, hx213_0, hx213_1, hx213_2, hl213_1, hi213_1, hl213_2, hi213_2⟩ := at_T27 HR0_2.out x38_2 p213 q213
            cases e213
            replace hx213_0 := (HB.out.cell (World.block_lt_of_cell? w _ hx213_0)).trans hx213_0
            replace hx213_1 := (HB.out.cell (World.block_lt_of_cell? w _ hx213_1)).trans hx213_1
            replace hx213_2 := (HB.out.cell (World.block_lt_of_cell? w _ hx213_2)).trans hx213_2
            have HR213_1 := Aside0.mk hi213_1
            have HC213_1 := Aside0.mk hl213_1
            clear hi213_1 hl213_1
            have HR213_2 := Aside0.mk hi213_2
            have HC213_2 := Aside0.mk hl213_2
            clear hi213_2 hl213_2
            replace p213 := eq_true p213
            replace q213 := eq_true q213
            go_wp2_with (first | ((with_reducible refine gate_dst (N := 6) rfl ?_); (try (refine gate_guard (by rfl) ?_; dsimp only)); refine box_event ?hg (N := 6) ?hd (cs := #[.int .i64 0, .slice none 0 0, .slice none 0 0]) (t := 27) ?hr ?_; (case hd => rfl); (case hg => rfl); (case hr => first | (go_simp; done) | (go_simp; rfl)); intro gb214 hg w23 hbox hb; have BK214 := Aside0.mk (hbox); have GW214 := Aside0.mk ((by rw [hg]; exact (below_size (bB HB)) : w.heap.size ≤ gb214)); have GE214 := Aside0.mk ((by rw [hg]; exact (below_size (bB HB)) : w.heap.size ≤ gb214)); replace HB := bs HB hb; have NB209_214 := Aside0.mk ((by rw [hg]; exact Nat.ne_of_lt (blk_lt (bU BK209)) : gb209 ≠ gb214)); have NB214_209 := Aside0.mk ((by rw [hg]; exact Nat.ne_of_gt (blk_lt (bU BK209)) : gb214 ≠ gb209)); replace BK209 := bb BK209 hb; clear hb hbox hg; have hnb24 := NB214_209.out; have hnc24 := NB209_214.out; have hcz25_0 := bC0 BK214; have hcz25_1 := bC1 BK214; have hcz25_2 := bC2 BK214; have hfz25_0 := blk_frozen BK214.out 0; have hfz25_1 := blk_frozen BK214.out 1; have hfz25_2 := blk_frozen BK214.out 2) | ((with_reducible refine gate_callee (f := 43) rfl ?_); refine goesA_ (some 43) rfl rfl Try.func43 rfl #[.agg #[.int .i64 ((rd_T27 l0_2 x38_2).f0), .slice A213_1 ((rd_T27 l0_2 x38_2).f1).length c213_1, .slice A213_2 ((rd_T27 l0_2 x38_2).f2).length c213_2]] rfl ?_; (with_reducible refine (ih k2 (by have := HJ1.out; have := HK2.out; omega) ((rd_T27 l0_2 x38_2).f0) _ _ ((rd_T27 l0_2 x38_2).f1) _ _ ((rd_T27 l0_2 x38_2).f2) t215 _ ?side1 ?side2 ?side3 ?side4 A17.out).mono ?_); (case side1 => exact Kd.C_below HR213_1.out (bB HB)); (case side2 => exact HC213_1.out); (case side3 => exact Kd.C_below HR213_2.out (bB HB)); (case side4 => exact HC213_2.out); rintro e w26 ⟨rfl, hb⟩; refine ⟨_, rfl, ?_⟩; replace BK209 := Aside0.mk (blk_below (g := gb209) (o := .cells #[.int .i64 a0_0, .slice A0_1 l0_1.length c0_1, .slice (some ad213) l0_2.length c0_2] 27 (0, 0)) (bF BK209) hb); replace BK214 := Aside0.mk (blk_below (g := gb214) (o := .cells #[.int .i64 ((rd_T27 l0_2 x38_2).f0), .slice A213_1 ((rd_T27 l0_2 x38_2).f1).length c213_1, .slice A213_2 ((rd_T27 l0_2 x38_2).f2).length c213_2] 27 (0, 0)) (bP3 BK214) hb); replace HB := bs HB hb; (try clear hb); (try clear hb2); (try clear hk); (try clear hi)))
            go_ret
            exact ⟨by first | rfl | (simp [errW_none, errW_some] <;> rfl) | (simp [*, errW_none, errW_some] <;> rfl), bB HB⟩
          ·rw [if_neg c16] at H
           exact absurd H (by simp)
         ·rw [if_neg c15] at H
          exact absurd H (by simp)
        ·rw [if_neg c14] at H
         have c14b0 : decide (x38_2 < (l0_2.length : Int)) = false := decide_eq_false c14
         clear c14
         obtain rfl := Option.some.inj H
         go_wp2
         go_ret
         exact ⟨by first | rfl | (simp [errW_none, errW_some] <;> rfl) | (simp [*, errW_none, errW_some] <;> rfl), bB HB⟩
     ·rw [if_neg c12] at H
      have c12b0 : (t212 == 0) = false := beq_eq_false_iff_ne.mpr c12
      have c12b1 : (t212 != 0) = true := bne_iff_ne.mpr c12
      obtain rfl := Option.some.inj H
      have hcz27_0 := bC0 BK209
      have hcz27_1 := bC1 BK209
      have hcz27_2 := bC2 BK209
      have hfz27_0 := blk_frozen BK209.out 0
      have hfz27_1 := blk_frozen BK209.out 1
      have hfz27_2 := blk_frozen BK209.out 2
      go_wp2_with (first | (go_at_call 54; (with_reducible refine (threshold_level_1.calls _ _ l0_1 false _ ?side1 ?side2 A8.out).mono ?_); (case side1 => exact Kd.uC (Kd.C_below HR0_1.out HB.out)); (case side2 => exact HC0_1.out); rintro e w' ⟨rfl, ⟨nd, rfl⟩⟩) | ((with_reducible refine gate_callee (f := 57) rfl ?_); refine goesA_ (some 29) rfl rfl Try.func57 rfl #[.slice A0_1 l0_1.length c0_1] rfl ?_; (with_reducible refine (nodeset_Of.calls kj1 _ _ l0_1 t211 t212 _ ?side1 ?side2 A11.out).mono ?_); (case side1 => exact Kd.uC (Kd.C_below HR0_1.out (bB HB))); (case side2 => exact HC0_1.out); rintro e w' ⟨rfl, ⟨nd, rfl⟩⟩; refine ⟨_, rfl, ?_⟩))
      go_ret
      exact ⟨by first | rfl | (simp [errW_none, errW_some] <;> rfl) | (simp [*, errW_none, errW_some] <;> rfl), bB HB⟩
def threshold_Valid.f (k : Nat) (a0_0 : Int) (l0_1 : List Int) (l0_2 : List (S27)) : Option (Int) := (threshold_Depth.f k a0_0 l0_1 l0_2).bind fun t217 => (if t217 > 4 then (some 3) else ((threshold_Size.f k a0_0 l0_1 l0_2).bind fun t218 => (if t218 > 200 then (some 3) else ((threshold_level.f k a0_0 l0_1 l0_2).bind fun t219 => (some t219)))))
set_option maxHeartbeats 8000000 in
set_option maxRecDepth 100000 in
theorem threshold_Valid.calls (k : Nat) (a0_0 : Int) (A0_1 : Option Addr) (c0_1 : Nat) (l0_1 : List Int) (A0_2 : Option Addr) (c0_2 : Nat) (l0_2 : List (S27)) (r : Int) (w : World) (hr0_1 : Kd.C (Kd.int .i64) w A0_1 l0_1.length l0_1) (hc0_1 : l0_1.length ≤ c0_1) (hr0_2 : Kd.C k27 w A0_2 l0_2.length l0_2) (hc0_2 : l0_2.length ≤ c0_2) (h : threshold_Valid.f k a0_0 l0_1 l0_2 = some r) :
 Calls Try.prog 22 #[.agg #[.int .i64 a0_0, .slice A0_1 l0_1.length c0_1, .slice A0_2 l0_2.length c0_2]] w fun e w' => e = .returned (.int .i64 r) ∧ Below w.heap.size w w' := by
 have hu27 := Try.underlying27
 have HR0_1 := Aside0.mk hr0_1
 have HC0_1 := Aside0.mk hc0_1
 clear hr0_1 hc0_1
 have HR0_2 := Aside0.mk hr0_2
 have HC0_2 := Aside0.mk hc0_2
 clear hr0_2 hc0_2
 have HB := Aside0.mk (Below.refl w.heap.size w)
 have H : ((threshold_Depth.f k a0_0 l0_1 l0_2).bind fun t217 => (if t217 > 4 then (some 3) else ((threshold_Size.f k a0_0 l0_1 l0_2).bind fun t218 => (if t218 > 200 then (some 3) else ((threshold_level.f k a0_0 l0_1 l0_2).bind fun t219 => (some t219)))))) = some r := h
 clear h
 replace H := Option.bind_eq_some_iff.mp H
 obtain ⟨t217, A20, H⟩ := H
 replace H : (if t217 > 4 then (some 3) else ((threshold_Size.f k a0_0 l0_1 l0_2).bind fun t218 => (if t218 > 200 then (some 3) else ((threshold_level.f k a0_0 l0_1 l0_2).bind fun t219 => (some t219))))) = some r := H
 have A2 := Aside0.mk A20
 clear A20
 by_cases c3 : t217 > 4
 ·rw [if_pos c3] at H
  have c3b0 : decide (4 < t217) = true := decide_eq_true c3
  clear c3
  obtain rfl := Option.some.inj H
  go_enter Try.func22, Try.ntmps22
  go_wp2_with (first | ((with_reducible refine gate_dst (N := 1) rfl ?_); refine box_event ?hg (N := 1) ?hd (cs := #[.int .i64 a0_0, .slice A0_1 l0_1.length c0_1, .slice A0_2 l0_2.length c0_2]) (t := 27) ?hr ?_; (case hd => rfl); (case hg => rfl); (case hr => first | (go_simp; done) | (go_simp; rfl)); intro gb216 hg w4 hbox hb; have BK216 := Aside0.mk (hbox); have GW216 := Aside0.mk ((by rw [hg]; exact (below_size (bB HB)) : w.heap.size ≤ gb216)); have GE216 := Aside0.mk ((by rw [hg]; exact (below_size (bB HB)) : w.heap.size ≤ gb216)); replace HB := bs HB hb; clear hb hbox hg; have hcz5_0 := bC0 BK216; have hcz5_1 := bC1 BK216; have hcz5_2 := bC2 BK216; have hfz5_0 := blk_frozen BK216.out 0; have hfz5_1 := blk_frozen BK216.out 1; have hfz5_2 := blk_frozen BK216.out 2) | ((with_reducible refine gate_callee (f := 41) rfl ?_); refine goesA_ (some 4) rfl rfl Try.func41 rfl #[.agg #[.int .i64 a0_0, .slice A0_1 l0_1.length c0_1, .slice A0_2 l0_2.length c0_2]] rfl ?_; (with_reducible refine (threshold_Depth.calls k a0_0 _ _ l0_1 _ _ l0_2 t217 _ ?side1 ?side2 ?side3 ?side4 A2.out).mono ?_); (case side1 => exact Kd.uC (Kd.C_below HR0_1.out HB.out)); (case side2 => exact HC0_1.out); (case side3 => exact Kd.uC (Kd.C_below HR0_2.out HB.out)); (case side4 => exact HC0_2.out); rintro e w6 ⟨rfl, hb⟩; refine ⟨_, rfl, ?_⟩; replace BK216 := bb BK216 hb; replace HB := bs HB hb; (try clear hb); (try clear hb2); (try clear hk); (try clear hi)))
  go_ret
  exact ⟨by first | rfl | (simp [errW_none, errW_some] <;> rfl) | (simp [*, errW_none, errW_some] <;> rfl), bB HB⟩
 ·rw [if_neg c3] at H
  have c3b0 : decide (4 < t217) = false := decide_eq_false c3
  clear c3
  replace H := Option.bind_eq_some_iff.mp H
  obtain ⟨t218, A70, H⟩ := H
  replace H : (if t218 > 200 then (some 3) else ((threshold_level.f k a0_0 l0_1 l0_2).bind fun t219 => (some t219))) = some r := H
  have A7 := Aside0.mk A70
  clear A70
  by_cases c8 : t218 > 200
  ·rw [if_pos c8] at H
   have c8b0 : decide (200 < t218) = true := decide_eq_true c8
   clear c8
   obtain rfl := Option.some.inj H
   go_enter Try.func22, Try.ntmps22
   go_wp2_with (first | ((with_reducible refine gate_dst (N := 1) rfl ?_); refine box_event ?hg (N := 1) ?hd (cs := #[.int .i64 a0_0, .slice A0_1 l0_1.length c0_1, .slice A0_2 l0_2.length c0_2]) (t := 27) ?hr ?_; (case hd => rfl); (case hg => rfl); (case hr => first | (go_simp; done) | (go_simp; rfl)); intro gb216 hg w9 hbox hb; have BK216 := Aside0.mk (hbox); have GW216 := Aside0.mk ((by rw [hg]; exact (below_size (bB HB)) : w.heap.size ≤ gb216)); have GE216 := Aside0.mk ((by rw [hg]; exact (below_size (bB HB)) : w.heap.size ≤ gb216)); replace HB := bs HB hb; clear hb hbox hg; have hcz10_0 := bC0 BK216; have hcz10_1 := bC1 BK216; have hcz10_2 := bC2 BK216; have hfz10_0 := blk_frozen BK216.out 0; have hfz10_1 := blk_frozen BK216.out 1; have hfz10_2 := blk_frozen BK216.out 2) | ((with_reducible refine gate_callee (f := 41) rfl ?_); refine goesA_ (some 4) rfl rfl Try.func41 rfl #[.agg #[.int .i64 a0_0, .slice A0_1 l0_1.length c0_1, .slice A0_2 l0_2.length c0_2]] rfl ?_; (with_reducible refine (threshold_Depth.calls k a0_0 _ _ l0_1 _ _ l0_2 t217 _ ?side1 ?side2 ?side3 ?side4 A2.out).mono ?_); (case side1 => exact Kd.uC (Kd.C_below HR0_1.out HB.out)); (case side2 => exact HC0_1.out); (case side3 => exact Kd.uC (Kd.C_below HR0_2.out HB.out)); (case side4 => exact HC0_2.out); rintro e w11 ⟨rfl, hb⟩; refine ⟨_, rfl, ?_⟩; replace BK216 := bb BK216 hb; replace HB := bs HB hb; (try clear hb); (try clear hb2); (try clear hk); (try clear hi); have hcz12_0 := bC0 BK216; have hcz12_1 := bC1 BK216; have hcz12_2 := bC2 BK216; have hfz12_0 := blk_frozen BK216.out 0; have hfz12_1 := blk_frozen BK216.out 1; have hfz12_2 := blk_frozen BK216.out 2) | (go_at_call 42; (with_reducible refine (threshold_Size.calls k a0_0 _ _ l0_1 _ _ l0_2 t218 _ ?side1 ?side2 ?side3 ?side4 A7.out).mono ?_); (case side1 => exact Kd.uC (Kd.C_below HR0_1.out HB.out)); (case side2 => exact HC0_1.out); (case side3 => exact Kd.uC (Kd.C_below HR0_2.out HB.out)); (case side4 => exact HC0_2.out); rintro e w13 ⟨rfl, hb⟩; replace BK216 := bb BK216 hb; replace HB := bs HB hb; (try clear hb); (try clear hb2); (try clear hk); (try clear hi)))
   go_ret
   exact ⟨by first | rfl | (simp [errW_none, errW_some] <;> rfl) | (simp [*, errW_none, errW_some] <;> rfl), bB HB⟩
  ·rw [if_neg c8] at H
   have c8b0 : decide (200 < t218) = false := decide_eq_false c8
   clear c8
   replace H := Option.bind_eq_some_iff.mp H
   obtain ⟨t219, A140, H⟩ := H
   replace H : (some t219) = some r := H
   have A14 := Aside0.mk A140
   clear A140
   obtain rfl := Option.some.inj H
   go_enter Try.func22, Try.ntmps22
   go_wp2_with (first | ((with_reducible refine gate_dst (N := 1) rfl ?_); refine box_event ?hg (N := 1) ?hd (cs := #[.int .i64 a0_0, .slice A0_1 l0_1.length c0_1, .slice A0_2 l0_2.length c0_2]) (t := 27) ?hr ?_; (case hd => rfl); (case hg => rfl); (case hr => first | (go_simp; done) | (go_simp; rfl)); intro gb216 hg w15 hbox hb; have BK216 := Aside0.mk (hbox); have GW216 := Aside0.mk ((by rw [hg]; exact (below_size (bB HB)) : w.heap.size ≤ gb216)); have GE216 := Aside0.mk ((by rw [hg]; exact (below_size (bB HB)) : w.heap.size ≤ gb216)); replace HB := bs HB hb; clear hb hbox hg; have hcz16_0 := bC0 BK216; have hcz16_1 := bC1 BK216; have hcz16_2 := bC2 BK216; have hfz16_0 := blk_frozen BK216.out 0; have hfz16_1 := blk_frozen BK216.out 1; have hfz16_2 := blk_frozen BK216.out 2) | ((with_reducible refine gate_callee (f := 41) rfl ?_); refine goesA_ (some 4) rfl rfl Try.func41 rfl #[.agg #[.int .i64 a0_0, .slice A0_1 l0_1.length c0_1, .slice A0_2 l0_2.length c0_2]] rfl ?_; (with_reducible refine (threshold_Depth.calls k a0_0 _ _ l0_1 _ _ l0_2 t217 _ ?side1 ?side2 ?side3 ?side4 A2.out).mono ?_); (case side1 => exact Kd.uC (Kd.C_below HR0_1.out HB.out)); (case side2 => exact HC0_1.out); (case side3 => exact Kd.uC (Kd.C_below HR0_2.out HB.out)); (case side4 => exact HC0_2.out); rintro e w17 ⟨rfl, hb⟩; refine ⟨_, rfl, ?_⟩; replace BK216 := bb BK216 hb; replace HB := bs HB hb; (try clear hb); (try clear hb2); (try clear hk); (try clear hi); have hcz18_0 := bC0 BK216; have hcz18_1 := bC1 BK216; have hcz18_2 := bC2 BK216; have hfz18_0 := blk_frozen BK216.out 0; have hfz18_1 := blk_frozen BK216.out 1; have hfz18_2 := blk_frozen BK216.out 2) | (go_at_call 42; (with_reducible refine (threshold_Size.calls k a0_0 _ _ l0_1 _ _ l0_2 t218 _ ?side1 ?side2 ?side3 ?side4 A7.out).mono ?_); (case side1 => exact Kd.uC (Kd.C_below HR0_1.out HB.out)); (case side2 => exact HC0_1.out); (case side3 => exact Kd.uC (Kd.C_below HR0_2.out HB.out)); (case side4 => exact HC0_2.out); rintro e w19 ⟨rfl, hb⟩; replace BK216 := bb BK216 hb; replace HB := bs HB hb; (try clear hb); (try clear hb2); (try clear hk); (try clear hi); have hcz20_0 := bC0 BK216; have hcz20_1 := bC1 BK216; have hcz20_2 := bC2 BK216; have hfz20_0 := blk_frozen BK216.out 0; have hfz20_1 := blk_frozen BK216.out 1; have hfz20_2 := blk_frozen BK216.out 2) | ((with_reducible refine gate_callee (f := 43) rfl ?_); refine goesA_ (some 12) rfl rfl Try.func43 rfl #[.agg #[.int .i64 a0_0, .slice A0_1 l0_1.length c0_1, .slice A0_2 l0_2.length c0_2]] rfl ?_; (with_reducible refine (threshold_level.calls k a0_0 _ _ l0_1 _ _ l0_2 t219 _ ?side1 ?side2 ?side3 ?side4 A14.out).mono ?_); (case side1 => exact Kd.uC (Kd.C_below HR0_1.out HB.out)); (case side2 => exact HC0_1.out); (case side3 => exact Kd.uC (Kd.C_below HR0_2.out HB.out)); (case side4 => exact HC0_2.out); rintro e w21 ⟨rfl, hb⟩; refine ⟨_, rfl, ?_⟩; replace BK216 := bb BK216 hb; replace HB := bs HB hb; (try clear hb); (try clear hb2); (try clear hk); (try clear hi)))
   go_ret
   exact ⟨by first | rfl | (simp [errW_none, errW_some] <;> rfl) | (simp [*, errW_none, errW_some] <;> rfl), bB HB⟩
def cmp_Or_int.l0 : Nat → Int → List Int → Int → Int → Option (Int)
 | 0, _, _, _, _ => none
 | k + 1, x3, x6, x7, x8 => if x8 < x7 then (if 0 ≤ x8 then (if x8 < (x6.length : Int) then (if (rd x6 x8) = x3 then (cmp_Or_int.l0 k x3 x6 x7 (wrap64 (x8 + 1))) else (some (rd x6 x8))) else (none)) else (none)) else (some x3)
def cmp_Or_int.f (k : Nat) (l0 : List Int) : Option (Int) := cmp_Or_int.l0 k 0 l0 (l0.length : Int) 0
set_option maxHeartbeats 8000000 in
set_option maxRecDepth 100000 in
theorem cmp_Or_int.calls (k : Nat) (A0 : Option Addr) (c0 : Nat) (l0 : List Int) (r : Int) (w : World) (hr0 : Kd.C (Kd.int .i64) w A0 l0.length l0) (hc0 : l0.length ≤ c0) (h : cmp_Or_int.f k l0 = some r) :
 Calls Try.prog 73 #[.slice A0 l0.length c0] w fun e w' => e = .returned (.int .i64 r) ∧ Drawn0 w w' := by
 have HR0 := Aside0.mk hr0
 have HC0 := Aside0.mk hc0
 clear hr0 hc0
 have H : (cmp_Or_int.l0 k 0 l0 (l0.length : Int) 0) = some r := h
 clear h
 have H' := Aside0.mk H
 clear H
 go_enter Try.func73, Try.ntmps73
 go_wp2
 go_loopg [8] k (fun kq v8 w' => ∃ (x8_1 : Int), v8 = .int .i64 x8_1 ∧ Aside0 (cmp_Or_int.l0 kq 0 l0 (l0.length : Int) x8_1 = some r) ∧ Aside0 (kq ≤ k) ∧ Drawn0 w w')
 case atStart => exact ⟨(0), (by first | rfl | (simp; done) | (simp [*]; done)), H', ⟨Nat.le_refl _⟩, by repeat (first | exact Drawn0.refl _ | apply Drawn0.step)⟩
 case round =>
  clear H'
  obtain ⟨x8_1, rfl, HA, HK1, ⟨m1, rfl⟩⟩ := hrel
  cases gk with
  | zero => exact absurd HA.out (by simp [cmp_Or_int.l0])
  | succ k1 =>
   have H := HA.out
   clear HA
   simp only [cmp_Or_int.l0] at H
   by_cases c2 : x8_1 < (l0.length : Int)
   ·rw [if_pos c2] at H
    have c2b0 : decide (x8_1 < (l0.length : Int)) = true := decide_eq_true c2
    clear c2
    by_cases c3 : 0 ≤ x8_1
    ·rw [if_pos c3] at H
     have c3b0 : decide (0 ≤ x8_1) = true := decide_eq_true c3
     clear c3
     by_cases c4 : x8_1 < (l0.length : Int)
     ·rw [if_pos c4] at H
      have c4b0 : decide (x8_1 < (l0.length : Int)) = true := decide_eq_true c4
      clear c4
      by_cases c5 : (rd l0 x8_1) = 0
      ·rw [if_pos c5] at H
       have c5b0 : ((rd l0 x8_1) == 0) = true := beq_iff_eq.mpr c5
       have c5b1 : ((rd l0 x8_1) != 0) = false := bne_eq_false_iff_eq.mpr c5
       clear c5
       have H' := Aside0.mk H
       clear H
       have p220 : 0 ≤ (x8_1 : Int) := of_decide_eq_true (by first | (with_reducible assumption) | assumption)
       have q220 : x8_1 < (l0.length : Int) := of_decide_eq_true (by first | (with_reducible assumption) | assumption)
       obtain ⟨ad220, e220, hx220_0⟩ := Kd.at_int HR0.out x8_1 p220 q220
       cases e220
       replace p220 := eq_true p220
       replace q220 := eq_true q220
       go_wp2
       go_roundg k1
       case measure => have := HK1.out; omega
       case rel => exact ⟨(wrap64 (x8_1 + 1)), (by first | rfl | (simp; done) | (simp [*]; done)), H', ⟨by have := HK1.out; omega⟩, by repeat (first | exact Drawn0.refl _ | apply Drawn0.step)⟩
      ·rw [if_neg c5] at H
       have c5b0 : ((rd l0 x8_1) == 0) = false := beq_eq_false_iff_ne.mpr c5
       have c5b1 : ((rd l0 x8_1) != 0) = true := bne_iff_ne.mpr c5
       obtain rfl := Option.some.inj H
       have p220 : 0 ≤ (x8_1 : Int) := of_decide_eq_true (by first | (with_reducible assumption) | assumption)
       have q220 : x8_1 < (l0.length : Int) := of_decide_eq_true (by first | (with_reducible assumption) | assumption)
       obtain ⟨ad220, e220, hx220_0⟩ := Kd.at_int HR0.out x8_1 p220 q220
       cases e220
       replace p220 := eq_true p220
       replace q220 := eq_true q220
       go_wp2
       go_ret
       exact ⟨by first | rfl | (simp; done) | (simp [*]; done), by repeat (first | exact Drawn0.refl _ | apply Drawn0.step)⟩
     ·rw [if_neg c4] at H
      exact absurd H (by simp)
    ·rw [if_neg c3] at H
     exact absurd H (by simp)
   ·rw [if_neg c2] at H
    have c2b0 : decide (x8_1 < (l0.length : Int)) = false := decide_eq_false c2
    clear c2
    obtain rfl := Option.some.inj H
    go_wp2
    go_ret
    exact ⟨by first | rfl | (simp; done) | (simp [*]; done), by repeat (first | exact Drawn0.refl _ | apply Drawn0.step)⟩
def cmp_isNaN_int.f (a0 : Int) : Option (Bool) := some (a0 != a0)
set_option maxHeartbeats 8000000 in
set_option maxRecDepth 100000 in
theorem cmp_isNaN_int.calls (a0 : Int) (r : Bool) (w : World) (h : cmp_isNaN_int.f a0 = some r) :
 Calls Try.prog 88 #[.int .i64 a0] w fun e w' => e = .returned (.bool r) ∧ Drawn0 w w' := by
 have H : (some (a0 != a0)) = some r := h
 clear h
 obtain rfl := Option.some.inj H
 go_enter Try.func88, Try.ntmps88
 go_wp2
 go_ret
 exact ⟨by first | rfl | (simp; done) | (simp [*]; done), by repeat (first | exact Drawn0.refl _ | apply Drawn0.step)⟩
def cmp_Compare_int.f (a0 : Int) (a1 : Int) : Option (Int) := (cmp_isNaN_int.f a0).bind fun t221 => ((cmp_isNaN_int.f a1).bind fun t222 => (if t221 = true then (if t222 = true then (some 0) else (some (-1))) else (if t222 = true then (some 1) else (if a0 < a1 then (some (-1)) else (if a0 > a1 then (some 1) else (some 0))))))
set_option maxHeartbeats 8000000 in
set_option maxRecDepth 100000 in
theorem cmp_Compare_int.calls (a0 : Int) (a1 : Int) (r : Int) (w : World) (h : cmp_Compare_int.f a0 a1 = some r) :
 Calls Try.prog 74 #[.int .i64 a0, .int .i64 a1] w fun e w' => e = .returned (.int .i64 r) ∧ Drawn0 w w' := by
 have H : ((cmp_isNaN_int.f a0).bind fun t221 => ((cmp_isNaN_int.f a1).bind fun t222 => (if t221 = true then (if t222 = true then (some 0) else (some (-1))) else (if t222 = true then (some 1) else (if a0 < a1 then (some (-1)) else (if a0 > a1 then (some 1) else (some 0))))))) = some r := h
 clear h
 replace H := Option.bind_eq_some_iff.mp H
 obtain ⟨t221, A30, H⟩ := H
 replace H : ((cmp_isNaN_int.f a1).bind fun t222 => (if t221 = true then (if t222 = true then (some 0) else (some (-1))) else (if t222 = true then (some 1) else (if a0 < a1 then (some (-1)) else (if a0 > a1 then (some 1) else (some 0)))))) = some r := H
 have A3 := Aside0.mk A30
 clear A30
 replace H := Option.bind_eq_some_iff.mp H
 obtain ⟨t222, A40, H⟩ := H
 replace H : (if t221 = true then (if t222 = true then (some 0) else (some (-1))) else (if t222 = true then (some 1) else (if a0 < a1 then (some (-1)) else (if a0 > a1 then (some 1) else (some 0))))) = some r := H
 have A4 := Aside0.mk A40
 clear A40
 by_cases c5 : t221 = true
 ·subst c5
  have H1 : (if t222 = true then (some 0) else (some (-1))) = some r := by rw [if_pos rfl] at H; exact H
  clear H
  have H := H1
  clear H1
  by_cases c6 : t222 = true
  ·subst c6
   have H1 : (some 0) = some r := by rw [if_pos rfl] at H; exact H
   clear H
   have H := H1
   clear H1
   obtain rfl := Option.some.inj H
   go_enter Try.func74, Try.ntmps74
   go_wp2_with (first | ((with_reducible refine gate_callee (f := 88) rfl ?_); refine goesA_ (some 8) rfl rfl Try.func88 rfl #[.int .i64 a0] rfl ?_; (with_reducible refine (cmp_isNaN_int.calls a0 true _ A3.out).mono ?_); rintro e w' ⟨rfl, ⟨nd, rfl⟩⟩; refine ⟨_, rfl, ?_⟩) | ((with_reducible refine gate_callee (f := 88) rfl ?_); refine goesA_ (some 10) rfl rfl Try.func88 rfl #[.int .i64 a1] rfl ?_; (with_reducible refine (cmp_isNaN_int.calls a1 true _ A4.out).mono ?_); rintro e w' ⟨rfl, ⟨nd, rfl⟩⟩; refine ⟨_, rfl, ?_⟩))
   go_ret
   exact ⟨by first | rfl | (simp; done) | (simp [*]; done), by repeat (first | exact Drawn0.refl _ | apply Drawn0.step)⟩
  ·replace c6 := Bool.eq_false_iff.mpr c6
   subst c6
   have H1 : (some (-1)) = some r := by rw [if_neg (show ¬ (false = true) by decide)] at H; exact H
   clear H
   have H := H1
   clear H1
   obtain rfl := Option.some.inj H
   go_enter Try.func74, Try.ntmps74
   go_wp2_with (first | ((with_reducible refine gate_callee (f := 88) rfl ?_); refine goesA_ (some 8) rfl rfl Try.func88 rfl #[.int .i64 a0] rfl ?_; (with_reducible refine (cmp_isNaN_int.calls a0 true _ A3.out).mono ?_); rintro e w' ⟨rfl, ⟨nd, rfl⟩⟩; refine ⟨_, rfl, ?_⟩) | ((with_reducible refine gate_callee (f := 88) rfl ?_); refine goesA_ (some 10) rfl rfl Try.func88 rfl #[.int .i64 a1] rfl ?_; (with_reducible refine (cmp_isNaN_int.calls a1 false _ A4.out).mono ?_); rintro e w' ⟨rfl, ⟨nd, rfl⟩⟩; refine ⟨_, rfl, ?_⟩))
   go_ret
   exact ⟨by first | rfl | (simp; done) | (simp [*]; done), by repeat (first | exact Drawn0.refl _ | apply Drawn0.step)⟩
 ·replace c5 := Bool.eq_false_iff.mpr c5
  subst c5
  have H1 : (if t222 = true then (some 1) else (if a0 < a1 then (some (-1)) else (if a0 > a1 then (some 1) else (some 0)))) = some r := by rw [if_neg (show ¬ (false = true) by decide)] at H; exact H
  clear H
  have H := H1
  clear H1
  by_cases c7 : t222 = true
  ·subst c7
   have H1 : (some 1) = some r := by rw [if_pos rfl] at H; exact H
   clear H
   have H := H1
   clear H1
   obtain rfl := Option.some.inj H
   go_enter Try.func74, Try.ntmps74
   go_wp2_with (first | ((with_reducible refine gate_callee (f := 88) rfl ?_); refine goesA_ (some 8) rfl rfl Try.func88 rfl #[.int .i64 a0] rfl ?_; (with_reducible refine (cmp_isNaN_int.calls a0 false _ A3.out).mono ?_); rintro e w' ⟨rfl, ⟨nd, rfl⟩⟩; refine ⟨_, rfl, ?_⟩) | ((with_reducible refine gate_callee (f := 88) rfl ?_); refine goesA_ (some 10) rfl rfl Try.func88 rfl #[.int .i64 a1] rfl ?_; (with_reducible refine (cmp_isNaN_int.calls a1 true _ A4.out).mono ?_); rintro e w' ⟨rfl, ⟨nd, rfl⟩⟩; refine ⟨_, rfl, ?_⟩))
   go_ret
   exact ⟨by first | rfl | (simp; done) | (simp [*]; done), by repeat (first | exact Drawn0.refl _ | apply Drawn0.step)⟩
  ·replace c7 := Bool.eq_false_iff.mpr c7
   subst c7
   have H1 : (if a0 < a1 then (some (-1)) else (if a0 > a1 then (some 1) else (some 0))) = some r := by rw [if_neg (show ¬ (false = true) by decide)] at H; exact H
   clear H
   have H := H1
   clear H1
   by_cases c8 : a0 < a1
   ·rw [if_pos c8] at H
    have c8b0 : decide (a0 < a1) = true := decide_eq_true c8
    clear c8
    obtain rfl := Option.some.inj H
    go_enter Try.func74, Try.ntmps74
    go_wp2_with (first | ((with_reducible refine gate_callee (f := 88) rfl ?_); refine goesA_ (some 8) rfl rfl Try.func88 rfl #[.int .i64 a0] rfl ?_; (with_reducible refine (cmp_isNaN_int.calls a0 false _ A3.out).mono ?_); rintro e w' ⟨rfl, ⟨nd, rfl⟩⟩; refine ⟨_, rfl, ?_⟩) | ((with_reducible refine gate_callee (f := 88) rfl ?_); refine goesA_ (some 10) rfl rfl Try.func88 rfl #[.int .i64 a1] rfl ?_; (with_reducible refine (cmp_isNaN_int.calls a1 false _ A4.out).mono ?_); rintro e w' ⟨rfl, ⟨nd, rfl⟩⟩; refine ⟨_, rfl, ?_⟩))
    go_ret
    exact ⟨by first | rfl | (simp; done) | (simp [*]; done), by repeat (first | exact Drawn0.refl _ | apply Drawn0.step)⟩
   ·rw [if_neg c8] at H
    have c8b0 : decide (a0 < a1) = false := decide_eq_false c8
    clear c8
    by_cases c9 : a0 > a1
    ·rw [if_pos c9] at H
     have c9b0 : decide (a1 < a0) = true := decide_eq_true c9
     clear c9
     obtain rfl := Option.some.inj H
     go_enter Try.func74, Try.ntmps74
     go_wp2_with (first | ((with_reducible refine gate_callee (f := 88) rfl ?_); refine goesA_ (some 8) rfl rfl Try.func88 rfl #[.int .i64 a0] rfl ?_; (with_reducible refine (cmp_isNaN_int.calls a0 false _ A3.out).mono ?_); rintro e w' ⟨rfl, ⟨nd, rfl⟩⟩; refine ⟨_, rfl, ?_⟩) | ((with_reducible refine gate_callee (f := 88) rfl ?_); refine goesA_ (some 10) rfl rfl Try.func88 rfl #[.int .i64 a1] rfl ?_; (with_reducible refine (cmp_isNaN_int.calls a1 false _ A4.out).mono ?_); rintro e w' ⟨rfl, ⟨nd, rfl⟩⟩; refine ⟨_, rfl, ?_⟩))
     go_ret
     exact ⟨by first | rfl | (simp; done) | (simp [*]; done), by repeat (first | exact Drawn0.refl _ | apply Drawn0.step)⟩
    ·rw [if_neg c9] at H
     have c9b0 : decide (a1 < a0) = false := decide_eq_false c9
     clear c9
     obtain rfl := Option.some.inj H
     go_enter Try.func74, Try.ntmps74
     go_wp2_with (first | ((with_reducible refine gate_callee (f := 88) rfl ?_); refine goesA_ (some 8) rfl rfl Try.func88 rfl #[.int .i64 a0] rfl ?_; (with_reducible refine (cmp_isNaN_int.calls a0 false _ A3.out).mono ?_); rintro e w' ⟨rfl, ⟨nd, rfl⟩⟩; refine ⟨_, rfl, ?_⟩) | ((with_reducible refine gate_callee (f := 88) rfl ?_); refine goesA_ (some 10) rfl rfl Try.func88 rfl #[.int .i64 a1] rfl ?_; (with_reducible refine (cmp_isNaN_int.calls a1 false _ A4.out).mono ?_); rintro e w' ⟨rfl, ⟨nd, rfl⟩⟩; refine ⟨_, rfl, ?_⟩))
     go_ret
     exact ⟨by first | rfl | (simp; done) | (simp [*]; done), by repeat (first | exact Drawn0.refl _ | apply Drawn0.step)⟩
def bits_OnesCount64.f (a0 : Int) : Option (Int) := some (Go.bits .and .i64 (wrap64 (IntKind.u64.wrap ((IntKind.u64.wrap ((IntKind.u64.wrap ((Go.bits .and .u64 (IntKind.u64.wrap (((IntKind.u64.wrap ((Go.bits .and .u64 ((IntKind.u64.wrap ((Go.bits .and .u64 (a0 / 2) 6148914691236517205) + (Go.bits .and .u64 a0 6148914691236517205))) / 4) 3689348814741910323) + (Go.bits .and .u64 (IntKind.u64.wrap ((Go.bits .and .u64 (a0 / 2) 6148914691236517205) + (Go.bits .and .u64 a0 6148914691236517205))) 3689348814741910323))) / 16) + (IntKind.u64.wrap ((Go.bits .and .u64 ((IntKind.u64.wrap ((Go.bits .and .u64 (a0 / 2) 6148914691236517205) + (Go.bits .and .u64 a0 6148914691236517205))) / 4) 3689348814741910323) + (Go.bits .and .u64 (IntKind.u64.wrap ((Go.bits .and .u64 (a0 / 2) 6148914691236517205) + (Go.bits .and .u64 a0 6148914691236517205))) 3689348814741910323))))) 1085102592571150095) + ((Go.bits .and .u64 (IntKind.u64.wrap (((IntKind.u64.wrap ((Go.bits .and .u64 ((IntKind.u64.wrap ((Go.bits .and .u64 (a0 / 2) 6148914691236517205) + (Go.bits .and .u64 a0 6148914691236517205))) / 4) 3689348814741910323) + (Go.bits .and .u64 (IntKind.u64.wrap ((Go.bits .and .u64 (a0 / 2) 6148914691236517205) + (Go.bits .and .u64 a0 6148914691236517205))) 3689348814741910323))) / 16) + (IntKind.u64.wrap ((Go.bits .and .u64 ((IntKind.u64.wrap ((Go.bits .and .u64 (a0 / 2) 6148914691236517205) + (Go.bits .and .u64 a0 6148914691236517205))) / 4) 3689348814741910323) + (Go.bits .and .u64 (IntKind.u64.wrap ((Go.bits .and .u64 (a0 / 2) 6148914691236517205) + (Go.bits .and .u64 a0 6148914691236517205))) 3689348814741910323))))) 1085102592571150095) / 256))) + ((IntKind.u64.wrap ((Go.bits .and .u64 (IntKind.u64.wrap (((IntKind.u64.wrap ((Go.bits .and .u64 ((IntKind.u64.wrap ((Go.bits .and .u64 (a0 / 2) 6148914691236517205) + (Go.bits .and .u64 a0 6148914691236517205))) / 4) 3689348814741910323) + (Go.bits .and .u64 (IntKind.u64.wrap ((Go.bits .and .u64 (a0 / 2) 6148914691236517205) + (Go.bits .and .u64 a0 6148914691236517205))) 3689348814741910323))) / 16) + (IntKind.u64.wrap ((Go.bits .and .u64 ((IntKind.u64.wrap ((Go.bits .and .u64 (a0 / 2) 6148914691236517205) + (Go.bits .and .u64 a0 6148914691236517205))) / 4) 3689348814741910323) + (Go.bits .and .u64 (IntKind.u64.wrap ((Go.bits .and .u64 (a0 / 2) 6148914691236517205) + (Go.bits .and .u64 a0 6148914691236517205))) 3689348814741910323))))) 1085102592571150095) + ((Go.bits .and .u64 (IntKind.u64.wrap (((IntKind.u64.wrap ((Go.bits .and .u64 ((IntKind.u64.wrap ((Go.bits .and .u64 (a0 / 2) 6148914691236517205) + (Go.bits .and .u64 a0 6148914691236517205))) / 4) 3689348814741910323) + (Go.bits .and .u64 (IntKind.u64.wrap ((Go.bits .and .u64 (a0 / 2) 6148914691236517205) + (Go.bits .and .u64 a0 6148914691236517205))) 3689348814741910323))) / 16) + (IntKind.u64.wrap ((Go.bits .and .u64 ((IntKind.u64.wrap ((Go.bits .and .u64 (a0 / 2) 6148914691236517205) + (Go.bits .and .u64 a0 6148914691236517205))) / 4) 3689348814741910323) + (Go.bits .and .u64 (IntKind.u64.wrap ((Go.bits .and .u64 (a0 / 2) 6148914691236517205) + (Go.bits .and .u64 a0 6148914691236517205))) 3689348814741910323))))) 1085102592571150095) / 256))) / 65536))) + ((IntKind.u64.wrap ((IntKind.u64.wrap ((Go.bits .and .u64 (IntKind.u64.wrap (((IntKind.u64.wrap ((Go.bits .and .u64 ((IntKind.u64.wrap ((Go.bits .and .u64 (a0 / 2) 6148914691236517205) + (Go.bits .and .u64 a0 6148914691236517205))) / 4) 3689348814741910323) + (Go.bits .and .u64 (IntKind.u64.wrap ((Go.bits .and .u64 (a0 / 2) 6148914691236517205) + (Go.bits .and .u64 a0 6148914691236517205))) 3689348814741910323))) / 16) + (IntKind.u64.wrap ((Go.bits .and .u64 ((IntKind.u64.wrap ((Go.bits .and .u64 (a0 / 2) 6148914691236517205) + (Go.bits .and .u64 a0 6148914691236517205))) / 4) 3689348814741910323) + (Go.bits .and .u64 (IntKind.u64.wrap ((Go.bits .and .u64 (a0 / 2) 6148914691236517205) + (Go.bits .and .u64 a0 6148914691236517205))) 3689348814741910323))))) 1085102592571150095) + ((Go.bits .and .u64 (IntKind.u64.wrap (((IntKind.u64.wrap ((Go.bits .and .u64 ((IntKind.u64.wrap ((Go.bits .and .u64 (a0 / 2) 6148914691236517205) + (Go.bits .and .u64 a0 6148914691236517205))) / 4) 3689348814741910323) + (Go.bits .and .u64 (IntKind.u64.wrap ((Go.bits .and .u64 (a0 / 2) 6148914691236517205) + (Go.bits .and .u64 a0 6148914691236517205))) 3689348814741910323))) / 16) + (IntKind.u64.wrap ((Go.bits .and .u64 ((IntKind.u64.wrap ((Go.bits .and .u64 (a0 / 2) 6148914691236517205) + (Go.bits .and .u64 a0 6148914691236517205))) / 4) 3689348814741910323) + (Go.bits .and .u64 (IntKind.u64.wrap ((Go.bits .and .u64 (a0 / 2) 6148914691236517205) + (Go.bits .and .u64 a0 6148914691236517205))) 3689348814741910323))))) 1085102592571150095) / 256))) + ((IntKind.u64.wrap ((Go.bits .and .u64 (IntKind.u64.wrap (((IntKind.u64.wrap ((Go.bits .and .u64 ((IntKind.u64.wrap ((Go.bits .and .u64 (a0 / 2) 6148914691236517205) + (Go.bits .and .u64 a0 6148914691236517205))) / 4) 3689348814741910323) + (Go.bits .and .u64 (IntKind.u64.wrap ((Go.bits .and .u64 (a0 / 2) 6148914691236517205) + (Go.bits .and .u64 a0 6148914691236517205))) 3689348814741910323))) / 16) + (IntKind.u64.wrap ((Go.bits .and .u64 ((IntKind.u64.wrap ((Go.bits .and .u64 (a0 / 2) 6148914691236517205) + (Go.bits .and .u64 a0 6148914691236517205))) / 4) 3689348814741910323) + (Go.bits .and .u64 (IntKind.u64.wrap ((Go.bits .and .u64 (a0 / 2) 6148914691236517205) + (Go.bits .and .u64 a0 6148914691236517205))) 3689348814741910323))))) 1085102592571150095) + ((Go.bits .and .u64 (IntKind.u64.wrap (((IntKind.u64.wrap ((Go.bits .and .u64 ((IntKind.u64.wrap ((Go.bits .and .u64 (a0 / 2) 6148914691236517205) + (Go.bits .and .u64 a0 6148914691236517205))) / 4) 3689348814741910323) + (Go.bits .and .u64 (IntKind.u64.wrap ((Go.bits .and .u64 (a0 / 2) 6148914691236517205) + (Go.bits .and .u64 a0 6148914691236517205))) 3689348814741910323))) / 16) + (IntKind.u64.wrap ((Go.bits .and .u64 ((IntKind.u64.wrap ((Go.bits .and .u64 (a0 / 2) 6148914691236517205) + (Go.bits .and .u64 a0 6148914691236517205))) / 4) 3689348814741910323) + (Go.bits .and .u64 (IntKind.u64.wrap ((Go.bits .and .u64 (a0 / 2) 6148914691236517205) + (Go.bits .and .u64 a0 6148914691236517205))) 3689348814741910323))))) 1085102592571150095) / 256))) / 65536))) / 4294967296)))) 127)
set_option maxHeartbeats 8000000 in
set_option maxRecDepth 100000 in
theorem bits_OnesCount64.calls (a0 : Int) (r : Int) (w : World) (h : bits_OnesCount64.f a0 = some r) :
 Calls Try.prog 90 #[.int .u64 a0] w fun e w' => e = .returned (.int .i64 r) ∧ Drawn0 w w' := by
 have H : (some (Go.bits .and .i64 (wrap64 (IntKind.u64.wrap ((IntKind.u64.wrap ((IntKind.u64.wrap ((Go.bits .and .u64 (IntKind.u64.wrap (((IntKind.u64.wrap ((Go.bits .and .u64 ((IntKind.u64.wrap ((Go.bits .and .u64 (a0 / 2) 6148914691236517205) + (Go.bits .and .u64 a0 6148914691236517205))) / 4) 3689348814741910323) + (Go.bits .and .u64 (IntKind.u64.wrap ((Go.bits .and .u64 (a0 / 2) 6148914691236517205) + (Go.bits .and .u64 a0 6148914691236517205))) 3689348814741910323))) / 16) + (IntKind.u64.wrap ((Go.bits .and .u64 ((IntKind.u64.wrap ((Go.bits .and .u64 (a0 / 2) 6148914691236517205) + (Go.bits .and .u64 a0 6148914691236517205))) / 4) 3689348814741910323) + (Go.bits .and .u64 (IntKind.u64.wrap ((Go.bits .and .u64 (a0 / 2) 6148914691236517205) + (Go.bits .and .u64 a0 6148914691236517205))) 3689348814741910323))))) 1085102592571150095) + ((Go.bits .and .u64 (IntKind.u64.wrap (((IntKind.u64.wrap ((Go.bits .and .u64 ((IntKind.u64.wrap ((Go.bits .and .u64 (a0 / 2) 6148914691236517205) + (Go.bits .and .u64 a0 6148914691236517205))) / 4) 3689348814741910323) + (Go.bits .and .u64 (IntKind.u64.wrap ((Go.bits .and .u64 (a0 / 2) 6148914691236517205) + (Go.bits .and .u64 a0 6148914691236517205))) 3689348814741910323))) / 16) + (IntKind.u64.wrap ((Go.bits .and .u64 ((IntKind.u64.wrap ((Go.bits .and .u64 (a0 / 2) 6148914691236517205) + (Go.bits .and .u64 a0 6148914691236517205))) / 4) 3689348814741910323) + (Go.bits .and .u64 (IntKind.u64.wrap ((Go.bits .and .u64 (a0 / 2) 6148914691236517205) + (Go.bits .and .u64 a0 6148914691236517205))) 3689348814741910323))))) 1085102592571150095) / 256))) + ((IntKind.u64.wrap ((Go.bits .and .u64 (IntKind.u64.wrap (((IntKind.u64.wrap ((Go.bits .and .u64 ((IntKind.u64.wrap ((Go.bits .and .u64 (a0 / 2) 6148914691236517205) + (Go.bits .and .u64 a0 6148914691236517205))) / 4) 3689348814741910323) + (Go.bits .and .u64 (IntKind.u64.wrap ((Go.bits .and .u64 (a0 / 2) 6148914691236517205) + (Go.bits .and .u64 a0 6148914691236517205))) 3689348814741910323))) / 16) + (IntKind.u64.wrap ((Go.bits .and .u64 ((IntKind.u64.wrap ((Go.bits .and .u64 (a0 / 2) 6148914691236517205) + (Go.bits .and .u64 a0 6148914691236517205))) / 4) 3689348814741910323) + (Go.bits .and .u64 (IntKind.u64.wrap ((Go.bits .and .u64 (a0 / 2) 6148914691236517205) + (Go.bits .and .u64 a0 6148914691236517205))) 3689348814741910323))))) 1085102592571150095) + ((Go.bits .and .u64 (IntKind.u64.wrap (((IntKind.u64.wrap ((Go.bits .and .u64 ((IntKind.u64.wrap ((Go.bits .and .u64 (a0 / 2) 6148914691236517205) + (Go.bits .and .u64 a0 6148914691236517205))) / 4) 3689348814741910323) + (Go.bits .and .u64 (IntKind.u64.wrap ((Go.bits .and .u64 (a0 / 2) 6148914691236517205) + (Go.bits .and .u64 a0 6148914691236517205))) 3689348814741910323))) / 16) + (IntKind.u64.wrap ((Go.bits .and .u64 ((IntKind.u64.wrap ((Go.bits .and .u64 (a0 / 2) 6148914691236517205) + (Go.bits .and .u64 a0 6148914691236517205))) / 4) 3689348814741910323) + (Go.bits .and .u64 (IntKind.u64.wrap ((Go.bits .and .u64 (a0 / 2) 6148914691236517205) + (Go.bits .and .u64 a0 6148914691236517205))) 3689348814741910323))))) 1085102592571150095) / 256))) / 65536))) + ((IntKind.u64.wrap ((IntKind.u64.wrap ((Go.bits .and .u64 (IntKind.u64.wrap (((IntKind.u64.wrap ((Go.bits .and .u64 ((IntKind.u64.wrap ((Go.bits .and .u64 (a0 / 2) 6148914691236517205) + (Go.bits .and .u64 a0 6148914691236517205))) / 4) 3689348814741910323) + (Go.bits .and .u64 (IntKind.u64.wrap ((Go.bits .and .u64 (a0 / 2) 6148914691236517205) + (Go.bits .and .u64 a0 6148914691236517205))) 3689348814741910323))) / 16) + (IntKind.u64.wrap ((Go.bits .and .u64 ((IntKind.u64.wrap ((Go.bits .and .u64 (a0 / 2) 6148914691236517205) + (Go.bits .and .u64 a0 6148914691236517205))) / 4) 3689348814741910323) + (Go.bits .and .u64 (IntKind.u64.wrap ((Go.bits .and .u64 (a0 / 2) 6148914691236517205) + (Go.bits .and .u64 a0 6148914691236517205))) 3689348814741910323))))) 1085102592571150095) + ((Go.bits .and .u64 (IntKind.u64.wrap (((IntKind.u64.wrap ((Go.bits .and .u64 ((IntKind.u64.wrap ((Go.bits .and .u64 (a0 / 2) 6148914691236517205) + (Go.bits .and .u64 a0 6148914691236517205))) / 4) 3689348814741910323) + (Go.bits .and .u64 (IntKind.u64.wrap ((Go.bits .and .u64 (a0 / 2) 6148914691236517205) + (Go.bits .and .u64 a0 6148914691236517205))) 3689348814741910323))) / 16) + (IntKind.u64.wrap ((Go.bits .and .u64 ((IntKind.u64.wrap ((Go.bits .and .u64 (a0 / 2) 6148914691236517205) + (Go.bits .and .u64 a0 6148914691236517205))) / 4) 3689348814741910323) + (Go.bits .and .u64 (IntKind.u64.wrap ((Go.bits .and .u64 (a0 / 2) 6148914691236517205) + (Go.bits .and .u64 a0 6148914691236517205))) 3689348814741910323))))) 1085102592571150095) / 256))) + ((IntKind.u64.wrap ((Go.bits .and .u64 (IntKind.u64.wrap (((IntKind.u64.wrap ((Go.bits .and .u64 ((IntKind.u64.wrap ((Go.bits .and .u64 (a0 / 2) 6148914691236517205) + (Go.bits .and .u64 a0 6148914691236517205))) / 4) 3689348814741910323) + (Go.bits .and .u64 (IntKind.u64.wrap ((Go.bits .and .u64 (a0 / 2) 6148914691236517205) + (Go.bits .and .u64 a0 6148914691236517205))) 3689348814741910323))) / 16) + (IntKind.u64.wrap ((Go.bits .and .u64 ((IntKind.u64.wrap ((Go.bits .and .u64 (a0 / 2) 6148914691236517205) + (Go.bits .and .u64 a0 6148914691236517205))) / 4) 3689348814741910323) + (Go.bits .and .u64 (IntKind.u64.wrap ((Go.bits .and .u64 (a0 / 2) 6148914691236517205) + (Go.bits .and .u64 a0 6148914691236517205))) 3689348814741910323))))) 1085102592571150095) + ((Go.bits .and .u64 (IntKind.u64.wrap (((IntKind.u64.wrap ((Go.bits .and .u64 ((IntKind.u64.wrap ((Go.bits .and .u64 (a0 / 2) 6148914691236517205) + (Go.bits .and .u64 a0 6148914691236517205))) / 4) 3689348814741910323) + (Go.bits .and .u64 (IntKind.u64.wrap ((Go.bits .and .u64 (a0 / 2) 6148914691236517205) + (Go.bits .and .u64 a0 6148914691236517205))) 3689348814741910323))) / 16) + (IntKind.u64.wrap ((Go.bits .and .u64 ((IntKind.u64.wrap ((Go.bits .and .u64 (a0 / 2) 6148914691236517205) + (Go.bits .and .u64 a0 6148914691236517205))) / 4) 3689348814741910323) + (Go.bits .and .u64 (IntKind.u64.wrap ((Go.bits .and .u64 (a0 / 2) 6148914691236517205) + (Go.bits .and .u64 a0 6148914691236517205))) 3689348814741910323))))) 1085102592571150095) / 256))) / 65536))) / 4294967296)))) 127)) = some r := h
 clear h
 obtain rfl := Option.some.inj H
 go_enter Try.func90, Try.ntmps90
 go_wp2
 go_ret
 exact ⟨by first | rfl | (simp; done) | (simp [*]; done), by repeat (first | exact Drawn0.refl _ | apply Drawn0.step)⟩
def bits_OnesCount.f (a0 : Int) : Option (Int) := (bits_OnesCount64.f a0).bind fun t223 => (some t223)
set_option maxHeartbeats 8000000 in
set_option maxRecDepth 100000 in
theorem bits_OnesCount.calls (a0 : Int) (r : Int) (w : World) (h : bits_OnesCount.f a0 = some r) :
 Calls Try.prog 77 #[.int .u64 a0] w fun e w' => e = .returned (.int .i64 r) ∧ Drawn0 w w' := by
 have H : ((bits_OnesCount64.f a0).bind fun t223 => (some t223)) = some r := h
 clear h
 replace H := Option.bind_eq_some_iff.mp H
 obtain ⟨t223, A20, H⟩ := H
 replace H : (some t223) = some r := H
 have A2 := Aside0.mk A20
 clear A20
 obtain rfl := Option.some.inj H
 go_enter Try.func77, Try.ntmps77
 go_wp2_with (first | ((with_reducible refine gate_callee (f := 90) rfl ?_); refine goesA_ (some 7) rfl rfl Try.func90 rfl #[.int .u64 a0] rfl ?_; (with_reducible refine (bits_OnesCount64.calls a0 t223 _ A2.out).mono ?_); rintro e w' ⟨rfl, ⟨nd, rfl⟩⟩; refine ⟨_, rfl, ?_⟩))
 go_ret
 exact ⟨by first | rfl | (simp; done) | (simp [*]; done), by repeat (first | exact Drawn0.refl _ | apply Drawn0.step)⟩
def nodeset_Size.f (a0 : Int) : Option (Int) := (nodeset_Valid.f a0).bind fun t224 => (if t224 = true then ((bits_OnesCount.f (IntKind.u64.wrap (a0))).bind fun t225 => (some t225)) else (some 0))
set_option maxHeartbeats 8000000 in
set_option maxRecDepth 100000 in
theorem nodeset_Size.calls (a0 : Int) (r : Int) (w : World) (h : nodeset_Size.f a0 = some r) :
 Calls Try.prog 70 #[.int .i64 a0] w fun e w' => e = .returned (.int .i64 r) ∧ Drawn0 w w' := by
 have H : ((nodeset_Valid.f a0).bind fun t224 => (if t224 = true then ((bits_OnesCount.f (IntKind.u64.wrap (a0))).bind fun t225 => (some t225)) else (some 0))) = some r := h
 clear h
 replace H := Option.bind_eq_some_iff.mp H
 obtain ⟨t224, A20, H⟩ := H
 replace H : (if t224 = true then ((bits_OnesCount.f (IntKind.u64.wrap (a0))).bind fun t225 => (some t225)) else (some 0)) = some r := H
 have A2 := Aside0.mk A20
 clear A20
 by_cases c3 : t224 = true
 ·subst c3
  have H1 : ((bits_OnesCount.f (IntKind.u64.wrap (a0))).bind fun t225 => (some t225)) = some r := by rw [if_pos rfl] at H; exact H
  clear H
  have H := H1
  clear H1
  replace H := Option.bind_eq_some_iff.mp H
  obtain ⟨t225, A40, H⟩ := H
  replace H : (some t225) = some r := H
  have A4 := Aside0.mk A40
  clear A40
  obtain rfl := Option.some.inj H
  go_enter Try.func70, Try.ntmps70
  go_wp2_with (first | ((with_reducible refine gate_callee (f := 46) rfl ?_); refine goesA_ (some 4) rfl rfl Try.func46 rfl #[.int .i64 a0] rfl ?_; (with_reducible refine (nodeset_Valid.calls a0 true _ A2.out).mono ?_); rintro e w' ⟨rfl, ⟨nd, rfl⟩⟩; refine ⟨_, rfl, ?_⟩) | ((with_reducible refine gate_callee (f := 77) rfl ?_); refine goesA_ (some 8) rfl rfl Try.func77 rfl #[.int .u64 (IntKind.u64.wrap (a0))] rfl ?_; (with_reducible refine (bits_OnesCount.calls (IntKind.u64.wrap (a0)) t225 _ A4.out).mono ?_); rintro e w' ⟨rfl, ⟨nd, rfl⟩⟩; refine ⟨_, rfl, ?_⟩))
  go_ret
  exact ⟨by first | rfl | (simp; done) | (simp [*]; done), by repeat (first | exact Drawn0.refl _ | apply Drawn0.step)⟩
 ·replace c3 := Bool.eq_false_iff.mpr c3
  subst c3
  have H1 : (some 0) = some r := by rw [if_neg (show ¬ (false = true) by decide)] at H; exact H
  clear H
  have H := H1
  clear H1
  obtain rfl := Option.some.inj H
  go_enter Try.func70, Try.ntmps70
  go_wp2_with (first | ((with_reducible refine gate_callee (f := 46) rfl ?_); refine goesA_ (some 4) rfl rfl Try.func46 rfl #[.int .i64 a0] rfl ?_; (with_reducible refine (nodeset_Valid.calls a0 false _ A2.out).mono ?_); rintro e w' ⟨rfl, ⟨nd, rfl⟩⟩; refine ⟨_, rfl, ?_⟩))
  go_ret
  exact ⟨by first | rfl | (simp; done) | (simp [*]; done), by repeat (first | exact Drawn0.refl _ | apply Drawn0.step)⟩
def nodeset_rank.f (a0 : Int) : Option (Int) := (nodeset_Valid.f a0).bind fun t226 => (if t226 = true then ((nodeset_Size.f a0).bind fun t227 => (some t227)) else (some (-1)))
set_option maxHeartbeats 8000000 in
set_option maxRecDepth 100000 in
theorem nodeset_rank.calls (a0 : Int) (r : Int) (w : World) (h : nodeset_rank.f a0 = some r) :
 Calls Try.prog 75 #[.int .i64 a0] w fun e w' => e = .returned (.int .i64 r) ∧ Drawn0 w w' := by
 have H : ((nodeset_Valid.f a0).bind fun t226 => (if t226 = true then ((nodeset_Size.f a0).bind fun t227 => (some t227)) else (some (-1)))) = some r := h
 clear h
 replace H := Option.bind_eq_some_iff.mp H
 obtain ⟨t226, A20, H⟩ := H
 replace H : (if t226 = true then ((nodeset_Size.f a0).bind fun t227 => (some t227)) else (some (-1))) = some r := H
 have A2 := Aside0.mk A20
 clear A20
 by_cases c3 : t226 = true
 ·subst c3
  have H1 : ((nodeset_Size.f a0).bind fun t227 => (some t227)) = some r := by rw [if_pos rfl] at H; exact H
  clear H
  have H := H1
  clear H1
  replace H := Option.bind_eq_some_iff.mp H
  obtain ⟨t227, A40, H⟩ := H
  replace H : (some t227) = some r := H
  have A4 := Aside0.mk A40
  clear A40
  obtain rfl := Option.some.inj H
  go_enter Try.func75, Try.ntmps75
  go_wp2_with (first | ((with_reducible refine gate_callee (f := 46) rfl ?_); refine goesA_ (some 4) rfl rfl Try.func46 rfl #[.int .i64 a0] rfl ?_; (with_reducible refine (nodeset_Valid.calls a0 true _ A2.out).mono ?_); rintro e w' ⟨rfl, ⟨nd, rfl⟩⟩; refine ⟨_, rfl, ?_⟩) | ((with_reducible refine gate_callee (f := 70) rfl ?_); refine goesA_ (some 7) rfl rfl Try.func70 rfl #[.int .i64 a0] rfl ?_; (with_reducible refine (nodeset_Size.calls a0 t227 _ A4.out).mono ?_); rintro e w' ⟨rfl, ⟨nd, rfl⟩⟩; refine ⟨_, rfl, ?_⟩))
  go_ret
  exact ⟨by first | rfl | (simp; done) | (simp [*]; done), by repeat (first | exact Drawn0.refl _ | apply Drawn0.step)⟩
 ·replace c3 := Bool.eq_false_iff.mpr c3
  subst c3
  have H1 : (some (-1)) = some r := by rw [if_neg (show ¬ (false = true) by decide)] at H; exact H
  clear H
  have H := H1
  clear H1
  obtain rfl := Option.some.inj H
  go_enter Try.func75, Try.ntmps75
  go_wp2_with (first | ((with_reducible refine gate_callee (f := 46) rfl ?_); refine goesA_ (some 4) rfl rfl Try.func46 rfl #[.int .i64 a0] rfl ?_; (with_reducible refine (nodeset_Valid.calls a0 false _ A2.out).mono ?_); rintro e w' ⟨rfl, ⟨nd, rfl⟩⟩; refine ⟨_, rfl, ?_⟩))
  go_ret
  exact ⟨by first | rfl | (simp; done) | (simp [*]; done), by repeat (first | exact Drawn0.refl _ | apply Drawn0.step)⟩
def nodeset_Compare.f (k : Nat) (a0 : Int) (a1 : Int) : Option (Int) := (nodeset_rank.f a0).bind fun t228 => ((nodeset_rank.f a1).bind fun t229 => ((cmp_Compare_int.f t228 t229).bind fun t230 => ((cmp_Compare_int.f a0 a1).bind fun t231 => ((cmp_Or_int.f k (([t230, t231] : List Int))).bind fun t235 => (some t235)))))
end Go.Proofs.Ytfkpimjiaijmgaa.G
end
section
namespace Go.Proofs.YtfkpimjiaijmgaaV
/-- How many of the first ten bits are set. -/
def popc (n : Nat) : Nat := n % 2 + n / 2 % 2 + n / 4 % 2 + n / 8 % 2 + n / 16 % 2 + n / 32 % 2 + n / 64 % 2 + n / 128 % 2 + n / 256 % 2 + n / 512 % 2
theorem popc_bits : ∀ n : Fin 1024, popc n.1 = ((List.range 10).filter fun k => n.1.testBit k).length := by decide +kernel
def isSet (x : Int) : Bool := decide (0 ≤ x) && decide (x < 1024)
def rankI (x : Int) : Int := if isSet x then (popc x.toNat : Int) else -1
def sgn (a b : Int) : Int := if a < b then -1 else if a > b then 1 else 0
def cmpI (a b : Int) : Int := if sgn (rankI a) (rankI b) = 0 then sgn a b else sgn (rankI a) (rankI b)
/-- Is the first set a subset of the second one? -/
def subI (t s : Int) : Bool := (t.toNat &&& s.toNat) == t.toNat
def sortSets (l : List Int) : List Int := l.mergeSort fun x y => !decide (cmpI y x < 0)
def keepLeast : List Int → List Int → List Int
 | out, [] => out
 | out, s :: l => keepLeast (if out.any (fun t => subI t s) then out else out ++ [s]) l
def leastL (l : List Int) : List Int := keepLeast [] (sortSets (l.filter isSet))
theorem sgn_cases (a b : Int) : (a < b ∧ sgn a b = -1) ∨ (a > b ∧ sgn a b = 1) ∨ (a = b ∧ sgn a b = 0) := by
 unfold sgn; split
 ·exact .inl ⟨‹_›, rfl⟩
 ·split
  ·exact .inr (.inl ⟨‹_›, rfl⟩)
  ·exact .inr (.inr ⟨by omega, rfl⟩)
theorem cmpI_lt (a b : Int) : cmpI a b < 0 ↔ rankI a < rankI b ∨ (rankI a = rankI b ∧ a < b) := by
 unfold cmpI
 rcases sgn_cases (rankI a) (rankI b) with ⟨h, e⟩ | ⟨h, e⟩ | ⟨h, e⟩ <;> rw [e]
 ·simp; omega
 ·simp; omega
 ·rcases sgn_cases a b with ⟨h', e'⟩ | ⟨h', e'⟩ | ⟨h', e'⟩ <;> simp [e', h] <;> omega
end Go.Proofs.YtfkpimjiaijmgaaV
end
section
namespace Go.Proofs.YtfkpimjiaijmgaaV
open Go Go.RowKit
theorem ofInt_any (n a : Nat) (h : a < 2 ^ n) : (BitVec.ofInt n (a : Int)).toNat = a := by
 rw [BitVec.ofInt_natCast, BitVec.toNat_ofNat]; exact Nat.mod_eq_of_lt h
theorem ofInt_i64 (a : Nat) (h : a < 9223372036854775808) : (BitVec.ofInt IntKind.i64.bits (a : Int)).toNat = a :=
 ofInt_any 64 a (by omega)
theorem wrap_i64 (n : Nat) (h : n < 9223372036854775808) : IntKind.i64.wrap (n : Int) = n := by
 rw [IntKind.wrap_i64]; omega
theorem and_le (a b : Nat) (h : a < 9223372036854775808) : a &&& b < 9223372036854775808 := Nat.lt_of_le_of_lt Nat.and_le_left h
theorem i64_andNot_nat (a b : Nat) (ha : a < 9223372036854775808) (hb : b < 9223372036854775808) : bits .andNot .i64 (a : Int) (b : Int) = ((a &&& (18446744073709551615 - b) : Nat) : Int) := by
 show IntKind.i64.wrap ((BitVec.ofInt IntKind.i64.bits (a : Int) &&& ~~~BitVec.ofInt IntKind.i64.bits (b : Int)).toNat : Int) = _
 rw [BitVec.toNat_and, BitVec.toNat_not, ofInt_i64 a ha, ofInt_i64 b hb]
 have e : 2 ^ IntKind.i64.bits - 1 - b = 18446744073709551615 - b := congrArg (· - b) (by decide +kernel)
 rw [e, wrap_i64 _ (and_le a _ ha)]
/-- a without b is nothing: a lies in b. -/
theorem andNot_zero (a b : Nat) (ha : a < 9223372036854775808) (hb : b < 9223372036854775808) : (bits .andNot .i64 (a : Int) (b : Int) = 0) ↔ (a &&& b) = a := by
 rw [i64_andNot_nat a b ha hb]
 have hb' : b < 2 ^ 64 := by omega
 have key : ∀ i, (a &&& (18446744073709551615 - b)).testBit i = (a.testBit i && !(b.testBit i)) := by
  intro i
  rw [Nat.testBit_and]
  by_cases hi : i < 64
  ·have : (18446744073709551615 - b).testBit i = !b.testBit i := by
    have := Nat.testBit_two_pow_sub_succ hb' i
    rw [show 18446744073709551615 - b = 2 ^ 64 - (b + 1) from by omega, this]; simp [hi]
   rw [this]
  ·have h0 : a.testBit i = false := Nat.testBit_lt_two_pow (Nat.lt_of_lt_of_le (show a < 2 ^ 64 by omega) (Nat.pow_le_pow_right (by omega) (by omega)))
   simp [h0]
 constructor
 ·intro h
  have h0 : (a &&& (18446744073709551615 - b)) = 0 := by omega
  apply Nat.eq_of_testBit_eq
  intro i
  have := key i
  rw [h0, Nat.zero_testBit] at this
  rw [Nat.testBit_and]
  revert this; cases a.testBit i <;> cases b.testBit i <;> simp
 ·intro h
  have : (a &&& (18446744073709551615 - b)) = 0 := by
   apply Nat.eq_of_testBit_eq
   intro i
   rw [key i, Nat.zero_testBit]
   have := congrArg (fun z => z.testBit i) h
   simp only [Nat.testBit_and] at this
   revert this; cases a.testBit i <;> cases b.testBit i <;> simp
  omega
def subG (t s : Int) : Bool := decide (bits .andNot .i64 t s = 0)
def keepG : List Int → List Int → List Int
 | out, [] => out
 | out, s :: l => keepG (if (!(out.any fun t => subG t s)) = true then out ++ [s] else out) l
theorem keepG_step {L : List Int} {i : Nat} (h : i < L.length) (out : List Int) : keepG out (L.drop i) = keepG (if (!(out.any fun t => subG t (L.getD i 0))) = true then out ++ [L.getD i 0] else out) (L.drop (i + 1)) := by
 rw [List.drop_eq_getElem_cons h]
 simp [keepG, List.getD, h]
theorem isSet_nat {x : Int} (h : isSet x = true) : ∃ n : Nat, x = (n : Int) ∧ n < 1024 := by
 simp only [isSet, Bool.and_eq_true, decide_eq_true_eq] at h
 exact ⟨x.toNat, by omega, by omega⟩
theorem subG_eq {t s : Int} (ht : isSet t = true) (hs : isSet s = true) : subG t s = subI t s := by
 obtain ⟨a, rfl, ha⟩ := isSet_nat ht
 obtain ⟨b, rfl, hb⟩ := isSet_nat hs
 unfold subG subI
 rw [Bool.eq_iff_iff]
 simp only [decide_eq_true_eq, Int.toNat_natCast, beq_iff_eq]
 exact andNot_zero a b (by omega) (by omega)
theorem keepG_eq : ∀ (l out : List Int), (∀ x ∈ l, isSet x = true) → (∀ x ∈ out, isSet x = true) → keepG out l = keepLeast out l
 | [], _, _, _ => rfl
 | s :: l, out, hl, ho => by
  have e : (out.any fun t => subG t s) = out.any fun t => subI t s := by
   rw [Bool.eq_iff_iff]
   simp only [List.any_eq_true]
   constructor
   ·rintro ⟨t, ht, h⟩; exact ⟨t, ht, by rw [← subG_eq (ho t ht) (hl s (by simp))]; exact h⟩
   ·rintro ⟨t, ht, h⟩; exact ⟨t, ht, by rw [subG_eq (ho t ht) (hl s (by simp))]; exact h⟩
  unfold keepG keepLeast
  rw [e]
  cases (out.any fun t => subI t s) with
  | true => exact keepG_eq l out (fun x hx => hl x (by simp [hx])) ho
  | false =>
   refine keepG_eq l (out ++ [s]) (fun x hx => hl x (by simp [hx])) ?_
   intro x hx
   rcases List.mem_append.1 hx with h | h
   ·exact ho x h
   ·rw [List.mem_singleton.1 h]; exact hl s (by simp)
theorem keepG_least (l : List Int) : keepG [] (sortSets (l.filter isSet)) = leastL l := by
 refine keepG_eq _ _ (fun x hx => ?_) (by simp)
 have := (List.mem_mergeSort.1 hx)
 exact (List.mem_filter.1 this).2
end Go.Proofs.YtfkpimjiaijmgaaV
end
section
namespace Go.Proofs.Ytfkpimjiaijmgaa.G
open Go.RowKit Go.Proofs.YtfkpimjiaijmgaaW.PrintWords Go.Proofs.YtfkpimjiaijmgaaW.PrintLast Go.Proofs.YtfkpimjiaijmgaaW.PrintMore
attribute [local go_sem] max2_int min2_int max_two min_two max_three min_three max_four min_four   -- for this text's walks alone
set_option linter.unusedVariables false
set_option linter.unusedSimpArgs false
section
open Go.Sort Go.Lib YtfkpimjiaijmgaaV
theorem valid_eq (x : Int) : nodeset_Valid.f x = some (isSet x) := by
 unfold nodeset_Valid.f nodeset_below.f isSet
 have e : shl .i64 1 10 = 1024 := by decide +kernel
 by_cases h : 0 ≤ x
 ·simp [h, ge_iff_le, e]
 ·simp [h, ge_iff_le]
theorem least1_gives (x : Int) (W : World) : FnGives Try.prog 61 #[] #[.int .i64 x] (.bool (!isSet x)) W := by
 have A := Aside0.mk (valid_eq x)
 unfold FnGives
 generalize isSet x = b at *
 show Calls Try.prog 61 #[.int .i64 x] W _
 go_enter Try.func61, Try.ntmps61
 go_wp2_with (first | (go_at_call 46; (with_reducible refine (nodeset_Valid.calls x b _ A.out).mono ?_); rintro e w' ⟨rfl, ⟨nd, rfl⟩⟩))
 go_ret
 exact ⟨rfl, _, rfl⟩
theorem least_delete {W : World} {base : Nat} {v : Value} {l : List Int} (h : W.ownsRow base 3 1 v l.length (l.map (.int .i64))) :
 Calls Try.prog 59 #[v, .func (.func 61) #[] #[]] W fun e w' => ∃ v', e = .returned v' ∧ w'.ownsRow base 3 1 v' (l.filter isSet).length ((l.filter isSet).map (.int .i64)) ∧ ∃ row, W.grownBy w' row ∧ ∀ k, row = some k → base ≤ k := by
 by_cases hl : l = []
 ·subst hl
  obtain ⟨A, c, rfl⟩ := own_slice h
  go_enter Try.func59, Try.ntmps59
  go_wp2_with (first | (go_at_call 69; (refine (Try.slices_IndexFunc_empty (α := Int) A c _ _).mono ?_); rintro e w' ⟨rfl, rfl⟩))
  go_ret
  exact ⟨_, rfl, h, none, grown_of_below (Below.refl _ _) none, by simp⟩
 ·have hn : 0 < l.length := List.length_pos_iff.2 hl
  obtain ⟨g, cap, rfl, _, _⟩ := h.form hn
  obtain ⟨hH, hg, hb, _, hcap⟩ := holds_of_own h
  have hcn : l.length ≤ 9223372036854775807 := by
   obtain ⟨A, c, he, hr⟩ := own_reads (k := .i64) h
   exact hr.2.1
  have hp : PredAt Try.prog 61 #[] (Value.int .i64) (fun x => !isSet x) W := fun W' x _ => least1_gives x W'
  have hpo : PredOver Try.prog 61 #[] (Value.int .i64) (fun x => !isSet x) g 0 l.toArray.size W := fun _ _ _ x _ => least1_gives x _
  have hcon := Try.slices_DeleteFunc (Value.int .i64) (fun _ => rfl) (fun x => !isSet x) 61 #[] (enters_of Try.func61 (by kernel_rfl) rfl) 0 Try.zeroValue3 g 0 cap l.toArray W hp hpo hH (by simpa using hcn) (by simpa using hcap)
  have e1 : (l.filter fun x => !!isSet x) = l.filter isSet := by congr; funext x; simp
  simp only [List.size_toArray, e1] at hcon
  refine hcon.mono ?_
  rintro e w' ⟨rfl, q, rfl⟩
  have hle : (l.filter isSet).length ≤ l.length := List.length_filter_le _ _
  have := own_put (enc := Value.int .i64) (q := q) (os := #[]) (l.filter isSet ++ List.replicate (l.length - (l.filter isSet).length) 0) h (by simp; omega) (m := (l.filter isSet).length) (by simp)
  rw [grow_empty, List.take_left'] at this
  ·refine ⟨_, rfl, this, some g, ?_, fun k hk => by cases hk; exact hb⟩
   have := grownBy_put (enc := Value.int .i64) (w := W) (g := g) (n := q) (os := #[]) (l.filter isSet ++ List.replicate (l.length - (l.filter isSet).length) (0 : Int)).toArray
   rwa [grow_empty] at this
  ·rfl
theorem size_eq (x : Int) (h : isSet x = true) : nodeset_Size.f x = some (popc x.toNat : Int) := by
 have e : IntKind.u64.wrap x = x := by
  simp only [isSet, Bool.and_eq_true, decide_eq_true_eq] at h
  exact IntWalk_u64 x (by omega) (by omega)
 unfold nodeset_Size.f
 rw [valid_eq, h, e]
 have hx : ∃ n : Fin 1024, x = (n.1 : Int) := by
  simp only [isSet, Bool.and_eq_true, decide_eq_true_eq] at h
  exact ⟨⟨x.toNat, by omega⟩, by simp; omega⟩
 obtain ⟨n, rfl⟩ := hx
 simp only [Option.bind_some, if_true]
 rw [ones_all n]; rfl
where
 IntWalk_u64 (x : Int) (h0 : 0 ≤ x) (h1 : x < 1024) : IntKind.u64.wrap x = x := by
  obtain ⟨n, rfl⟩ := Int.eq_ofNat_of_zero_le h0
  have hn : n < 1024 := by omega
  revert hn; exact (by decide +kernel : ∀ m : Fin 1024, IntKind.u64.wrap (m.1 : Int) = (m.1 : Int)) ⟨n, by omega⟩ |> fun h _ => h
 ones_all : ∀ x : Fin 1024, bits_OnesCount.f (x.1 : Int) = some (popc x.1 : Int) := by decide +kernel
theorem rank_eq (x : Int) : nodeset_rank.f x = some (rankI x) := by
 unfold nodeset_rank.f rankI
 rw [valid_eq]
 by_cases h : isSet x = true
 ·simp [h, size_eq x h]
 ·simp [h]
theorem cmp_eq (a b : Int) : cmp_Compare_int.f a b = some (sgn a b) := by
 unfold cmp_Compare_int.f cmp_isNaN_int.f sgn
 simp
 split
 ·rfl
 ·split <;> rfl
theorem or_eq (a b : Int) : cmp_Or_int.f 3 [a, b] = some (if a = 0 then b else a) := by
 have w1 : wrap64 (0 + 1) = 1 := by unfold wrap64; omega
 have w2 : wrap64 (1 + 1) = 2 := by unfold wrap64; omega
 have r0 : YtfkpimjiaijmgaaW.PrintWords.rd [a, b] 0 = a := rfl
 have r1 : YtfkpimjiaijmgaaW.PrintWords.rd [a, b] 1 = b := rfl
 have hl : (([a, b] : List Int).length : Int) = 2 := rfl
 unfold cmp_Or_int.f
 rw [hl]
 simp only [cmp_Or_int.l0, w1, w2, r0, r1, hl]
 by_cases ha : a = 0
 ·by_cases hb : b = 0 <;> simp [ha, hb]
 ·simp [ha]
theorem compare_grows (a b : Int) (w : World) :
 Calls Try.prog 63 #[.int .i64 a, .int .i64 b] w fun e w' => e = .returned (.int .i64 (cmpI a b)) ∧ ∃ q os, w' = grow (w.drewN q) os := by
 have A1 := Aside0.mk (rank_eq a)
 have A2 := Aside0.mk (rank_eq b)
 have A3 := Aside0.mk (cmp_eq (rankI a) (rankI b))
 have A4 := Aside0.mk (cmp_eq a b)
 have A5 := Aside0.mk (or_eq (sgn (rankI a) (rankI b)) (sgn a b))
 have e : cmpI a b = if sgn (rankI a) (rankI b) = 0 then sgn a b else sgn (rankI a) (rankI b) := rfl
 rw [← e] at A5
 clear e
 generalize cmpI a b = r at *
 generalize sgn (rankI a) (rankI b) = t3 at *
 generalize sgn a b = t4 at *
 generalize rankI a = t1 at *
 generalize rankI b = t2 at *
 go_enter Try.func63, Try.ntmps63
 go_wp2_with (first
  | (go_at_call 75; (with_reducible refine (nodeset_rank.calls a t1 _ A1.out).mono ?_); rintro e w' ⟨rfl, ⟨nd, rfl⟩⟩)
  | (go_at_call 75; (with_reducible refine (nodeset_rank.calls b t2 _ A2.out).mono ?_); rintro e w' ⟨rfl, ⟨nd, rfl⟩⟩)
  | (go_at_call 74; (with_reducible refine (cmp_Compare_int.calls t1 t2 t3 _ A3.out).mono ?_); rintro e w' ⟨rfl, ⟨nd, rfl⟩⟩)
  | (go_at_call 74; (with_reducible refine (cmp_Compare_int.calls a b t4 _ A4.out).mono ?_); rintro e w' ⟨rfl, ⟨nd, rfl⟩⟩)
  | (go_at_call 73; refine (cmp_Or_int.calls 3 _ 2 [t3, t4] r _ ?side1 (Nat.le_refl 2) A5.out).mono ?_; (case side1 => exact C_pair _ _ _ _); rintro e w' ⟨rfl, ⟨nd, rfl⟩⟩))
 go_ret
 exact ⟨rfl, _, _, grow_drewN_alloc _ _ _ _⟩
abbrev SetI := { x : Int // isSet x = true }
instance : Inhabited SetI := ⟨⟨0, rfl⟩⟩
def encS (x : SetI) : Value := .int .i64 x.1
def cfS (x y : SetI) : Int := cmpI x.1 y.1
theorem ltS (x y : SetI) : ltOf cfS x y = true ↔ (rankI x.1 < rankI y.1 ∨ (rankI x.1 = rankI y.1 ∧ x.1 < y.1)) := by
 unfold ltOf cfS; simp [cmpI_lt]
theorem ltS_f (x y : SetI) : ltOf cfS x y = false ↔ ¬ (rankI x.1 < rankI y.1 ∨ (rankI x.1 = rankI y.1 ∧ x.1 < y.1)) := by
 rw [← ltS]; simp
theorem swoS : SWO (ltOf cfS) where
 irrefl x := by rw [ltS_f]; omega
 trans x y z h1 h2 := by rw [ltS] at *; omega
 ntrans x y z h1 h2 := by rw [ltS_f] at *; omega
theorem cmpS (blk off size : Nat) (w : World) : CmpLays1 Try.prog 63 #[] encS cfS blk off size w := fun m os dk _ x y => by
 exact (compare_grows x.1 y.1 _).mono fun e w' ⟨he, q, os', hw⟩ => ⟨he, q, os', hw⟩
theorem least_sort {W : World} {base : Nat} {v : Value} {l : List Int} (h : W.ownsRow base 3 1 v l.length (l.map (.int .i64))) (hs : ∀ x ∈ l, isSet x = true) (hlen : l.length < 4611686018427387904) :
 Calls Try.prog 62 #[v, .func (.func 63) #[] #[]] W fun e w' => e = .returned (.tuple #[]) ∧ w'.ownsRow base 3 1 v l.length ((sortSets l).map (.int .i64)) ∧ ∃ row, W.grownBy w' row ∧ ∀ k, row = some k → base ≤ k := by
 by_cases hl : l = []
 ·subst hl
  obtain ⟨A, c, rfl⟩ := own_slice h
  refine (Try.slices_SortFunc_none (α := Int) A c _ W).mono ?_
  rintro e w' ⟨rfl, rfl⟩
  exact ⟨rfl, by simpa [sortSets] using h, none, grown_of_below (Below.refl _ _) none, by simp⟩
 ·have hn : 0 < l.length := List.length_pos_iff.2 hl
  obtain ⟨g, cap, rfl, _, _⟩ := h.form hn
  obtain ⟨d, hd⟩ : ∃ d : List SetI, d.map (·.1) = l := ⟨l.attachWith _ hs, by simp⟩
  have hdl : d.length = l.length := by rw [← hd]; simp
  have h' : W.ownsRow base 3 1 (.slice (some ⟨g, 0, none⟩) l.length cap) l.length (d.map encS) := by
   have : d.map encS = l.map (.int .i64) := by rw [← hd, List.map_map]; rfl
   rw [this]; exact h
  obtain ⟨hH, hg, hb, _, hcap⟩ := holds_of_own h'
  have hcon := Try.slices_SortFunc_total encS (fun _ => rfl) cfS swoS 63 #[] g 0 cap d.toArray W (enters_of Try.func63 (by kernel_rfl) rfl) (cmpS g 0 _ W) hH hg (by simpa [hdl] using hlen) (fun x y h1 h2 => by
   rw [ltS_f] at h1 h2; exact Subtype.ext (by omega))
  simp only [List.size_toArray, hdl] at hcon
  refine hcon.mono ?_
  rintro e w' ⟨rfl, q, os, rfl⟩
  have e1 : (d.mergeSort fun x y => !(ltOf cfS) y x).map encS = (sortSets l).map (.int .i64) := by
   have : encS = (Value.int .i64) ∘ (fun x : SetI => x.1) := rfl
   rw [this, ← List.map_map, List.map_mergeSort (s := fun x y => !decide (cmpI y x < 0))]
   ·rw [hd]; rfl
   ·intro a _ b _; rfl
  have hlm : (d.mergeSort fun x y => !(ltOf cfS) y x).length = l.length := by rw [List.length_mergeSort, hdl]
  have := own_put (enc := encS) (q := q) (os := os) (d.mergeSort fun x y => !(ltOf cfS) y x) h' (by omega) (m := l.length) (by omega)
  rw [List.take_of_length_le (by omega), e1] at this
  exact ⟨rfl, this, some g, grownBy_put _, fun k hk => by cases hk; exact hb⟩
theorem least2_gives (s x : Int) (B : Nat) (W : World) (hc : W.cell? ⟨B, 0, none⟩ = some (.int .i64 s)) :
 FnGives Try.prog 64 #[.pointer (some ⟨B, 0, none⟩)] #[.int .i64 x] (.bool (subG x s)) W := by
 unfold FnGives
 show Calls Try.prog 64 #[.int .i64 x, .pointer (some ⟨B, 0, none⟩)] W _
 by_cases h : Go.bits .andNot .i64 x s = 0
 all_goals
  have h1 : subG x s = (Go.bits .andNot .i64 x s == 0) := by unfold subG; rw [Bool.eq_iff_iff]; simp
  rw [h1]
  clear h1 h
  go_enter Try.func64, Try.ntmps64
  go_wp2
  go_ret
  exact ⟨rfl, 0, rfl⟩
theorem least_contains {W : World} {A : Option Addr} {c : Nat} {out : List Int} {s : Int} {B : Nat} (hC : Kd.C (Kd.int .i64) W A out.length out) (hB : B < W.heap.size) (hcell : W.cell? ⟨B, 0, none⟩ = some (.int .i64 s)) :
 Calls Try.prog 54 #[.slice A out.length c, .func (.func 64) #[] #[.pointer (some ⟨B, 0, none⟩)]] W fun e w' => e = .returned (.bool (out.any fun t => subG t s)) ∧ ∃ q, w' = W.drewN q := by
 by_cases hl : out = []
 ·subst hl
  refine (Try.slices_ContainsFunc_empty (α := Int) A c _ W).mono ?_
  rintro e w' ⟨rfl, rfl⟩
  exact ⟨rfl, 0, rfl⟩
 ·have hn : 0 < out.length := List.length_pos_iff.2 hl
  obtain ⟨b, off, rfl, _, hcs⟩ := addr_of_C hC hn
  have hcon := Try.slices_ContainsFunc (Value.int .i64) (fun t => subG t s) 64 #[.pointer (some ⟨B, 0, none⟩)] (enters_of Try.func64 (by kernel_rfl) rfl) b off out.length c out W
   (fun W' x hb => least2_gives s x B W' ((hb.cell (p := ⟨B, 0, none⟩) hB).trans hcell)) (Nat.le_refl _) (Kd.C_max hC) (fun j hj => by rw [hcs j hj]; simp [List.getD, hj])
  rw [List.take_length] at hcon
  exact hcon
theorem clone_own {w : World} {A0 : Option Addr} {c0 : Nat} {l0 : List Int} (hr0 : Kd.C (Kd.int .i64) w A0 l0.length l0) (hlen : l0.length < 17592186044416) :
 Calls Try.prog 60 #[.slice A0 l0.length c0] w fun e w' => ∃ v, e = .returned v ∧ w'.ownsRow w.heap.size 3 1 v l0.length (l0.map (.int .i64)) ∧ Below w.heap.size w w' := by
 by_cases hl : l0 = []
 ·subst hl
  cases A0 with
  | none =>
   refine (Try.slices_Clone_int_nil _ c0 w).mono ?_
   rintro e w' ⟨rfl, rfl⟩
   exact ⟨_, rfl, own_nil _ _ _ _, Below.refl _ _⟩
  | some a =>
   refine (Try.slices_Clone_int_zero a c0 w).mono ?_
   rintro e w' ⟨v, rfl, h, _, hb⟩
   exact ⟨_, rfl, h, hb⟩
 ·have hn : 0 < l0.length := List.length_pos_iff.2 hl
  obtain ⟨b, off, rfl, _, hcs⟩ := addr_of_C hr0 hn
  refine (Try.slices_Clone_int b off l0.length c0 l0 w (Nat.le_refl _) (by omega) hcs).mono ?_
  rintro e w' ⟨v, rfl, h, _, hb⟩
  rw [List.take_length] at h
  exact ⟨_, rfl, h, hb⟩
set_option maxHeartbeats 1000000 in
theorem least_walk (A0 : Option Addr) (c0 : Nat) (l0 : List Int) (w : World) (hr0 : Kd.C (Kd.int .i64) w A0 l0.length l0) (hc0 : l0.length ≤ c0) (hlen : l0.length < 17592186044416) :
 Calls Try.prog 45 #[.slice A0 l0.length c0] w fun e w' => ∃ v1_ : Value, e = .returned v1_ ∧ Kd.R (Kd.int .i64) 3 w' w.heap.size (fun _ => True) v1_ (keepG [] (sortSets (l0.filter isSet))) ∧ Below w.heap.size w w' := by
 have H1 := Aside0.mk (clone_own (c0 := c0) hr0 hlen)
 have hle := List.length_filter_le isSet l0
 have HS := Aside0.mk (show ∀ x ∈ l0.filter isSet, isSet x = true from fun x hx => (List.mem_filter.1 hx).2)
 obtain ⟨L, hL⟩ : ∃ L, L = sortSets (l0.filter isSet) := ⟨_, rfl⟩
 have hn : L.length = (l0.filter isSet).length := by rw [hL]; exact List.length_mergeSort _
 rw [← hL]
 have HL := Aside0.mk hL
 have hLl : L.length < 17592186044416 := by omega
 have HN := Aside0.mk hn
 clear hr0 hc0 hL hn
 go_enter Try.func45, Try.ntmps45
 go_wp2_with fail
 refine H1.out.mono ?_
 rintro e w1 ⟨v1, rfl, ho1, hb1⟩
 have HO1 := Aside0.mk ho1
 have HB1 := Aside0.mk hb1
 clear ho1 hb1 H1
 go_wp2_with fail
 refine (least_delete HO1.out).mono ?_
 rintro e w2 ⟨v2, rfl, ho2, row, hg2, hb2⟩
 have HO2 := Aside0.mk ho2
 have HB2 := Aside0.mk (HB1.out.grown hg2 HB1.out.size hb2)
 clear ho2 hg2 hb2 HB1 HO1
 go_wp2_with fail
 refine (least_sort HO2.out HS.out (by omega)).mono ?_
 rintro e w3 ⟨rfl, ho3, row3, hg3, hb3⟩
 rw [← HL.out, ← HN.out] at ho3
 have hr3 : Kd.R (Kd.int .i64) 3 w3 w.heap.size (fun _ => True) v2 L := Kd.R_of_own ho3 (fun _ _ => trivial)
 have HB3 := Aside0.mk (HB2.out.grown hg3 HB2.out.size hb3)
 clear ho3 hg3 hb3 HB2 HO2 HN HL HS hle hlen
 obtain ⟨AL, cL, rfl⟩ := Kd.R_slice hr3
 have HR3 := Aside0.mk hr3
 clear hr3
 go_wp2_with fail
 go_loopw [3, 13] (fun v3 v13 wr => ∃ (i : Nat) (out : List Int) (Au : Option Addr) (cu : Nat), v13 = .int .i64 i ∧ v3 = .slice Au out.length cu ∧ i ≤ L.length ∧ out.length ≤ i ∧ Aside0 (keepG out (L.drop i) = keepG [] L) ∧ Aside0 (Kd.R (Kd.int .i64) 3 wr w.heap.size (fun _ => True) (.slice Au out.length cu) out) ∧ Aside0 (Kd.R (Kd.int .i64) 3 wr w.heap.size (fun k => True ∧ some k ≠ (Value.slice Au out.length cu).ownBlock) (.slice AL L.length cL) L) ∧ Aside0 (Below w.heap.size w wr)) (fun _ v13 _ => L.length - (intOf v13).toNat)
 case atStart =>
  exact ⟨0, [], none, 0, rfl, rfl, Nat.zero_le _, Nat.le_refl _, ⟨rfl⟩, ⟨Kd.R_nil _ _ _ _ _⟩, ⟨Kd.R_apart_nil HR3.out⟩, HB3⟩
 case round =>
  obtain ⟨i, out, Au, cu, rfl, rfl, hi, hoi, HK, HU, HRL, HBr⟩ := hrel
  clear HR3 HB3
  by_cases hlt : i < L.length
  ·have hC := (Kd.R_reads' HRL.out).2.2
   obtain ⟨b, off, rfl, _, hcs⟩ := addr_of_C hC (by omega)
   have hcell := hcs i hlt
   have HCu := Aside0.mk (Kd.R_reads' HU.out).2.2
   have HS := Aside0.mk (keepG_step hlt out)
   clear hC hcs
   obtain ⟨x, hx⟩ : ∃ x, x = L.getD i 0 := ⟨_, rfl⟩
   rw [← hx] at hcell HS
   clear hx
   go_wp2_with fail
   refine (least_contains (s := x) (Kd.C_alloc HCu.out _) (by simp) (by simp)).mono ?_
   rintro e w4 ⟨rfl, q, rfl⟩
   generalize (out.any fun t => subG t x) = an at *
   cases an with
   | true =>
    go_wp2
    go_roundw
    case rel =>
     refine ⟨i + 1, out, Au, cu, by go_num, rfl, by omega, by omega, ⟨?_⟩, ⟨?_⟩, ⟨?_⟩, ⟨?_⟩⟩
     ·rw [← HK.out, HS.out]; rfl
     ·exact Kd.R_drewN (Kd.R_alloc HU.out _) _
     ·exact Kd.R_drewN (Kd.R_alloc HRL.out _) _
     ·exact pw_below_drewN (below_alloc HBr.out _) _
    case measure => simp [intOf]; omega
   | false =>
    have hsz := HBr.out.size
    go_wp2_with (first | (at_builtin; refine Kd.R_append (Kd.int .i64) (w0 := w) w.heap.size rfl (.tmp 21) (.tmp 23) 22 3 (.int .i64 0) 8 rfl Try.underlying22 info3 rfl (by decide) (by omega) (.slice Au out.length cu) out x [.int .i64 x] (fun _ => True) (fun _ => False) rfl ?aX ?aP (fun _ hk => hk.elim) ?aF ?aO ?aB ?aS ?aL ?_; (case aX => first | (go_simp; done) | (go_simp; rfl)); (case aP => exact rfl); (case aF => exact (fun _ _ => trivial)); (case aO => exact Kd.R_drewN (Kd.R_alloc HU.out _) _); (case aB => exact pw_below_drewN (below_alloc HBr.out _) _); (case aS => simp; omega); (case aL => omega); intro v5 w5 ho hb hg hat; have HO5 := Aside0.mk ho; have HB5 := Aside0.mk hb; have HRL5 := Aside0.mk (Kd.R_after (Kd.R_drewN (Kd.R_alloc HRL.out _) _) hg hat); clear ho hb hg hat HU HRL HBr HCu; obtain ⟨Au5, cu5, e5⟩ := Kd.R_slice HO5.out; subst e5))
    go_roundw
    case rel =>
     refine ⟨i + 1, out ++ [x], Au5, cu5, by go_num, by simp, by omega, by simp; omega, ⟨?_⟩, HO5, HRL5, HB5⟩
     rw [← HK.out, HS.out]; rfl
    case measure => simp [intOf]; omega
  ·go_wp2
   go_ret
   refine ⟨_, rfl, ?_, HBr.out⟩
   obtain rfl : i = L.length := by omega
   have := HK.out
   rw [List.drop_length] at this
   rw [← this]
   exact HU.out
end
def nodeset_Least.f (l0 : List Int) : Option (List Int) := if l0.length < 17592186044416 then some (YtfkpimjiaijmgaaV.leastL l0) else none
theorem nodeset_Least.calls (A0 : Option Addr) (c0 : Nat) (l0 : List Int) (r : List Int) (w : World) (hr0 : Kd.C (Kd.int .i64) w A0 l0.length l0) (hc0 : l0.length ≤ c0) (h : nodeset_Least.f l0 = some r) :
 Calls Try.prog 45 #[.slice A0 l0.length c0] w fun e w' => ∃ v1_ : Value, e = .returned v1_ ∧ Kd.R (Kd.int .i64) 3 w' w.heap.size (fun _ => True) v1_ r ∧ Below w.heap.size w w' := by
 unfold nodeset_Least.f at h
 split at h
 ·rename_i hl
  rw [← Option.some.inj h, ← YtfkpimjiaijmgaaV.keepG_least]
  exact least_walk A0 c0 l0 w hr0 hc0 hl
 ·simp at h
end Go.Proofs.Ytfkpimjiaijmgaa.G
end
section
namespace Go.Proofs.Ytfkpimjiaijmgaa.G
open Go.RowKit Go.Proofs.YtfkpimjiaijmgaaW.PrintWords Go.Proofs.YtfkpimjiaijmgaaW.PrintLast Go.Proofs.YtfkpimjiaijmgaaW.PrintMore
attribute [local go_sem] max2_int min2_int max_two min_two max_three min_three max_four min_four   -- for this text's walks alone
set_option linter.unusedVariables false
set_option linter.unusedSimpArgs false
mutual
def nodeset_Next.j0 : Nat → Int → Int → Bool → Option (Int × Bool)
 | 0, _, _, _ => none
 | k + 1, x0, x1, x19 => if x19 = true then (some (0, false)) else ((nodeset_Size.f x0).bind fun t237 => (nodeset_Next.l0 k x1 t237 (wrap64 (x0 + 1))))
def nodeset_Next.l0 : Nat → Int → Int → Int → Option (Int × Bool)
 | 0, _, _, _ => none
 | k + 1, x1, x6, x7 => (nodeset_below.f x7 x1).bind fun t238 => (if t238 = true then ((nodeset_Size.f x7).bind fun t239 => (if t239 = x6 then (some (x7, true)) else (nodeset_Next.l0 k x1 x6 (wrap64 (x7 + 1))))) else (if x6 = x1 then (some (0, false)) else (if 0 ≤ (wrap64 (x6 + 1)) then (some (wrap64 ((shl .i64 1 (wrap64 (x6 + 1))) - 1), true)) else (none))))
end
def nodeset_Next.f (k : Nat) (a0 : Int) (a1 : Int) : Option (Int × Bool) := if a1 < 0 then (nodeset_Next.j0 k a0 a1 true) else (if a1 > 10 then (nodeset_Next.j0 k a0 a1 true) else ((nodeset_below.f a0 a1).bind fun t236 => (nodeset_Next.j0 k a0 a1 (!t236))))
set_option maxHeartbeats 8000000 in
set_option maxRecDepth 100000 in
theorem nodeset_Next.calls (k : Nat) (a0 : Int) (a1 : Int) (r1 : Int) (r2 : Bool) (w : World) (h : nodeset_Next.f k a0 a1 = some (r1, r2)) :
 Calls Try.prog 58 #[.int .i64 a0, .int .i64 a1] w fun e w' => e = .returned (.tuple #[.int .i64 r1, .bool r2]) ∧ Drawn0 w w' := by
 have H : (if a1 < 0 then (nodeset_Next.j0 k a0 a1 true) else (if a1 > 10 then (nodeset_Next.j0 k a0 a1 true) else ((nodeset_below.f a0 a1).bind fun t236 => (nodeset_Next.j0 k a0 a1 (!t236))))) = some (r1, r2) := h
 clear h
 have HC3 := Aside0.mk H
 clear H
 go_enter Try.func58, Try.ntmps58
 go_upto_region 1 with (fail)
 go_cut [19] (fun v19 wc => ∃ (kq : Nat) (x19_2 : Bool), v19 = .bool x19_2 ∧ Aside0 (nodeset_Next.j0 kq a0 a1 x19_2 = some (r1, r2)) ∧ Aside0 (kq ≤ k) ∧ Drawn0 w wc)
 case first =>
  have H := HC3.out
  clear HC3
  by_cases c4 : a1 < 0
  ·rw [if_pos c4] at H
   have c4b0 : decide (a1 < 0) = true := decide_eq_true c4
   clear c4
   (first | rw [c4b0] | (simp only [i64_w, i32_w]; rw [c4b0]) | skip)
   have H' := Aside0.mk H
   clear H
   go_wp2
   go_meet
   case rel => exact ⟨_, (true), (by first | rfl | (simp; done) | (simp [*]; done)), H', ⟨by first | omega | exact Nat.le_refl _⟩, by repeat (first | exact Drawn0.refl _ | apply Drawn0.step)⟩
  ·rw [if_neg c4] at H
   have c4b0 : decide (a1 < 0) = false := decide_eq_false c4
   clear c4
   (first | rw [c4b0] | (simp only [i64_w, i32_w]; rw [c4b0]) | skip)
   by_cases c5 : a1 > 10
   ·rw [if_pos c5] at H
    have c5b0 : decide (10 < a1) = true := decide_eq_true c5
    clear c5
    have H' := Aside0.mk H
    clear H
    go_wp2
    go_meet
    case rel => exact ⟨_, (true), (by first | rfl | (simp; done) | (simp [*]; done)), H', ⟨by first | omega | exact Nat.le_refl _⟩, by repeat (first | exact Drawn0.refl _ | apply Drawn0.step)⟩
   ·rw [if_neg c5] at H
    have c5b0 : decide (10 < a1) = false := decide_eq_false c5
    clear c5
    replace H := Option.bind_eq_some_iff.mp H
    obtain ⟨t236, A60, H⟩ := H
    replace H : (nodeset_Next.j0 k a0 a1 (!t236)) = some (r1, r2) := H
    have A6 := Aside0.mk A60
    clear A60
    have H' := Aside0.mk H
    clear H
    go_wp2_with (first | (go_at_call 65; (with_reducible refine (nodeset_below.calls a0 a1 t236 _ A6.out).mono ?_); rintro e w' ⟨rfl, ⟨nd, rfl⟩⟩))
    go_meet
    case rel => exact ⟨_, (!t236), (by first | rfl | (simp; done) | (simp [*]; done)), H', ⟨by first | omega | exact Nat.le_refl _⟩, by repeat (first | exact Drawn0.refl _ | apply Drawn0.step)⟩
 case rest =>
  clear HC3
  try clear p2
  try clear c4
  try clear c4b0
  try clear c5
  try clear c5b0
  obtain ⟨kq, x19_2, rfl, HA, HJ2, ⟨mc2, rfl⟩⟩ := hcut
  cases kq with
  | zero => exact absurd HA.out (by simp [nodeset_Next.j0])
  | succ kj2 =>
   have H := HA.out
   clear HA
   simp only [nodeset_Next.j0] at H
   by_cases c7 : x19_2 = true
   ·subst c7
    have H1 : (some (0, false)) = some (r1, r2) := by rw [if_pos rfl] at H; exact H
    clear H
    have H := H1
    clear H1
    simp only [Option.some.injEq, Prod.mk.injEq] at H
    obtain ⟨rfl, rfl⟩ := H
    go_wp2
    go_ret2
    exact ⟨by first | rfl | (simp; done) | (simp [*]; done), by repeat (first | exact Drawn0.refl _ | apply Drawn0.step)⟩
   ·replace c7 := Bool.eq_false_iff.mpr c7
    subst c7
    have H1 : ((nodeset_Size.f a0).bind fun t237 => (nodeset_Next.l0 kj2 a1 t237 (wrap64 (a0 + 1)))) = some (r1, r2) := by rw [if_neg (show ¬ (false = true) by decide)] at H; exact H
    clear H
    have H := H1
    clear H1
    replace H := Option.bind_eq_some_iff.mp H
    obtain ⟨t237, A80, H⟩ := H
    replace H : (nodeset_Next.l0 kj2 a1 t237 (wrap64 (a0 + 1))) = some (r1, r2) := H
    have A8 := Aside0.mk A80
    clear A80
    have H' := Aside0.mk H
    clear H
    go_wp2_with (first | ((with_reducible refine gate_callee (f := 70) rfl ?_); refine goesA_ (some 21) rfl rfl Try.func70 rfl #[.int .i64 a0] rfl ?_; (with_reducible refine (nodeset_Size.calls a0 t237 _ A8.out).mono ?_); rintro e w' ⟨rfl, ⟨nd, rfl⟩⟩; refine ⟨_, rfl, ?_⟩))
    go_loopg [7] kj2 (fun kq v7 w' => ∃ (x7_2 : Int), v7 = .int .i64 x7_2 ∧ Aside0 (nodeset_Next.l0 kq a1 t237 x7_2 = some (r1, r2)) ∧ Aside0 (kq ≤ kj2) ∧ Drawn0 w w')
    case atStart => exact ⟨(wrap64 (a0 + 1)), (by first | rfl | (simp; done) | (simp [*]; done)), H', ⟨Nat.le_refl _⟩, by repeat (first | exact Drawn0.refl _ | apply Drawn0.step)⟩
    case round =>
     clear H'
     try clear c2
     try clear p2
     try clear c4
     try clear c4b0
     try clear c5
     try clear c5b0
     try clear p6
     try clear c7
     try clear p2
     obtain ⟨x7_2, rfl, HA, HK2, ⟨m2, rfl⟩⟩ := hrel
     cases gk with
     | zero => exact absurd HA.out (by simp [nodeset_Next.l0])
     | succ k2 =>
      have H := HA.out
      clear HA
      simp only [nodeset_Next.l0] at H
      replace H := Option.bind_eq_some_iff.mp H
      obtain ⟨t238, A90, H⟩ := H
      replace H : (if t238 = true then ((nodeset_Size.f x7_2).bind fun t239 => (if t239 = t237 then (some (x7_2, true)) else (nodeset_Next.l0 k2 a1 t237 (wrap64 (x7_2 + 1))))) else (if t237 = a1 then (some (0, false)) else (if 0 ≤ (wrap64 (t237 + 1)) then (some (wrap64 ((shl .i64 1 (wrap64 (t237 + 1))) - 1), true)) else (none)))) = some (r1, r2) := H
      have A9 := Aside0.mk A90
      clear A90
      by_cases c10 : t238 = true
      ·subst c10
       have H1 : ((nodeset_Size.f x7_2).bind fun t239 => (if t239 = t237 then (some (x7_2, true)) else (nodeset_Next.l0 k2 a1 t237 (wrap64 (x7_2 + 1))))) = some (r1, r2) := by rw [if_pos rfl] at H; exact H
       clear H
       have H := H1
       clear H1
       replace H := Option.bind_eq_some_iff.mp H
       obtain ⟨t239, A110, H⟩ := H
       replace H : (if t239 = t237 then (some (x7_2, true)) else (nodeset_Next.l0 k2 a1 t237 (wrap64 (x7_2 + 1)))) = some (r1, r2) := H
       have A11 := Aside0.mk A110
       clear A110
       by_cases c12 : t239 = t237
       ·rw [if_pos c12] at H
        have c12b0 : (t239 == t237) = true := beq_iff_eq.mpr c12
        have c12b1 : (t239 != t237) = false := bne_eq_false_iff_eq.mpr c12
        clear c12
        simp only [Option.some.injEq, Prod.mk.injEq] at H
        obtain ⟨rfl, rfl⟩ := H
        go_wp2_with (first | ((with_reducible refine gate_callee (f := 65) rfl ?_); refine goesA_ (some 26) rfl rfl Try.func65 rfl #[.int .i64 x7_2, .int .i64 a1] rfl ?_; (with_reducible refine (nodeset_below.calls x7_2 a1 true _ A9.out).mono ?_); rintro e w' ⟨rfl, ⟨nd, rfl⟩⟩; refine ⟨_, rfl, ?_⟩) | ((with_reducible refine gate_callee (f := 70) rfl ?_); refine goesA_ (some 30) rfl rfl Try.func70 rfl #[.int .i64 x7_2] rfl ?_; (with_reducible refine (nodeset_Size.calls x7_2 t239 _ A11.out).mono ?_); rintro e w' ⟨rfl, ⟨nd, rfl⟩⟩; refine ⟨_, rfl, ?_⟩))
        go_ret2
        exact ⟨by first | rfl | (simp; done) | (simp [*]; done), by repeat (first | exact Drawn0.refl _ | apply Drawn0.step)⟩
       ·rw [if_neg c12] at H
        have c12b0 : (t239 == t237) = false := beq_eq_false_iff_ne.mpr c12
        have c12b1 : (t239 != t237) = true := bne_iff_ne.mpr c12
        have H' := Aside0.mk H
        clear H
        go_wp2_with (first | ((with_reducible refine gate_callee (f := 65) rfl ?_); refine goesA_ (some 26) rfl rfl Try.func65 rfl #[.int .i64 x7_2, .int .i64 a1] rfl ?_; (with_reducible refine (nodeset_below.calls x7_2 a1 true _ A9.out).mono ?_); rintro e w' ⟨rfl, ⟨nd, rfl⟩⟩; refine ⟨_, rfl, ?_⟩) | ((with_reducible refine gate_callee (f := 70) rfl ?_); refine goesA_ (some 30) rfl rfl Try.func70 rfl #[.int .i64 x7_2] rfl ?_; (with_reducible refine (nodeset_Size.calls x7_2 t239 _ A11.out).mono ?_); rintro e w' ⟨rfl, ⟨nd, rfl⟩⟩; refine ⟨_, rfl, ?_⟩))
        go_roundg k2
        case measure => have := HJ2.out; have := HK2.out; omega
        case rel => exact ⟨(wrap64 (x7_2 + 1)), (by first | rfl | (simp; done) | (simp [*]; done)), H', ⟨by have := HJ2.out; have := HK2.out; omega⟩, by repeat (first | exact Drawn0.refl _ | apply Drawn0.step)⟩
      ·replace c10 := Bool.eq_false_iff.mpr c10
       subst c10
       have H1 : (if t237 = a1 then (some (0, false)) else (if 0 ≤ (wrap64 (t237 + 1)) then (some (wrap64 ((shl .i64 1 (wrap64 (t237 + 1))) - 1), true)) else (none))) = some (r1, r2) := by rw [if_neg (show ¬ (false = true) by decide)] at H; exact H
       clear H
       have H := H1
       clear H1
       by_cases c13 : t237 = a1
       ·rw [if_pos c13] at H
        have c13b0 : (t237 == a1) = true := beq_iff_eq.mpr c13
        have c13b1 : (t237 != a1) = false := bne_eq_false_iff_eq.mpr c13
        clear c13
        simp only [Option.some.injEq, Prod.mk.injEq] at H
        obtain ⟨rfl, rfl⟩ := H
        go_wp2_with (first | ((with_reducible refine gate_callee (f := 65) rfl ?_); refine goesA_ (some 26) rfl rfl Try.func65 rfl #[.int .i64 x7_2, .int .i64 a1] rfl ?_; (with_reducible refine (nodeset_below.calls x7_2 a1 false _ A9.out).mono ?_); rintro e w' ⟨rfl, ⟨nd, rfl⟩⟩; refine ⟨_, rfl, ?_⟩))
        go_ret2
        exact ⟨by first | rfl | (simp; done) | (simp [*]; done), by repeat (first | exact Drawn0.refl _ | apply Drawn0.step)⟩
       ·rw [if_neg c13] at H
        have c13b0 : (t237 == a1) = false := beq_eq_false_iff_ne.mpr c13
        have c13b1 : (t237 != a1) = true := bne_iff_ne.mpr c13
        obtain ⟨ji14, hji14⟩ : ∃ j_ : Int, (wrap64 (t237 + 1)) = j_ := ⟨_, rfl⟩
        replace H : (if 0 ≤ (ji14) then (some (wrap64 ((shl .i64 1 (ji14)) - 1), true)) else (none)) = some (r1, r2) := by first | (rw [hji14] at H; exact H) | (simp only [hji14] at H ⊢; exact H)
        (try rw [hji14] at A9)
        have hji14w : (IntKind.i64.wrap (t237 + 1)) = ji14 := (i64_w _).trans hji14
        by_cases c15 : 0 ≤ (ji14)
        ·rw [if_pos c15] at H
         have c15b0 := eq_true c15
         have c15b1 : decide (0 ≤ (ji14)) = true := decide_eq_true c15
         clear c15
         obtain ⟨ji16, hji16⟩ : ∃ j_ : Int, (shl .i64 1 (ji14)) = j_ := ⟨_, rfl⟩
         replace H : (some (wrap64 ((ji16) - 1), true)) = some (r1, r2) := by first | (rw [hji16] at H; exact H) | (simp only [hji16] at H ⊢; exact H)
         (try rw [hji16] at A9)
         have hji16_ : (IntKind.i64.wrap (1 * 2 ^ min (ji14).toNat 64)) = ji16 := hji16
         have hji16z : (ji14) ≤ 64 → (IntKind.i64.wrap (1 * 2 ^ (ji14).toNat)) = ji16 := shl_small hji16
         have hji16u : (IntKind.i64.wrap (2 ^ min (ji14).toNat 64)) = ji16 := by have h_ := hji16_; rw [Int.one_mul] at h_; exact h_
         have hji16v : (ji14) ≤ 64 → (IntKind.i64.wrap (2 ^ (ji14).toNat)) = ji16 := fun hle_ => by have h_ := hji16z hle_; rw [Int.one_mul] at h_; exact h_
         have hji16y : (wrap64 (1 * 2 ^ min (ji14).toNat 64)) = ji16 := (i64_w _).symm.trans hji16_
         have hji16x : (ji14) ≤ 64 → (wrap64 (1 * 2 ^ (ji14).toNat)) = ji16 := fun h_ => (i64_w _).symm.trans (hji16z h_)
         simp only [Option.some.injEq, Prod.mk.injEq] at H
         obtain ⟨rfl, rfl⟩ := H
         go_wp2_with (first | ((with_reducible refine gate_callee (f := 65) rfl ?_); refine goesA_ (some 26) rfl rfl Try.func65 rfl #[.int .i64 x7_2, .int .i64 a1] rfl ?_; (with_reducible refine (nodeset_below.calls x7_2 a1 false _ A9.out).mono ?_); rintro e w' ⟨rfl, ⟨nd, rfl⟩⟩; refine ⟨_, rfl, ?_⟩))
         go_ret2
         exact ⟨by first | rfl | (simp; done) | (simp only [← hji14, ← hji16] <;> (first | rfl | simp)) | (simp [*]; done), by repeat (first | exact Drawn0.refl _ | apply Drawn0.step)⟩
        ·rw [if_neg c15] at H
         exact absurd H (by simp)
end Go.Proofs.Ytfkpimjiaijmgaa.G
end
section
namespace Go.Proofs.YtfkpimjiaijmgaaV
/-- From t on, at most d numbers: the first one below 2^n of that size. -/
def seek (n size : Nat) : Nat → Nat → Option Nat
 | 0, _ => none
 | d + 1, t => if t < 2 ^ n then (if popc t = size then some t else seek n size d (t + 1)) else none
def nextN (n s : Nat) : Option Nat := match seek n (popc s) 1024 (s + 1) with
 | some t => some t
 | none => if popc s = n then none else some (2 ^ (popc s + 1) - 1)
def allF : List (Fin 1024) := (List.range 11).flatMap fun c => (List.finRange 1024).filter fun x => popc x.1 = c
def key (s : Nat) : Nat := popc s * 1024 + s
/-- Each element's next one stands behind it; behind the last one comes nothing. -/
def chained : List (Fin 1024) → Bool
 | [] => true
 | [a] => nextN 10 a.1 == none
 | a :: b :: l => nextN 10 a.1 == some b.1 && decide (key a.1 < key b.1) && chained (b :: l)
set_option maxRecDepth 100000 in
theorem chained_all : chained allF = true ∧ allF.head? = some 0 := by decide +kernel
theorem popc_le (s : Nat) : popc s ≤ 10 := by
 unfold popc
 omega
theorem key_le (s : Fin 1024) : key s.1 ≤ 11264 := by have := popc_le s.1; have := s.2; unfold key; omega
theorem mem_allF (x : Fin 1024) : x ∈ allF := by
 unfold allF
 rw [List.mem_flatMap]
 exact ⟨popc x.1, by have := popc_le x.1; rw [List.mem_range]; omega, List.mem_filter.2 ⟨List.mem_finRange x, by simp⟩⟩
def filterO {α : Type} (p : α → Option Bool) : List α → Option (List α)
 | [] => some []
 | x :: l => (p x).bind fun b => (filterO p l).bind fun r => some (if b then x :: r else r)
theorem filterO_some {α : Type} {p : α → Option Bool} : ∀ {l r : List α}, filterO p l = some r → (∀ x ∈ l, ∃ b, p x = some b) ∧ r = l.filter fun x => (p x).getD false
 | [], r, h => by simp [filterO] at h; simp [h]
 | x :: l, r, h => by
  unfold filterO at h
  cases hp : p x with
  | none => simp [hp] at h
  | some b =>
   simp only [hp, Option.bind_some] at h
   cases hl : filterO p l with
   | none => simp [hl] at h
   | some r' =>
    simp only [hl, Option.bind_some, Option.some.injEq] at h
    obtain ⟨h1, h2⟩ := filterO_some hl
    refine ⟨fun y hy => ?_, ?_⟩
    ·rcases List.mem_cons.1 hy with e | hy
     ·exact ⟨b, by rw [e]; exact hp⟩
     ·exact h1 y hy
    ·subst h; rw [List.filter_cons, hp]
     cases b <;> simp [h2]
theorem filterO_of {α : Type} {p : α → Option Bool} {q : α → Bool} : ∀ {l : List α}, (∀ x ∈ l, p x = some (q x)) → filterO p l = some (l.filter q)
 | [], _ => rfl
 | x :: l, h => by
  unfold filterO
  rw [h x (by simp), filterO_of (fun y hy => h y (by simp [hy]))]
  simp only [Option.bind_some, List.filter_cons]
end Go.Proofs.YtfkpimjiaijmgaaV
end
section
namespace Go.Proofs.Ytfkpimjiaijmgaa.G
open Go.RowKit Go.Proofs.YtfkpimjiaijmgaaW.PrintWords Go.Proofs.YtfkpimjiaijmgaaW.PrintLast Go.Proofs.YtfkpimjiaijmgaaW.PrintMore
attribute [local go_sem] max2_int min2_int max_two min_two max_three min_three max_four min_four   -- for this text's walks alone
set_option linter.unusedVariables false
set_option linter.unusedSimpArgs false
section
set_option maxRecDepth 100000
open Go.Sort Go.Lib Go.Shelf YtfkpimjiaijmgaaV
attribute [local go_sem] Oper.semAt_some
theorem below_eq (x : Int) (n : Nat) (hn : n ≤ 10) : nodeset_below.f x n = some (decide (0 ≤ x) && decide (x < 2 ^ n)) := by
 have e : shl .i64 1 n = 2 ^ n := (by decide +kernel : ∀ m : Fin 11, shl .i64 1 (m.1 : Int) = 2 ^ m.1) ⟨n, by omega⟩
 unfold nodeset_below.f
 rw [e]
 by_cases h : 0 ≤ x <;> simp [h, ge_iff_le]
theorem pow_le_1024 (n : Nat) (hn : n ≤ 10) : 2 ^ n ≤ 1024 := (by decide : ∀ m : Fin 11, 2 ^ m.1 ≤ 1024) ⟨n, by omega⟩
theorem size_eqN (s : Nat) (h : s < 1024) : nodeset_Size.f (s : Int) = some (popc s : Int) := by
 have := size_eq (s : Int) (by simp [isSet]; omega)
 simpa using this
theorem next_loop (n : Nat) (hn : n ≤ 10) (size : Nat) (hs : size ≤ n) : ∀ (d k t : Nat), t + d = 2 ^ n → d < k → ∀ d', d ≤ d' →
 nodeset_Next.l0 k n size t = some (match seek n size d' t with | some u => ((u : Int), true) | none => if size = n then (0, false) else (((2 ^ (size + 1) - 1 : Nat) : Int), true))
 | 0, k + 1, t, ht, _, d', _ => by
  have hp := pow_le_1024 n hn
  have e : seek n size d' t = none := by cases d' <;> simp [seek]; omega
  simp only [nodeset_Next.l0, e]
  rw [below_eq _ n hn]
  have e2 : (decide (0 ≤ (t : Int)) && decide ((t : Int) < 2 ^ n)) = false := by
   have : ¬ ((t : Int) < 2 ^ n) := by have : ((2 ^ n : Nat) : Int) = 2 ^ n := by simp
                                      omega
   simp [this]
  rw [e2]
  simp only [Option.bind_some, Bool.false_eq_true, if_false]
  by_cases h : size = n
  ·simp [h]
  ·have hne : ¬ ((size : Int) = n) := by omega
   have w1 : wrap64 ((size : Int) + 1) = ((size + 1 : Nat) : Int) := by unfold wrap64; omega
   have e3 : shl .i64 1 ((size + 1 : Nat) : Int) = ((2 ^ (size + 1) : Nat) : Int) := (by decide +kernel : ∀ m : Fin 12, shl .i64 1 (m.1 : Int) = ((2 ^ m.1 : Nat) : Int)) ⟨size + 1, by omega⟩
   have hp2 : 1 ≤ 2 ^ (size + 1) ∧ 2 ^ (size + 1) ≤ 1024 := ⟨Nat.one_le_two_pow, pow_le_1024 _ (by omega)⟩
   rw [if_neg hne, if_neg h, w1, e3, if_pos (by omega)]
   have : wrap64 (((2 ^ (size + 1) : Nat) : Int) - 1) = ((2 ^ (size + 1) - 1 : Nat) : Int) := by unfold wrap64; omega
   rw [this]
 | d + 1, k + 1, t, ht, hk, d' + 1, hd => by
  have hp := pow_le_1024 n hn
  have ht' : t < 2 ^ n := by omega
  simp only [nodeset_Next.l0, seek, if_pos ht']
  rw [below_eq _ n hn]
  have e2 : (decide (0 ≤ (t : Int)) && decide ((t : Int) < 2 ^ n)) = true := by
   have : ((t : Int) < 2 ^ n) := by have : ((2 ^ n : Nat) : Int) = 2 ^ n := by simp
                                    omega
   simp [this]
  rw [e2]
  simp only [Option.bind_some, if_true]
  rw [size_eqN t (by omega)]
  simp only [Option.bind_some]
  by_cases h : popc t = size
  ·simp [h]
  ·have hne : ¬ ((popc t : Int) = size) := by omega
   rw [if_neg hne, if_neg h]
   have w1 : wrap64 ((t : Int) + 1) = ((t + 1 : Nat) : Int) := by unfold wrap64; omega
   rw [w1]
   exact next_loop n hn size hs d k (t + 1) (by omega) (by omega) d' (by omega)
theorem next_eq (k n : Nat) (hk : 1026 ≤ k) (hn : n ≤ 10) (s : Nat) (hs : s < 2 ^ n) (hsz : popc s ≤ n) :
 nodeset_Next.f k s n = some (match nextN n s with | some u => ((u : Int), true) | none => (0, false)) := by
 have hp := pow_le_1024 n hn
 obtain ⟨k, rfl⟩ : ∃ m, k = m + 1 := ⟨k - 1, by omega⟩
 have e2 : (decide (0 ≤ (s : Int)) && decide ((s : Int) < 2 ^ n)) = true := by
  have : ((s : Int) < 2 ^ n) := by have : ((2 ^ n : Nat) : Int) = 2 ^ n := by simp
                                   omega
  simp [this]
 have w1 : wrap64 ((s : Int) + 1) = ((s + 1 : Nat) : Int) := by unfold wrap64; omega
 have hl := next_loop n hn (popc s) hsz (2 ^ n - (s + 1)) k (s + 1) (by omega) (by omega) 1024 (by omega)
 unfold nodeset_Next.f
 rw [if_neg (by omega), if_neg (by omega), below_eq _ n hn, e2]
 simp only [Option.bind_some, Bool.not_true, nodeset_Next.j0, Bool.false_eq_true, if_false]
 rw [size_eqN s (by omega)]
 simp only [Option.bind_some]
 rw [w1, hl]
 unfold nextN
 generalize seek n (popc s) 1024 (s + 1) = z
 cases z with
 | some u => rfl
 | none => by_cases h : popc s = n <;> simp [h]
theorem next_allF {a : Fin 1024} {l : List (Fin 1024)} (h : chained (a :: l) = true) (k : Nat) (hk : 1026 ≤ k) :
 (l = [] ∧ nodeset_Next.f k a.1 10 = some (0, false)) ∨ ∃ b r, l = b :: r ∧ chained l = true ∧ key a.1 < key b.1 ∧ nodeset_Next.f k a.1 10 = some ((b.1 : Int), true) := by
 have hx := next_eq k 10 hk (by omega) a.1 (by have := a.2; omega) (popc_le _)
 cases l with
 | nil =>
  left
  simp only [chained, beq_iff_eq] at h
  rw [h] at hx
  exact ⟨rfl, hx⟩
 | cons b r =>
  right
  simp only [chained, Bool.and_eq_true, beq_iff_eq, decide_eq_true_eq] at h
  rw [h.1.1] at hx
  exact ⟨b, r, rfl, h.2, h.1.2, hx⟩
def leftOf (v2 v3 : Value) : Nat := match v3 with
 | .bool true => 20000 - key (intOf v2).toNat
 | _ => 0
/-- Where the loop stands: what has come, and what is still to come. -/
inductive AtS (v2 v3 : Value) : List (Fin 1024) → Prop
 | more (x : Fin 1024) (r : List (Fin 1024)) (hc : chained (x :: r) = true) (h2 : v2 = .int .i64 (x.1 : Int)) (h3 : v3 = .bool true) : AtS v2 v3 (x :: r)
 | done (h2 : v2 = .int .i64 0) (h3 : v3 = .bool false) : AtS v2 v3 []
def IsAll (pre rest : List (Fin 1024)) : Prop := pre ++ rest = allF
theorem isAll_lt {pre rest : List (Fin 1024)} {x : Fin 1024} (h : IsAll pre (x :: rest)) : pre.length < allF.length := by
 unfold IsAll at h; rw [← h]; simp
theorem isAll_step {pre rest : List (Fin 1024)} {x : Fin 1024} (h : IsAll pre (x :: rest)) : IsAll (pre ++ [x]) rest := by
 unfold IsAll at *; simpa using h
set_option maxHeartbeats 1000000 in
theorem inOrder_stops (n n₀ : Nat) (hn : 1 ≤ n) (w : World) :
 SeqStopsK Fence.wide n Try.prog 44 #[] (fun x : Fin 1024 => #[Value.int .i64 (x.1 : Int)]) (Below n₀) (fun ys => ys = allF) (fun pre => pre <+: allF) allF.length w := fun l J Jx W hW hJ hJx hY h0 => by
 refine callsIn_of_wp Try.func44 rfl trivial ?_ rfl
 simp only [Try.ntmps44, List.size_toArray, List.length_cons, List.length_nil, Nat.reduceAdd, Nat.reduceSub, Array.replicate_succ, Array.replicate_zero, List.push_toArray, List.append_toArray, List.nil_append, List.cons_append]
 gi_wp2
 gi_loopw [2, 3] (fun v2 v3 wr => ∃ (pre rest : List (Fin 1024)), IsAll pre rest ∧ J pre wr ∧ AtS v2 v3 rest) (fun v2 v3 _ => leftOf v2 v3)
 case atStart =>
  obtain ⟨h1, h2⟩ := chained_all
  refine ⟨[], allF, rfl, h0, ?_⟩
  revert h1 h2
  generalize allF = z
  intro h1 h2
  cases z with
  | nil => simp at h2
  | cons x r =>
   obtain rfl : x = 0 := by simpa using h2
   exact AtS.more 0 r h1 rfl rfl
 case round =>
  obtain ⟨pre, rest, hx, hJs, hat⟩ := hrel
  cases hat with
  | done h2 h3 =>
   subst h2 h3
   gi_wp2
   go_end0
   exact ⟨⟨_, rfl⟩, .inl ⟨pre, by simpa [IsAll] using hx, hJs⟩⟩
  | more x r hc h2 h3 =>
   subst h2 h3
   obtain ⟨fn, tmps, assign, body, hy, hR⟩ := hY pre x wr hJs (isAll_lt hx)
   have HN := Aside0.mk (next_allF hc 2000 (by omega))
   gi_wp2
   refine hR.mono ?_
   rintro e W3 (⟨rfl, hJ3, hk3⟩ | ⟨rfl, hJx3⟩)
   ·rcases HN.out with ⟨hr, hnx⟩ | ⟨b, r', hr, hc', hkey, hnx⟩
    ·have HX := Aside0.mk hnx
     clear hnx HN
     gi_wp2_with (refine ⟨trivial, ?_⟩; gi_at_call 58; refine (callsIn_wide.2 (nodeset_Next.calls 2000 (x.1 : Int) 10 0 false _ HX.out)).mono ?_; rintro e w' ⟨rfl, ⟨nd, rfl⟩⟩)
     go_roundw
     case rel => exact ⟨pre ++ [x], r, isAll_step hx, hJ _ _ _ none hJ3 (grown_of_below (pw_below_drewN (Below.refl _ _) _) none) (by simp), by rw [hr]; exact AtS.done rfl rfl⟩
     case measure => have := key_le x; simp [leftOf, intOf]; omega
    ·have HX := Aside0.mk hnx
     clear hnx HN
     gi_wp2_with (refine ⟨trivial, ?_⟩; gi_at_call 58; refine (callsIn_wide.2 (nodeset_Next.calls 2000 (x.1 : Int) 10 (b.1 : Int) true _ HX.out)).mono ?_; rintro e w' ⟨rfl, ⟨nd, rfl⟩⟩)
     go_roundw
     case rel => exact ⟨pre ++ [x], r, isAll_step hx, hJ _ _ _ none hJ3 (grown_of_below (pw_below_drewN (Below.refl _ _) _) none) (by simp), by rw [hr]; rw [hr] at hc'; exact AtS.more b r' hc' rfl rfl⟩
     case measure => have := key_le x; have := key_le b; simp [leftOf, intOf]; omega
   ·gi_wp2
    refine bodyPost_ret (results_none rfl _ _ _) rfl ?_
    exact ⟨⟨_, rfl⟩, .inr ⟨pre ++ [x], ⟨r, by have := isAll_step hx; unfold IsAll at this; exact this⟩, hJx3⟩⟩
end
end Go.Proofs.Ytfkpimjiaijmgaa.G
end
section
namespace Go.Proofs.Ytfkpimjiaijmgaa.G
open Go.RowKit Go.Proofs.YtfkpimjiaijmgaaW.PrintWords Go.Proofs.YtfkpimjiaijmgaaW.PrintLast Go.Proofs.YtfkpimjiaijmgaaW.PrintMore
attribute [local go_sem] max2_int min2_int max_two min_two max_three min_three max_four min_four   -- for this text's walks alone
set_option linter.unusedVariables false
set_option linter.unusedSimpArgs false
section
set_option maxRecDepth 100000
open Go.Sort Go.Lib Go.Shelf YtfkpimjiaijmgaaV
attribute [local go_sem] Oper.semAt_some
def ofSets (p : Fin 1024 → Bool) (l : List (Fin 1024)) : List Int := (l.filter p).map fun x => (x.1 : Int)
theorem ofSets_hit {p : Fin 1024 → Bool} (pre : List (Fin 1024)) {x : Fin 1024} (h : p x = true) : ofSets p (pre ++ [x]) = ofSets p pre ++ [(x.1 : Int)] := by simp [ofSets, h]
theorem ofSets_miss {p : Fin 1024 → Bool} (pre : List (Fin 1024)) {x : Fin 1024} (h : p x = false) : ofSets p (pre ++ [x]) = ofSets p pre := by simp [ofSets, h]
theorem ofSets_len (p : Fin 1024 → Bool) (l : List (Fin 1024)) : (ofSets p l).length ≤ l.length := by simp [ofSets]; exact List.length_filter_le _ _
theorem allF_len : allF.length ≤ 20000 := by decide +kernel
/-- The boxes, the row and the rest behind what lays blocks alone. -/
theorem boxed_below {W W' : World} {B : Nat} {t : TypeId} {v : Value} (h : Boxed W B t v) (hb : Below W.heap.size W W') : Boxed W' B t v := (hb.block B h.lt).trans h
theorem hb_trans {w W W' : World} (h : Below w.heap.size w W) (hb : Below W.heap.size W W') : Below w.heap.size w W' := h.trans (hb.mono h.size)
theorem keepsFrom_below {B : Nat} {W W' : World} (hb : Below W.heap.size W W') : KeepsFrom B W W' := ⟨hb.size, fun k _ _ hk _ => (hb.block k (Array.getElem?_eq_some_iff.1 hk).1).trans hk⟩
/-- Another box behind 'out = append(out, ..)'. -/
theorem appended_other {W w1 : World} {n₀ B B' : Nat} {t e : TypeId} {size : Nat} {u v v' : Value} {k : Nat} {xs : List Value} {tmp : Obj}
 (hF : Boxed W B' t u) (hte : t ≠ e) (hne : B' ≠ B) (hrow : W.ownsRow n₀ e size v k xs) (hgrow : (W.alloc tmp).grownBy w1 v.ownBlock) : Boxed (w1.setCell ⟨B, 0, none⟩ v') B' t u :=
 ((hF.alloc tmp).kept hgrow (hF.not_row hte hrow)).other hne v'
set_option maxHeartbeats 2000000 in
theorem least_calls (g : Nat) (lb : Array Value) (p : Fin 1024 → Bool) (w : World) (eg : ∀ args w, (callFunc g args).run Try.prog w = .ok (.enter g args) w)
 (hP : ∀ (W : World) (s : Fin 1024), Below w.heap.size w W → Calls Try.prog g (#[.int .i64 (s.1 : Int)] ++ lb) W fun e w' => e = .returned (.bool (p s)) ∧ Below W.heap.size W w') :
 Calls Try.prog 23 #[.func (.func g) #[] lb] w fun e w' => ∃ v, e = .returned v ∧ Kd.R (Kd.int .i64) 3 w' w.heap.size (fun _ => True) v (leastL (ofSets p allF)) ∧ Below w.heap.size w w' := by
 have HP := Aside0.mk hP
 clear hP
 obtain ⟨i0, hi, hz0, hz1, hz2⟩ := info_parts info3
 refine (callsIn_wide (n := 5)).1 ?_
 refine callsIn_of_wp_marks Try.func23 rfl trivial ?_ rfl
 simp only [Try.ntmps23, List.size_toArray, List.length_cons, List.length_nil, Nat.reduceAdd, Nat.reduceSub, Array.replicate_succ, Array.replicate_zero, List.push_toArray, List.append_toArray, List.nil_append, List.cons_append]
 gi_wp2
 have bF := Boxed.new w 47 (.func (.func g) #[] lb)
 have bO := Boxed.new (w.alloc (.cells #[.func (.func g) #[] lb] 47)) 22 (.slice none 0 0)
 rw [World.size_alloc] at bO
 have hB0 : Below w.heap.size w ((w.alloc (.cells #[.func (.func g) #[] lb] 47)).alloc (.cells #[.slice none 0 0] 22)) := ((Below.refl _ w).alloc (Nat.le_refl _) _).alloc (by simp) _
 refine wpIn_rangeFunc_ownG rfl (by omega) (gf := 44) (lb := #[]) rfl trivial (enters_of Try.func44 (by kernel_rfl) rfl)
  (inOrder_stops _ w.heap.size (by omega) _) belowK_t (belowK_b (by simp; omega)) (Below.refl _ _) (fun _ => rfl)
  (fun pre W => (∃ v, Boxed W (w.heap.size + 1) 22 v ∧ W.ownsRow w.heap.size 3 1 v (ofSets p pre).length ((ofSets p pre).map (Value.int .i64)) ∧ True) ∧ (Below w.heap.size w W ∧ Boxed W w.heap.size 47 (.func (.func g) #[] lb)))
  (fun _ _ _ => False)
  (OwnFrom.and (Own.from (holdsRow_own w.heap.size (w.heap.size + 1) 22 3 1 (fun pre => (ofSets p pre).length) (fun pre => (ofSets p pre).map (Value.int .i64)) (fun _ _ => True)) _) (OwnFrom.and (ownFrom_below (Nat.le_refl _) (by simp; omega)) (Own.from (boxed_own _ _ _) _)))
  (fun _ _ _ _ _ hs _ _ => hs)
  ⟨⟨_, bO, World.ownsRow_nil _ _ _ _, trivial⟩, hB0, bF.alloc _⟩
  (fun x => { tmps := #[.func (.func g) #[] lb, .pointer (some ⟨w.heap.size, 0, none⟩), .slice none 0 0, .pointer (some ⟨w.heap.size + 1, 0, none⟩), .int .i64 (x.1 : Int), .int .i64 (x.1 : Int), undef, undef, undef, undef, undef, undef, undef, undef, undef], defers := [] }) ?assign ?body ?done ?stop
 case assign =>
  intro l x W K hK
  gi_wp2
  exact hK
 case body =>
  rintro l pre x W ⟨⟨v, hv, hrow, _⟩, hB, hF⟩ hlt
  have hcF := hF.cell
  have HC := Aside0.mk (HP.out W x hB)
  have HW := Aside0.mk (⟨hv, hrow, hB, hF⟩ : Boxed W (w.heap.size + 1) 22 v ∧ W.ownsRow w.heap.size 3 1 v (ofSets p pre).length ((ofSets p pre).map (Value.int .i64)) ∧ Below w.heap.size w W ∧ Boxed W w.heap.size 47 (.func (.func g) #[] lb))
  have hpl := ofSets_len p pre
  have hal := allF_len
  clear hv hrow hB hF
  by_cases hp : p x = true
  ·have HL := Aside0.mk (ofSets_hit pre hp)
   rw [hp] at HC
   clear hp
   gi_wp2_with (first
    | (refine ⟨trivial, ?_⟩; refine (CallsIn.inRound l (callsIn_wide.2 HC.out)).mono ?_; rintro e W2 ⟨rfl, hb2⟩; have HB2 := Aside0.mk hb2; clear hb2; have hv := boxed_below HW.out.1 HB2.out; have hrow := pw_own_below HW.out.2.1 HB2.out; have hB2 := hb_trans HW.out.2.2.1 HB2.out; have hc := hv.cell; clear hcF)
    | (gi_at_builtin; refine wpListIn_append_own _ rfl _ _ 22 rfl w.heap.size 3 i0 (.int .i64 0) 1 8 Try.underlying22 hi hz0 hz1 hz2 rfl (by decide) _ _ _ rfl (hrow.alloc _) ⟨W2.heap.size, 0, none⟩ 1 1 [.int .i64 (x.1 : Int)] rfl rfl (cell_one_new _ _ _) (by simp [Value.oneCell']) (by unfold maxLen; omega) (by omega) (by have := hB2.size; simp; omega) ?_; intro v' w1 hown' hgrow _; obtain ⟨g', cap', rfl⟩ := ownsRow_succ hown'; obtain ⟨hv1, hv2, hr2, hk2, hb2⟩ := hv.appended (by decide) hrow hB2.size (by omega) hown' hgrow; have hF2 := appended_other (B := w.heap.size + 1) (boxed_below HW.out.2.2.2 HB2.out) (by decide) (Nat.ne_of_lt (Nat.lt_succ_self _)) hrow hgrow (v' := .slice (some ⟨g', 0, none⟩) ((ofSets p pre).length + 1) cap'); have hc1 := hv1.cell; have hf1 := hv1.frozen))
   refine ⟨(keepsFrom_below HB2.out).trans (hk2.from _), (HB2.out.mono HW.out.2.2.1.size).trans hb2, ⟨_, hv2, ?_, trivial⟩, hB2.trans hb2, hF2⟩
   rw [HL.out]
   simpa using hr2
  ·have hp' : p x = false := by simpa using hp
   have HL := Aside0.mk (ofSets_miss pre hp')
   rw [hp'] at HC
   clear hp hp'
   gi_wp2_with (refine ⟨trivial, ?_⟩; refine (CallsIn.inRound l (callsIn_wide.2 HC.out)).mono ?_; rintro e W2 ⟨rfl, hb2⟩; have HB2 := Aside0.mk hb2; clear hb2 hcF)
   obtain ⟨hv, hrow, hB, hF⟩ := HW.out
   have hb2 := HB2.out
   refine ⟨keepsFrom_below hb2, hb2.mono hB.size, ⟨⟨v, boxed_below hv hb2, ?_, trivial⟩, hb_trans hB hb2, boxed_below hF hb2⟩⟩
   rw [HL.out]
   exact pw_own_below hrow hb2
 case done =>
  rintro D ys W hD rfl ⟨⟨v, hv, hrow, _⟩, hB, hF⟩ hK
  have hR : Kd.R (Kd.int .i64) 3 W w.heap.size (fun _ => True) v (ofSets p allF) := Kd.R_of_own hrow (fun _ _ => trivial)
  obtain ⟨A, c, rfl⟩ := Kd.R_slice hR
  have hc := hv.cell
  have HC := Aside0.mk (Kd.R_reads' hR).2.2
  have HR := Aside0.mk hR
  have hl := ofSets_len p allF
  have hal := allF_len
  have HW := Aside0.mk (⟨hB, hK⟩ : Below w.heap.size w W ∧ _)
  have HLe : Aside0 (nodeset_Least.f (ofSets p allF) = some (leastL (ofSets p allF))) := ⟨by unfold nodeset_Least.f; rw [if_pos (by omega)]⟩
  clear hrow hB hF hR hv hK
  gi_wp2_with (refine ⟨trivial, ?_⟩; gi_at_call 45; refine (callsIn_wide.2 (nodeset_Least.calls A c (ofSets p allF) _ _ HC.out (Kd.R_reads' HR.out).2.1 HLe.out)).mono ?_; rintro e W2 ⟨v2, rfl, hr2, hb2⟩; have HR2 := Aside0.mk hr2; have HB2 := Aside0.mk hb2; clear hr2 hb2)
  have hlt := (Array.getElem?_eq_some_iff.1 HW.out.2).1
  have hK2 := (HB2.out.block D hlt).trans HW.out.2
  refine ⟨by simp, .inl ⟨_, _, rfl, run_takeDeferred hK2, ?_⟩⟩
  have hB := hb_trans HW.out.1 HB2.out
  have ho := Kd.own_of_R (Kd.R_lower HR2.out HW.out.1.size)
  exact ⟨_, results_tmp rfl _ _ _, v2, rfl, Kd.R_of_own (ownsRow_putObj ho _ hK2 rfl) (fun _ _ => trivial), hB.trans (belowK_b (w := w) (Nat.le_refl _) W2 D _ _ (by simp at hD; omega) hK2 rfl rfl)⟩
 case stop =>
  rintro D c pre W _ _ h _
  exact h.elim
end
end Go.Proofs.Ytfkpimjiaijmgaa.G
end
section
namespace Go.Proofs.Ytfkpimjiaijmgaa.G
open Go.RowKit Go.Proofs.YtfkpimjiaijmgaaW.PrintWords Go.Proofs.YtfkpimjiaijmgaaW.PrintLast Go.Proofs.YtfkpimjiaijmgaaW.PrintMore
attribute [local go_sem] max2_int min2_int max_two min_two max_three min_three max_four min_four   -- for this text's walks alone
set_option linter.unusedVariables false
set_option linter.unusedSimpArgs false
mutual
def threshold_Satisfied.l0 : Nat → Int → Int → List Int → Int → Int → Int → List Int → List (S27) → Option (Bool)
 | 0, _, _, _, _, _, _, _, _ => none
 | k + 1, x1, x5, x14, x15, x16, x241000, x241001, x241002 => if x16 < x15 then (if 0 ≤ x16 then (if x16 < (x14.length : Int) then ((nodeset_Has.f x1 (rd x14 x16)).bind fun t243 => (if t243 = true then (threshold_Satisfied.l0 k x1 (wrap64 (x5 + 1)) x14 x15 (wrap64 (x16 + 1)) x241000 x241001 x241002) else (threshold_Satisfied.l0 k x1 x5 x14 x15 (wrap64 (x16 + 1)) x241000 x241001 x241002))) else (none)) else (none)) else (threshold_Satisfied.l1 k x1 x5 x241002 (x241002.length : Int) 0 x241000 x241001 x241002)
def threshold_Satisfied.l1 : Nat → Int → Int → List (S27) → Int → Int → Int → List Int → List (S27) → Option (Bool)
 | 0, _, _, _, _, _, _, _, _ => none
 | k + 1, x1, x5, x27, x28, x29, x241000, x241001, x241002 => if x29 < x28 then (if 0 ≤ x29 then (if x29 < (x27.length : Int) then ((threshold_Satisfied.f k ((rd_T27 x27 x29).f0) ((rd_T27 x27 x29).f1) ((rd_T27 x27 x29).f2) x1).bind fun t246 => (if t246 = true then (threshold_Satisfied.l1 k x1 (wrap64 (x5 + 1)) x27 x28 (wrap64 (x29 + 1)) x241000 x241001 x241002) else (threshold_Satisfied.l1 k x1 x5 x27 x28 (wrap64 (x29 + 1)) x241000 x241001 x241002))) else (none)) else (none)) else (some (decide (x5 ≥ x241000)))
def threshold_Satisfied.f : Nat → Int → List Int → List (S27) → Int → Option (Bool)
 | 0, _, _, _, _ => none
 | k + 1, a0_0, l0_1, l0_2, a1 => (nodeset_Valid.f a1).bind fun t241 => (if t241 = true then (threshold_Satisfied.l0 k a1 0 l0_1 (l0_1.length : Int) 0 a0_0 l0_1 l0_2) else (some false))
end
set_option maxHeartbeats 8000000 in
set_option maxRecDepth 100000 in
theorem threshold_Satisfied.calls (k : Nat) : ∀ (a0_0 : Int) (A0_1 : Option Addr) (c0_1 : Nat) (l0_1 : List Int) (A0_2 : Option Addr) (c0_2 : Nat) (l0_2 : List (S27)) (a1 : Int) (r : Bool) (w : World) (hr0_1 : Kd.C (Kd.int .i64) w A0_1 l0_1.length l0_1) (hc0_1 : l0_1.length ≤ c0_1) (hr0_2 : Kd.C k27 w A0_2 l0_2.length l0_2) (hc0_2 : l0_2.length ≤ c0_2) (h : threshold_Satisfied.f k a0_0 l0_1 l0_2 a1 = some r),
 Calls Try.prog 25 #[.agg #[.int .i64 a0_0, .slice A0_1 l0_1.length c0_1, .slice A0_2 l0_2.length c0_2], .int .i64 a1] w fun e w' => e = .returned (.bool r) ∧ Below w.heap.size w w' := by
 induction k using Nat.strongRecOn with
 | _ k ih =>
 intro a0_0 A0_1 c0_1 l0_1 A0_2 c0_2 l0_2 a1 r w hr0_1 hc0_1 hr0_2 hc0_2 h
 cases k with
 | zero => exact absurd h (by simp [threshold_Satisfied.f])
 | succ k =>
 simp only [threshold_Satisfied.f] at h
 have hu27 := Try.underlying27
 have HR0_1 := Aside0.mk hr0_1
 have HC0_1 := Aside0.mk hc0_1
 clear hr0_1 hc0_1
 have HR0_2 := Aside0.mk hr0_2
 have HC0_2 := Aside0.mk hc0_2
 clear hr0_2 hc0_2
 have HB := Aside0.mk (Below.refl w.heap.size w)
 have H : ((nodeset_Valid.f a1).bind fun t241 => (if t241 = true then (threshold_Satisfied.l0 k a1 0 l0_1 (l0_1.length : Int) 0 a0_0 l0_1 l0_2) else (some false))) = some r := h
 clear h
 replace H := Option.bind_eq_some_iff.mp H
 obtain ⟨t241, A30, H⟩ := H
 replace H : (if t241 = true then (threshold_Satisfied.l0 k a1 0 l0_1 (l0_1.length : Int) 0 a0_0 l0_1 l0_2) else (some false)) = some r := H
 have A3 := Aside0.mk A30
 clear A30
 by_cases c4 : t241 = true
 ·subst c4
  have H1 : (threshold_Satisfied.l0 k a1 0 l0_1 (l0_1.length : Int) 0 a0_0 l0_1 l0_2) = some r := by rw [if_pos rfl] at H; exact H
  clear H
  have H := H1
  clear H1
  have H' := Aside0.mk H
  clear H
  go_enter Try.func25, Try.ntmps25
  go_wp2_with (first | ((with_reducible refine gate_dst (N := 2) rfl ?_); refine box_event ?hg (N := 2) ?hd (cs := #[.int .i64 a0_0, .slice A0_1 l0_1.length c0_1, .slice A0_2 l0_2.length c0_2]) (t := 27) ?hr ?_; (case hd => rfl); (case hg => rfl); (case hr => first | (go_simp; done) | (go_simp; rfl)); intro gb240 hg w5 hbox hb; have BK240 := Aside0.mk (hbox); have GW240 := Aside0.mk ((by rw [hg]; exact (below_size (bB HB)) : w.heap.size ≤ gb240)); have GE240 := Aside0.mk ((by rw [hg]; exact (below_size (bB HB)) : w.heap.size ≤ gb240)); replace HB := bs HB hb; clear hb hbox hg) | ((with_reducible refine gate_callee (f := 46) rfl ?_); refine goesA_ (some 11) rfl rfl Try.func46 rfl #[.int .i64 a1] rfl ?_; (with_reducible refine (nodeset_Valid.calls a1 true _ A3.out).mono ?_); rintro e w' ⟨rfl, ⟨nd, rfl⟩⟩; refine ⟨_, rfl, ?_⟩; have hcz6_0 := bC0 BK240; have hcz6_1 := bC1 BK240; have hcz6_2 := bC2 BK240; have hfz6_0 := blk_frozen BK240.out 0; have hfz6_1 := blk_frozen BK240.out 1; have hfz6_2 := blk_frozen BK240.out 2))
  go_loopg [5, 16] k (fun kq v5 v16 w' => ∃ (x5_1 : Int) (x16_1 : Int), v5 = .int .i64 x5_1 ∧ v16 = .int .i64 x16_1 ∧ Aside0 (threshold_Satisfied.l0 kq a1 x5_1 l0_1 (l0_1.length : Int) x16_1 a0_0 l0_1 l0_2 = some r) ∧ Aside0 (kq ≤ k) ∧ Aside0 (w'.heap[gb240]? = some (.cells #[.int .i64 a0_0, (.slice A0_1 l0_1.length c0_1), (.slice A0_2 l0_2.length c0_2)] 27 (0, 0))) ∧ Aside0 (Below w.heap.size w w'))
  case atStart => exact ⟨(0), (0), (by first | rfl | (simp; done) | (simp [*]; done)), (by first | rfl | (simp; done) | (simp [*]; done)), H', ⟨Nat.le_refl _⟩, ⟨bU BK240⟩, ⟨bB HB⟩⟩
  case round =>
   clear H'
   try clear c2
   try clear p2
   try clear c4
   try clear hcz6_0
   try clear hcz6_1
   try clear hcz6_2
   try clear hfz6_0
   try clear hfz6_1
   try clear hfz6_2
   obtain ⟨x5_1, x16_1, rfl, rfl, HA, HK1, BK240, HB⟩ := hrel
   cases gk with
   | zero => exact absurd HA.out (by simp [threshold_Satisfied.l0])
   | succ k1 =>
    have H := HA.out
    clear HA
    simp only [threshold_Satisfied.l0] at H
    by_cases c7 : x16_1 < (l0_1.length : Int)
    ·rw [if_pos c7] at H
     have c7b0 : decide (x16_1 < (l0_1.length : Int)) = true := decide_eq_true c7
     clear c7
     by_cases c8 : 0 ≤ x16_1
     ·rw [if_pos c8] at H
      have c8b0 : decide (0 ≤ x16_1) = true := decide_eq_true c8
      clear c8
      by_cases c9 : x16_1 < (l0_1.length : Int)
      ·rw [if_pos c9] at H
       have c9b0 : decide (x16_1 < (l0_1.length : Int)) = true := decide_eq_true c9
       clear c9
       replace H := Option.bind_eq_some_iff.mp H
       obtain ⟨t243, A100, H⟩ := H
       replace H : (if t243 = true then (threshold_Satisfied.l0 k1 a1 (wrap64 (x5_1 + 1)) l0_1 (l0_1.length : Int) (wrap64 (x16_1 + 1)) a0_0 l0_1 l0_2) else (threshold_Satisfied.l0 k1 a1 x5_1 l0_1 (l0_1.length : Int) (wrap64 (x16_1 + 1)) a0_0 l0_1 l0_2)) = some r := H
       have A10 := Aside0.mk A100
       clear A100
       by_cases c11 : t243 = true
       ·subst c11
        have H1 : (threshold_Satisfied.l0 k1 a1 (wrap64 (x5_1 + 1)) l0_1 (l0_1.length : Int) (wrap64 (x16_1 + 1)) a0_0 l0_1 l0_2) = some r := by rw [if_pos rfl] at H; exact H
        clear H
        have H := H1
        clear H1
        have H' := Aside0.mk H
        clear H
        have p242 : 0 ≤ (x16_1 : Int) := of_decide_eq_true (by first | (with_reducible assumption) | assumption)
        have q242 : x16_1 < (l0_1.length : Int) := of_decide_eq_true (by first | (with_reducible assumption) | assumption)
        obtain ⟨ad242, e242, hx242_0⟩ := Kd.at_int HR0_1.out x16_1 p242 q242
        cases e242
        replace hx242_0 := (HB.out.cell (World.block_lt_of_cell? w _ hx242_0)).trans hx242_0
        replace p242 := eq_true p242
        replace q242 := eq_true q242
        go_wp2_with (first | ((with_reducible refine gate_callee (f := 47) rfl ?_); refine goesA_ (some 22) rfl rfl Try.func47 rfl #[.int .i64 a1, .int .i64 (rd l0_1 x16_1)] rfl ?_; (with_reducible refine (nodeset_Has.calls a1 (rd l0_1 x16_1) true _ A10.out).mono ?_); rintro e w' ⟨rfl, ⟨nd, rfl⟩⟩; refine ⟨_, rfl, ?_⟩))
        go_roundg k1
        case measure => have := HK1.out; omega
        case rel => exact ⟨(wrap64 (x5_1 + 1)), (wrap64 (x16_1 + 1)), (by first | rfl | (simp; done) | (simp [*]; done)), (by first | rfl | (simp; done) | (simp [*]; done)), H', ⟨by have := HK1.out; omega⟩, ⟨bU BK240⟩, ⟨bB HB⟩⟩
       ·replace c11 := Bool.eq_false_iff.mpr c11
        subst c11
        have H1 : (threshold_Satisfied.l0 k1 a1 x5_1 l0_1 (l0_1.length : Int) (wrap64 (x16_1 + 1)) a0_0 l0_1 l0_2) = some r := by rw [if_neg (show ¬ (false = true) by decide)] at H; exact H
        clear H
        have H := H1
        clear H1
        have H' := Aside0.mk H
        clear H
        have p242 : 0 ≤ (x16_1 : Int) := of_decide_eq_true (by first | (with_reducible assumption) | assumption)
        have q242 : x16_1 < (l0_1.length : Int) := of_decide_eq_true (by first | (with_reducible assumption) | assumption)
        obtain ⟨ad242, e242, hx242_0⟩ := Kd.at_int HR0_1.out x16_1 p242 q242
        cases e242
        replace hx242_0 := (HB.out.cell (World.block_lt_of_cell? w _ hx242_0)).trans hx242_0
        replace p242 := eq_true p242
        replace q242 := eq_true q242
        go_wp2_with (first | ((with_reducible refine gate_callee (f := 47) rfl ?_); refine goesA_ (some 22) rfl rfl Try.func47 rfl #[.int .i64 a1, .int .i64 (rd l0_1 x16_1)] rfl ?_; (with_reducible refine (nodeset_Has.calls a1 (rd l0_1 x16_1) false _ A10.out).mono ?_); rintro e w' ⟨rfl, ⟨nd, rfl⟩⟩; refine ⟨_, rfl, ?_⟩))
        go_roundg k1
        case measure => have := HK1.out; omega
        case rel => exact ⟨(x5_1), (wrap64 (x16_1 + 1)), (by first | rfl | (simp; done) | (simp [*]; done)), (by first | rfl | (simp; done) | (simp [*]; done)), H', ⟨by have := HK1.out; omega⟩, ⟨bU BK240⟩, ⟨bB HB⟩⟩
      ·rw [if_neg c9] at H
       exact absurd H (by simp)
     ·rw [if_neg c8] at H
      exact absurd H (by simp)
    ·rw [if_neg c7] at H
     have c7b0 : decide (x16_1 < (l0_1.length : Int)) = false := decide_eq_false c7
     clear c7
     have H' := Aside0.mk H
     clear H
     have hcz12_0 := bC0 BK240
     have hcz12_1 := bC1 BK240
     have hcz12_2 := bC2 BK240
     have hfz12_0 := blk_frozen BK240.out 0
     have hfz12_1 := blk_frozen BK240.out 1
     have hfz12_2 := blk_frozen BK240.out 2
     go_wp2
     go_loopg [5, 29] k1 (fun kq v5 v29 w' => ∃ (x5_2 : Int) (x29_2 : Int), v5 = .int .i64 x5_2 ∧ v29 = .int .i64 x29_2 ∧ Aside0 (threshold_Satisfied.l1 kq a1 x5_2 l0_2 (l0_2.length : Int) x29_2 a0_0 l0_1 l0_2 = some r) ∧ Aside0 (kq ≤ k1) ∧ Aside0 (w'.heap[gb240]? = some (.cells #[.int .i64 a0_0, (.slice A0_1 l0_1.length c0_1), (.slice A0_2 l0_2.length c0_2)] 27 (0, 0))) ∧ Aside0 (Below w.heap.size w w'))
     case atStart => exact ⟨(x5_1), (0), (by first | rfl | (simp; done) | (simp [*]; done)), (by first | rfl | (simp; done) | (simp [*]; done)), H', ⟨Nat.le_refl _⟩, ⟨bU BK240⟩, ⟨bB HB⟩⟩
     case round =>
      clear H'
      try clear c1
      try clear c2
      try clear p2
      try clear q2
      try clear hx2
      try clear c4
      try clear p6
      try clear c7
      try clear c7b0
      try clear c8
      try clear c8b0
      try clear c9
      try clear c9b0
      try clear c11
      try clear hcz12_0
      try clear hcz12_1
      try clear hcz12_2
      try clear hcz6_0
      try clear hcz6_1
      try clear hcz6_2
      try clear hfz12_0
      try clear hfz12_1
      try clear hfz12_2
      try clear hfz6_0
      try clear hfz6_1
      try clear hfz6_2
      try clear hx242_0
      try clear p2
      try clear p242
      try clear q242
      obtain ⟨x5_2, x29_2, rfl, rfl, HA, HK2, BK240, HB⟩ := hrel
      cases gk with
      | zero => exact absurd HA.out (by simp [threshold_Satisfied.l1])
      | succ k2 =>
       have H := HA.out
       clear HA
       simp only [threshold_Satisfied.l1] at H
       by_cases c13 : x29_2 < (l0_2.length : Int)
       ·rw [if_pos c13] at H
        have c13b0 : decide (x29_2 < (l0_2.length : Int)) = true := decide_eq_true c13
        clear c13
        by_cases c14 : 0 ≤ x29_2
        ·rw [if_pos c14] at H
         have c14b0 : decide (0 ≤ x29_2) = true := decide_eq_true c14
         clear c14
         by_cases c15 : x29_2 < (l0_2.length : Int)
         ·rw [if_pos c15] at H
          have c15b0 : decide (x29_2 < (l0_2.length : Int)) = true := decide_eq_true c15
          clear c15
          replace H := Option.bind_eq_some_iff.mp H
          obtain ⟨t246, A160, H⟩ := H
          replace H : (if t246 = true then (threshold_Satisfied.l1 k2 a1 (wrap64 (x5_2 + 1)) l0_2 (l0_2.length : Int) (wrap64 (x29_2 + 1)) a0_0 l0_1 l0_2) else (threshold_Satisfied.l1 k2 a1 x5_2 l0_2 (l0_2.length : Int) (wrap64 (x29_2 + 1)) a0_0 l0_1 l0_2)) = some r := H
          have A16 := Aside0.mk A160
          clear A160
          by_cases c17 : t246 = true
          ·subst c17
           have H1 : (threshold_Satisfied.l1 k2 a1 (wrap64 (x5_2 + 1)) l0_2 (l0_2.length : Int) (wrap64 (x29_2 + 1)) a0_0 l0_1 l0_2) = some r := by rw [if_pos rfl] at H; exact H
           clear H
           have H := H1
           clear H1
           have H' := Aside0.mk H
           clear H
           have p244 : 0 ≤ (x29_2 : Int) := of_decide_eq_true (by first | (with_reducible assumption) | assumption)
           have q244 : x29_2 < (l0_2.length : Int) := of_decide_eq_true (by first | (with_reducible assumption) | assumption)
           obtain ⟨ad244, A244_1, c244_1, A244_2, c244_2, e244, hx244_0, hx244_1, hx244_2, hl244_1, hi244_1, hl244_2, hi244_2⟩ := at_T27 HR0_2.out x29_2 p244 q244
           cases e244
           replace hx244_0 := (HB.out.cell (World.block_lt_of_cell? w _ hx244_0)).trans hx244_0
           replace hx244_1 := (HB.out.cell (World.block_lt_of_cell? w _ hx244_1)).trans hx244_1
           replace hx244_2 := (HB.out.cell (World.block_lt_of_cell? w _ hx244_2)).trans hx244_2
           have HR244_1 := Aside0.mk hi244_1
           have HC244_1 := Aside0.mk hl244_1
           clear hi244_1 hl244_1
           have HR244_2 := Aside0.mk hi244_2
           have HC244_2 := Aside0.mk hl244_2
           clear hi244_2 hl244_2
           replace p244 := eq_true p244
           replace q244 := eq_true q244
           go_wp2_with (first | ((with_reducible refine gate_dst (N := 9) rfl ?_); refine box_event ?hg (N := 9) ?hd (cs := #[.int .i64 0, .slice none 0 0, .slice none 0 0]) (t := 27) ?hr ?_; (case hd => rfl); (case hg => rfl); (case hr => first | (go_simp; done) | (go_simp; rfl)); intro gb245 hg w18 hbox hb; have BK245 := Aside0.mk (hbox); have GW245 := Aside0.mk ((by rw [hg]; exact (below_size (bB HB)) : w.heap.size ≤ gb245)); have GE245 := Aside0.mk ((by rw [hg]; exact (below_size (bB HB)) : w.heap.size ≤ gb245)); replace HB := bs HB hb; have NB240_245 := Aside0.mk ((by rw [hg]; exact Nat.ne_of_lt (blk_lt (bU BK240)) : gb240 ≠ gb245)); have NB245_240 := Aside0.mk ((by rw [hg]; exact Nat.ne_of_gt (blk_lt (bU BK240)) : gb245 ≠ gb240)); replace BK240 := bb BK240 hb; clear hb hbox hg; have hnb19 := NB245_240.out; have hnc19 := NB240_245.out; have hcz20_0 := bC0 BK245; have hcz20_1 := bC1 BK245; have hcz20_2 := bC2 BK245; have hfz20_0 := blk_frozen BK245.out 0; have hfz20_1 := blk_frozen BK245.out 1; have hfz20_2 := blk_frozen BK245.out 2) | ((with_reducible refine gate_callee (f := 25) rfl ?_); refine goesA_ (some 35) rfl rfl Try.func25 rfl #[.agg #[.int .i64 ((rd_T27 l0_2 x29_2).f0), .slice A244_1 ((rd_T27 l0_2 x29_2).f1).length c244_1, .slice A244_2 ((rd_T27 l0_2 x29_2).f2).length c244_2], .int .i64 a1] rfl ?_; (with_reducible refine (ih k2 (by have := HK1.out; have := HK2.out; omega) ((rd_T27 l0_2 x29_2).f0) _ _ ((rd_T27 l0_2 x29_2).f1) _ _ ((rd_T27 l0_2 x29_2).f2) a1 true _ ?side1 ?side2 ?side3 ?side4 A16.out).mono ?_); (case side1 => exact Kd.C_below HR244_1.out (bB HB)); (case side2 => exact HC244_1.out); (case side3 => exact Kd.C_below HR244_2.out (bB HB)); (case side4 => exact HC244_2.out); rintro e w21 ⟨rfl, hb⟩; refine ⟨_, rfl, ?_⟩; replace BK240 := Aside0.mk (blk_below (g := gb240) (o := .cells #[.int .i64 a0_0, .slice A0_1 l0_1.length c0_1, .slice (some ad244) l0_2.length c0_2] 27 (0, 0)) (bF BK240) hb); replace BK245 := Aside0.mk (blk_below (g := gb245) (o := .cells #[.int .i64 ((rd_T27 l0_2 x29_2).f0), .slice A244_1 ((rd_T27 l0_2 x29_2).f1).length c244_1, .slice A244_2 ((rd_T27 l0_2 x29_2).f2).length c244_2] 27 (0, 0)) (bP3 BK245) hb); replace HB := bs HB hb; (try clear hb); (try clear hb2); (try clear hk); (try clear hi)))
           go_roundg k2
           case measure => have := HK1.out; have := HK2.out; omega
           case rel => exact ⟨(wrap64 (x5_2 + 1)), (wrap64 (x29_2 + 1)), (by first | rfl | (simp; done) | (simp [*]; done)), (by first | rfl | (simp; done) | (simp [*]; done)), H', ⟨by have := HK1.out; have := HK2.out; omega⟩, ⟨bU BK240⟩, ⟨bB HB⟩⟩
          ·replace c17 := Bool.eq_false_iff.mpr c17
           subst c17
           have H1 : (threshold_Satisfied.l1 k2 a1 x5_2 l0_2 (l0_2.length : Int) (wrap64 (x29_2 + 1)) a0_0 l0_1 l0_2) = some r := by rw [if_neg (show ¬ (false = true) by decide)] at H; exact H
           clear H
           have H := H1
           clear H1
           have H' := Aside0.mk H
           clear H
           have p244 : 0 ≤ (x29_2 : Int) := of_decide_eq_true (by first | (with_reducible assumption) | assumption)
           have q244 : x29_2 < (l0_2.length : Int) := of_decide_eq_true (by first | (with_reducible assumption) | assumption)
           obtain ⟨ad244, A244_1, c244_1, A244_2, c244_2, e244, hx244_0, hx244_1, hx244_2, hl244_1, hi244_1, hl244_2, hi244_2⟩ := at_T27 HR0_2.out x29_2 p244 q244
           cases e244
           replace hx244_0 := (HB.out.cell (World.block_lt_of_cell? w _ hx244_0)).trans hx244_0
           replace hx244_1 := (HB.out.cell (World.block_lt_of_cell? w _ hx244_1)).trans hx244_1
           replace hx244_2 := (HB.out.cell (World.block_lt_of_cell? w _ hx244_2)).trans hx244_2
           have HR244_1 := Aside0.mk hi244_1
           have HC244_1 := Aside0.mk hl244_1
           clear hi244_1 hl244_1
           have HR244_2 := Aside0.mk hi244_2
           have HC244_2 := Aside0.mk hl244_2
           clear hi244_2 hl244_2
           replace p244 := eq_true p244
           replace q244 := eq_true q244
           go_wp2_with (first | ((with_reducible refine gate_dst (N := 9) rfl ?_); refine box_event ?hg (N := 9) ?hd (cs := #[.int .i64 0, .slice none 0 0, .slice none 0 0]) (t := 27) ?hr ?_; (case hd => rfl); (case hg => rfl); (case hr => first | (go_simp; done) | (go_simp; rfl)); intro gb245 hg w22 hbox hb; have BK245 := Aside0.mk (hbox); have GW245 := Aside0.mk ((by rw [hg]; exact (below_size (bB HB)) : w.heap.size ≤ gb245)); have GE245 := Aside0.mk ((by rw [hg]; exact (below_size (bB HB)) : w.heap.size ≤ gb245)); replace HB := bs HB hb; have NB240_245 := Aside0.mk ((by rw [hg]; exact Nat.ne_of_lt (blk_lt (bU BK240)) : gb240 ≠ gb245)); have NB245_240 := Aside0.mk ((by rw [hg]; exact Nat.ne_of_gt (blk_lt (bU BK240)) : gb245 ≠ gb240)); replace BK240 := bb BK240 hb; clear hb hbox hg; have hnb23 := NB245_240.out; have hnc23 := NB240_245.out; have hcz24_0 := bC0 BK245; have hcz24_1 := bC1 BK245; have hcz24_2 := bC2 BK245; have hfz24_0 := blk_frozen BK245.out 0; have hfz24_1 := blk_frozen BK245.out 1; have hfz24_2 := blk_frozen BK245.out 2) | ((with_reducible refine gate_callee (f := 25) rfl ?_); refine goesA_ (some 35) rfl rfl Try.func25 rfl #[.agg #[.int .i64 ((rd_T27 l0_2 x29_2).f0), .slice A244_1 ((rd_T27 l0_2 x29_2).f1).length c244_1, .slice A244_2 ((rd_T27 l0_2 x29_2).f2).length c244_2], .int .i64 a1] rfl ?_; (with_reducible refine (ih k2 (by have := HK1.out; have := HK2.out; omega) ((rd_T27 l0_2 x29_2).f0) _ _ ((rd_T27 l0_2 x29_2).f1) _ _ ((rd_T27 l0_2 x29_2).f2) a1 false _ ?side1 ?side2 ?side3 ?side4 A16.out).mono ?_); (case side1 => exact Kd.C_below HR244_1.out (bB HB)); (case side2 => exact HC244_1.out); (case side3 => exact Kd.C_below HR244_2.out (bB HB)); (case side4 => exact HC244_2.out); rintro e w25 ⟨rfl, hb⟩; refine ⟨_, rfl, ?_⟩; replace BK240 := Aside0.mk (blk_below (g := gb240) (o := .cells #[.int .i64 a0_0, .slice A0_1 l0_1.length c0_1, .slice (some ad244) l0_2.length c0_2] 27 (0, 0)) (bF BK240) hb); replace BK245 := Aside0.mk (blk_below (g := gb245) (o := .cells #[.int .i64 ((rd_T27 l0_2 x29_2).f0), .slice A244_1 ((rd_T27 l0_2 x29_2).f1).length c244_1, .slice A244_2 ((rd_T27 l0_2 x29_2).f2).length c244_2] 27 (0, 0)) (bP3 BK245) hb); replace HB := bs HB hb; (try clear hb); (try clear hb2); (try clear hk); (try clear hi)))
           go_roundg k2
           case measure => have := HK1.out; have := HK2.out; omega
           case rel => exact ⟨(x5_2), (wrap64 (x29_2 + 1)), (by first | rfl | (simp; done) | (simp [*]; done)), (by first | rfl | (simp; done) | (simp [*]; done)), H', ⟨by have := HK1.out; have := HK2.out; omega⟩, ⟨bU BK240⟩, ⟨bB HB⟩⟩
         ·rw [if_neg c15] at H
          exact absurd H (by simp)
        ·rw [if_neg c14] at H
         exact absurd H (by simp)
       ·rw [if_neg c13] at H
        have c13b0 : decide (x29_2 < (l0_2.length : Int)) = false := decide_eq_false c13
        clear c13
        obtain rfl := Option.some.inj H
        have hcz26_0 := bC0 BK240
        have hcz26_1 := bC1 BK240
        have hcz26_2 := bC2 BK240
        have hfz26_0 := blk_frozen BK240.out 0
        have hfz26_1 := blk_frozen BK240.out 1
        have hfz26_2 := blk_frozen BK240.out 2
        go_wp2
        go_ret
        exact ⟨by first | rfl | (simp [errW_none, errW_some] <;> rfl) | (simp [*, errW_none, errW_some] <;> rfl), bB HB⟩
 ·replace c4 := Bool.eq_false_iff.mpr c4
  subst c4
  have H1 : (some false) = some r := by rw [if_neg (show ¬ (false = true) by decide)] at H; exact H
  clear H
  have H := H1
  clear H1
  obtain rfl := Option.some.inj H
  go_enter Try.func25, Try.ntmps25
  go_wp2_with (first | ((with_reducible refine gate_dst (N := 2) rfl ?_); refine box_event ?hg (N := 2) ?hd (cs := #[.int .i64 a0_0, .slice A0_1 l0_1.length c0_1, .slice A0_2 l0_2.length c0_2]) (t := 27) ?hr ?_; (case hd => rfl); (case hg => rfl); (case hr => first | (go_simp; done) | (go_simp; rfl)); intro gb240 hg w27 hbox hb; have BK240 := Aside0.mk (hbox); have GW240 := Aside0.mk ((by rw [hg]; exact (below_size (bB HB)) : w.heap.size ≤ gb240)); have GE240 := Aside0.mk ((by rw [hg]; exact (below_size (bB HB)) : w.heap.size ≤ gb240)); replace HB := bs HB hb; clear hb hbox hg) | ((with_reducible refine gate_callee (f := 46) rfl ?_); refine goesA_ (some 11) rfl rfl Try.func46 rfl #[.int .i64 a1] rfl ?_; (with_reducible refine (nodeset_Valid.calls a1 false _ A3.out).mono ?_); rintro e w' ⟨rfl, ⟨nd, rfl⟩⟩; refine ⟨_, rfl, ?_⟩))
  go_ret
  exact ⟨by first | rfl | (simp [errW_none, errW_some] <;> rfl) | (simp [*, errW_none, errW_some] <;> rfl), bB HB⟩
end Go.Proofs.Ytfkpimjiaijmgaa.G
end
section
namespace Go.Proofs.Ytfkpimjiaijmgaa.G
open Go.RowKit Go.Proofs.YtfkpimjiaijmgaaW.PrintWords Go.Proofs.YtfkpimjiaijmgaaW.PrintLast Go.Proofs.YtfkpimjiaijmgaaW.PrintMore
attribute [local go_sem] max2_int min2_int max_two min_two max_three min_three max_four min_four   -- for this text's walks alone
set_option linter.unusedVariables false
set_option linter.unusedSimpArgs false
section
set_option maxRecDepth 100000
open Go.Sort Go.Lib Go.Shelf YtfkpimjiaijmgaaV
/-- The predicate that Slices hands on: the trust lies in a box. -/
theorem slices1_calls (k : Nat) (a : Int) (A1 : Option Addr) (c1 : Nat) (l1 : List Int) (A2 : Option Addr) (c2 : Nat) (l2 : List S27) (B : Nat) (s : Int) (b : Bool) (W : World)
 (hbox : W.heap[B]? = some (.cells #[.int .i64 a, .slice A1 l1.length c1, .slice A2 l2.length c2] 27 (0, 0)))
 (h1 : Kd.C (Kd.int .i64) W A1 l1.length l1) (hc1 : l1.length ≤ c1) (h2 : Kd.C k27 W A2 l2.length l2) (hc2 : l2.length ≤ c2) (h : threshold_Satisfied.f k a l1 l2 s = some b) :
 Calls Try.prog 24 #[.int .i64 s, .pointer (some ⟨B, 0, none⟩)] W fun e w' => e = .returned (.bool b) ∧ Below W.heap.size W w' := by
 have H1 := Aside0.mk h1
 have H2 := Aside0.mk h2
 have H := Aside0.mk h
 have x0 : W.cell? ⟨B, 0, none⟩ = some (.int .i64 a) := (blk_cell hbox 0).trans rfl
 have x1 : W.cell? ⟨B, 1, none⟩ = some (.slice A1 l1.length c1) := (blk_cell hbox 1).trans rfl
 have x2 : W.cell? ⟨B, 2, none⟩ = some (.slice A2 l2.length c2) := (blk_cell hbox 2).trans rfl
 clear h1 h2 h hbox
 go_enter Try.func24, Try.ntmps24
 go_wp2_with (first | (go_at_call 25; (refine (threshold_Satisfied.calls k a A1 c1 l1 A2 c2 l2 s b _ H1.out hc1 H2.out hc2 H.out).mono ?_); rintro e w1 ⟨rfl, hb⟩; have HB := Aside0.mk hb; clear hb))
 go_ret
 exact ⟨rfl, HB.out⟩
theorem sl_pred {k : Nat} {a : Int} {A1 : Option Addr} {c1 : Nat} {l1 : List Int} {A2 : Option Addr} {c2 : Nat} {l2 : List S27} {w w0 w1 : World} (HA : Aside0 (∀ x ∈ allF, ∃ b, threshold_Satisfied.f k a l1 l2 (x.1 : Int) = some b))
 (HBX : Aside0 (w0.heap[w.heap.size]? = some (.cells #[.int .i64 a, .slice A1 l1.length c1, .slice A2 l2.length c2] 27 (0, 0)))) (HB0 : Aside0 (Below w.heap.size w w0)) (HB1 : Aside0 (Below w0.heap.size w0 w1))
 (H1 : Aside0 (Kd.C (Kd.int .i64) w A1 l1.length l1)) (H2 : Aside0 (Kd.C k27 w A2 l2.length l2)) (hc1 : l1.length ≤ c1) (hc2 : l2.length ≤ c2) :
 ∀ (W : World) (s : Fin 1024), Below w1.heap.size w1 W → Calls Try.prog 24 (#[.int .i64 (s.1 : Int)] ++ #[.pointer (some ⟨w.heap.size, 0, none⟩)]) W fun e w' => e = .returned (.bool ((threshold_Satisfied.f k a l1 l2 (s.1 : Int)).getD false)) ∧ Below W.heap.size W w' := by
 intro W s hW
 obtain ⟨b, hb⟩ := HA.out s (mem_allF s)
 have h01 : Below w0.heap.size w0 W := HB1.out.trans (hW.mono HB1.out.size)
 have hw : Below w.heap.size w W := HB0.out.trans (h01.mono HB0.out.size)
 have hbox := (h01.block w.heap.size (Array.getElem?_eq_some_iff.1 HBX.out).1).trans HBX.out
 rw [hb]
 exact slices1_calls k a A1 c1 l1 A2 c2 l2 w.heap.size s.1 b W hbox (Kd.C_below H1.out hw) hc1 (Kd.C_below H2.out hw) hc2 hb
end
def slices_Slices.f (k : Nat) (a0_0 : Int) (l0_1 : List Int) (l0_2 : List S27) : Option (List Int × Int) := (threshold_Valid.f k a0_0 l0_1 l0_2).bind fun e => if e = 0 then (YtfkpimjiaijmgaaV.filterO (fun s : Fin 1024 => threshold_Satisfied.f k a0_0 l0_1 l0_2 (s.1 : Int)) YtfkpimjiaijmgaaV.allF).bind fun l => some (YtfkpimjiaijmgaaV.leastL (l.map fun x => (x.1 : Int)), 0) else some ([], e)
set_option maxHeartbeats 1000000 in
theorem slices_Slices.calls (k : Nat) (a0_0 : Int) (A0_1 : Option Addr) (c0_1 : Nat) (l0_1 : List Int) (A0_2 : Option Addr) (c0_2 : Nat) (l0_2 : List (S27)) (r1 : List Int) (r2 : Int) (w : World) (hr0_1 : Kd.C (Kd.int .i64) w A0_1 l0_1.length l0_1) (hc0_1 : l0_1.length ≤ c0_1) (hr0_2 : Kd.C k27 w A0_2 l0_2.length l0_2) (hc0_2 : l0_2.length ≤ c0_2) (h : slices_Slices.f k a0_0 l0_1 l0_2 = some (r1, r2)) :
 Calls Try.prog 9 #[.agg #[.int .i64 a0_0, .slice A0_1 l0_1.length c0_1, .slice A0_2 l0_2.length c0_2]] w fun e w' => ∃ v0_ : Value, e = .returned (.tuple #[v0_, .int .i64 r2]) ∧ Kd.R (Kd.int .i64) 3 w' w.heap.size (fun _ => True) v0_ r1 ∧ Below w.heap.size w w' := by
 unfold slices_Slices.f at h
 replace h := Option.bind_eq_some_iff.1 h
 obtain ⟨e, hv, h⟩ := h
 have HV := Aside0.mk hv
 have H1 := Aside0.mk hr0_1
 have H2 := Aside0.mk hr0_2
 clear hv hr0_1 hr0_2
 have hbx := heap_alloc_new w (.cells #[.int .i64 a0_0, .slice A0_1 l0_1.length c0_1, .slice A0_2 l0_2.length c0_2] 27)
 have HBX := Aside0.mk hbx
 have HB0 := Aside0.mk (below_alloc (Below.refl w.heap.size w) (.cells #[.int .i64 a0_0, .slice A0_1 l0_1.length c0_1, .slice A0_2 l0_2.length c0_2] 27))
 clear hbx
 by_cases he : e = 0
 ·rw [if_pos he] at h
  subst he
  replace h := Option.bind_eq_some_iff.1 h
  obtain ⟨l, hl, h⟩ := h
  obtain ⟨hall, hlf⟩ := YtfkpimjiaijmgaaV.filterO_some hl
  simp only [Option.some.injEq, Prod.mk.injEq] at h
  obtain ⟨rfl, rfl⟩ := h
  have HL := Aside0.mk (show l.map (fun x => (x.1 : Int)) = ofSets (fun s => (threshold_Satisfied.f k a0_0 l0_1 l0_2 (s.1 : Int)).getD false) YtfkpimjiaijmgaaV.allF by rw [hlf]; rfl)
  have HA := Aside0.mk hall
  clear hl hall hlf
  go_enter Try.func9, Try.ntmps9
  go_wp2_with (first
   | (go_at_call 22; (refine (threshold_Valid.calls k a0_0 A0_1 c0_1 l0_1 A0_2 c0_2 l0_2 0 _ (Kd.C_alloc H1.out _) hc0_1 (Kd.C_alloc H2.out _) hc0_2 HV.out).mono ?_); rintro e w1 ⟨rfl, hb⟩; have HB1 := Aside0.mk hb; clear hb)
   | (go_at_call 23; (refine (least_calls 24 #[.pointer (some ⟨w.heap.size, 0, none⟩)] (fun s => (threshold_Satisfied.f k a0_0 l0_1 l0_2 (s.1 : Int)).getD false) _ (enters_of Try.func24 (by kernel_rfl) rfl) ?hP).mono ?_); (case hP => exact sl_pred HA HBX HB0 HB1 H1 H2 hc0_1 hc0_2); rintro e w2 ⟨v, rfl, hr, hb⟩; have HR := Aside0.mk hr; have HB2 := Aside0.mk hb; clear hr hb))
  go_ret2
  refine ⟨_, rfl, ?_, HB0.out.trans ((HB1.out.trans (HB2.out.mono HB1.out.size)).mono HB0.out.size)⟩
  rw [HL.out]
  exact Kd.R_lower HR.out (Nat.le_trans HB0.out.size HB1.out.size)
 ·rw [if_neg he] at h
  simp only [Option.some.injEq, Prod.mk.injEq] at h
  obtain ⟨rfl, rfl⟩ := h
  have he1 : (e == 0) = false := by simpa using he
  have he2 : (e != 0) = true := by simpa using he
  clear he
  go_enter Try.func9, Try.ntmps9
  go_wp2_with (first
   | (go_at_call 22; (refine (threshold_Valid.calls k a0_0 A0_1 c0_1 l0_1 A0_2 c0_2 l0_2 e _ (Kd.C_alloc H1.out _) hc0_1 (Kd.C_alloc H2.out _) hc0_2 HV.out).mono ?_); rintro e w1 ⟨rfl, hb⟩; have HB1 := Aside0.mk hb; clear hb))
  go_ret2
  exact ⟨_, rfl, Kd.R_nil _ _ _ _ _, HB0.out.trans (HB1.out.mono HB0.out.size)⟩
end Go.Proofs.Ytfkpimjiaijmgaa.G
end
section
namespace Go.Proofs.Ytfkpimjiaijmgaa.G
open Go.RowKit Go.Proofs.YtfkpimjiaijmgaaW.PrintWords Go.Proofs.YtfkpimjiaijmgaaW.PrintLast Go.Proofs.YtfkpimjiaijmgaaW.PrintMore
attribute [local go_sem] max2_int min2_int max_two min_two max_three min_three max_four min_four   -- for this text's walks alone
set_option linter.unusedVariables false
set_option linter.unusedSimpArgs false
mutual
def trustquorumref02_Satisfied.l0 : Nat → Int → Int → List Int → Int → Int → Int → List Int → List (S27) → Option (Bool)
 | 0, _, _, _, _, _, _, _, _ => none
 | k + 1, x1, x5, x14, x15, x16, x248000, x248001, x248002 => if x16 < x15 then (if 0 ≤ x16 then (if x16 < (x14.length : Int) then ((trustquorumref01_Has.f x1 (rd x14 x16)).bind fun t250 => (if t250 = true then (trustquorumref02_Satisfied.l0 k x1 (wrap64 (x5 + 1)) x14 x15 (wrap64 (x16 + 1)) x248000 x248001 x248002) else (trustquorumref02_Satisfied.l0 k x1 x5 x14 x15 (wrap64 (x16 + 1)) x248000 x248001 x248002))) else (none)) else (none)) else (trustquorumref02_Satisfied.l1 k x1 x5 x248002 (x248002.length : Int) 0 x248000 x248001 x248002)
def trustquorumref02_Satisfied.l1 : Nat → Int → Int → List (S27) → Int → Int → Int → List Int → List (S27) → Option (Bool)
 | 0, _, _, _, _, _, _, _, _ => none
 | k + 1, x1, x5, x27, x28, x29, x248000, x248001, x248002 => if x29 < x28 then (if 0 ≤ x29 then (if x29 < (x27.length : Int) then ((trustquorumref02_Satisfied.f k ((rd_T27 x27 x29).f0) ((rd_T27 x27 x29).f1) ((rd_T27 x27 x29).f2) x1).bind fun t253 => (if t253 = true then (trustquorumref02_Satisfied.l1 k x1 (wrap64 (x5 + 1)) x27 x28 (wrap64 (x29 + 1)) x248000 x248001 x248002) else (trustquorumref02_Satisfied.l1 k x1 x5 x27 x28 (wrap64 (x29 + 1)) x248000 x248001 x248002))) else (none)) else (none)) else (some (decide (x5 ≥ x248000)))
def trustquorumref02_Satisfied.f : Nat → Int → List Int → List (S27) → Int → Option (Bool)
 | 0, _, _, _, _ => none
 | k + 1, a0_0, l0_1, l0_2, a1 => (trustquorumref01_Valid.f a1).bind fun t248 => (if t248 = true then (trustquorumref02_Satisfied.l0 k a1 0 l0_1 (l0_1.length : Int) 0 a0_0 l0_1 l0_2) else (some false))
end
set_option maxHeartbeats 8000000 in
set_option maxRecDepth 100000 in
theorem trustquorumref02_Satisfied.calls (k : Nat) : ∀ (a0_0 : Int) (A0_1 : Option Addr) (c0_1 : Nat) (l0_1 : List Int) (A0_2 : Option Addr) (c0_2 : Nat) (l0_2 : List (S27)) (a1 : Int) (r : Bool) (w : World) (hr0_1 : Kd.C (Kd.int .i64) w A0_1 l0_1.length l0_1) (hc0_1 : l0_1.length ≤ c0_1) (hr0_2 : Kd.C k27 w A0_2 l0_2.length l0_2) (hc0_2 : l0_2.length ≤ c0_2) (h : trustquorumref02_Satisfied.f k a0_0 l0_1 l0_2 a1 = some r),
 Calls Try.prog 11 #[.agg #[.int .i64 a0_0, .slice A0_1 l0_1.length c0_1, .slice A0_2 l0_2.length c0_2], .int .i64 a1] w fun e w' => e = .returned (.bool r) ∧ Below w.heap.size w w' := by
 induction k using Nat.strongRecOn with
 | _ k ih =>
 intro a0_0 A0_1 c0_1 l0_1 A0_2 c0_2 l0_2 a1 r w hr0_1 hc0_1 hr0_2 hc0_2 h
 cases k with
 | zero => exact absurd h (by simp [trustquorumref02_Satisfied.f])
 | succ k =>
 simp only [trustquorumref02_Satisfied.f] at h
 have hu27 := Try.underlying27
 have HR0_1 := Aside0.mk hr0_1
 have HC0_1 := Aside0.mk hc0_1
 clear hr0_1 hc0_1
 have HR0_2 := Aside0.mk hr0_2
 have HC0_2 := Aside0.mk hc0_2
 clear hr0_2 hc0_2
 have HB := Aside0.mk (Below.refl w.heap.size w)
 have H : ((trustquorumref01_Valid.f a1).bind fun t248 => (if t248 = true then (trustquorumref02_Satisfied.l0 k a1 0 l0_1 (l0_1.length : Int) 0 a0_0 l0_1 l0_2) else (some false))) = some r := h
 clear h
 replace H := Option.bind_eq_some_iff.mp H
 obtain ⟨t248, A30, H⟩ := H
 replace H : (if t248 = true then (trustquorumref02_Satisfied.l0 k a1 0 l0_1 (l0_1.length : Int) 0 a0_0 l0_1 l0_2) else (some false)) = some r := H
 have A3 := Aside0.mk A30
 clear A30
 by_cases c4 : t248 = true
 ·subst c4
  have H1 : (trustquorumref02_Satisfied.l0 k a1 0 l0_1 (l0_1.length : Int) 0 a0_0 l0_1 l0_2) = some r := by rw [if_pos rfl] at H; exact H
  clear H
  have H := H1
  clear H1
  have H' := Aside0.mk H
  clear H
  go_enter Try.func11, Try.ntmps11
  go_wp2_with (first | ((with_reducible refine gate_dst (N := 2) rfl ?_); refine box_event ?hg (N := 2) ?hd (cs := #[.int .i64 a0_0, .slice A0_1 l0_1.length c0_1, .slice A0_2 l0_2.length c0_2]) (t := 27) ?hr ?_; (case hd => rfl); (case hg => rfl); (case hr => first | (go_simp; done) | (go_simp; rfl)); intro gb247 hg w5 hbox hb; have BK247 := Aside0.mk (hbox); have GW247 := Aside0.mk ((by rw [hg]; exact (below_size (bB HB)) : w.heap.size ≤ gb247)); have GE247 := Aside0.mk ((by rw [hg]; exact (below_size (bB HB)) : w.heap.size ≤ gb247)); replace HB := bs HB hb; clear hb hbox hg) | ((with_reducible refine gate_callee (f := 26) rfl ?_); refine goesA_ (some 11) rfl rfl Try.func26 rfl #[.int .i64 a1] rfl ?_; (with_reducible refine (trustquorumref01_Valid.calls a1 true _ A3.out).mono ?_); rintro e w' ⟨rfl, ⟨nd, rfl⟩⟩; refine ⟨_, rfl, ?_⟩; have hcz6_0 := bC0 BK247; have hcz6_1 := bC1 BK247; have hcz6_2 := bC2 BK247; have hfz6_0 := blk_frozen BK247.out 0; have hfz6_1 := blk_frozen BK247.out 1; have hfz6_2 := blk_frozen BK247.out 2))
  go_loopg [5, 16] k (fun kq v5 v16 w' => ∃ (x5_1 : Int) (x16_1 : Int), v5 = .int .i64 x5_1 ∧ v16 = .int .i64 x16_1 ∧ Aside0 (trustquorumref02_Satisfied.l0 kq a1 x5_1 l0_1 (l0_1.length : Int) x16_1 a0_0 l0_1 l0_2 = some r) ∧ Aside0 (kq ≤ k) ∧ Aside0 (w'.heap[gb247]? = some (.cells #[.int .i64 a0_0, (.slice A0_1 l0_1.length c0_1), (.slice A0_2 l0_2.length c0_2)] 27 (0, 0))) ∧ Aside0 (Below w.heap.size w w'))
  case atStart => exact ⟨(0), (0), (by first | rfl | (simp; done) | (simp [*]; done)), (by first | rfl | (simp; done) | (simp [*]; done)), H', ⟨Nat.le_refl _⟩, ⟨bU BK247⟩, ⟨bB HB⟩⟩
  case round =>
   clear H'
   try clear c1
   try clear c2
   try clear p2
   try clear c4
   try clear hcz6_0
   try clear hcz6_1
   try clear hcz6_2
   try clear hfz6_0
   try clear hfz6_1
   try clear hfz6_2
   obtain ⟨x5_1, x16_1, rfl, rfl, HA, HK1, BK247, HB⟩ := hrel
   cases gk with
   | zero => exact absurd HA.out (by simp [trustquorumref02_Satisfied.l0])
   | succ k1 =>
    have H := HA.out
    clear HA
    simp only [trustquorumref02_Satisfied.l0] at H
    by_cases c7 : x16_1 < (l0_1.length : Int)
    ·rw [if_pos c7] at H
     have c7b0 : decide (x16_1 < (l0_1.length : Int)) = true := decide_eq_true c7
     clear c7
     by_cases c8 : 0 ≤ x16_1
     ·rw [if_pos c8] at H
      have c8b0 : decide (0 ≤ x16_1) = true := decide_eq_true c8
      clear c8
      by_cases c9 : x16_1 < (l0_1.length : Int)
      ·rw [if_pos c9] at H
       have c9b0 : decide (x16_1 < (l0_1.length : Int)) = true := decide_eq_true c9
       clear c9
       replace H := Option.bind_eq_some_iff.mp H
       obtain ⟨t250, A100, H⟩ := H
       replace H : (if t250 = true then (trustquorumref02_Satisfied.l0 k1 a1 (wrap64 (x5_1 + 1)) l0_1 (l0_1.length : Int) (wrap64 (x16_1 + 1)) a0_0 l0_1 l0_2) else (trustquorumref02_Satisfied.l0 k1 a1 x5_1 l0_1 (l0_1.length : Int) (wrap64 (x16_1 + 1)) a0_0 l0_1 l0_2)) = some r := H
       have A10 := Aside0.mk A100
       clear A100
       by_cases c11 : t250 = true
       ·subst c11
        have H1 : (trustquorumref02_Satisfied.l0 k1 a1 (wrap64 (x5_1 + 1)) l0_1 (l0_1.length : Int) (wrap64 (x16_1 + 1)) a0_0 l0_1 l0_2) = some r := by rw [if_pos rfl] at H; exact H
        clear H
        have H := H1
        clear H1
        have H' := Aside0.mk H
        clear H
        have p249 : 0 ≤ (x16_1 : Int) := of_decide_eq_true (by first | (with_reducible assumption) | assumption)
        have q249 : x16_1 < (l0_1.length : Int) := of_decide_eq_true (by first | (with_reducible assumption) | assumption)
        obtain ⟨ad249, e249, hx249_0⟩ := Kd.at_int HR0_1.out x16_1 p249 q249
        cases e249
        replace hx249_0 := (HB.out.cell (World.block_lt_of_cell? w _ hx249_0)).trans hx249_0
        replace p249 := eq_true p249
        replace q249 := eq_true q249
        go_wp2_with (first | ((with_reducible refine gate_callee (f := 27) rfl ?_); refine goesA_ (some 22) rfl rfl Try.func27 rfl #[.int .i64 a1, .int .i64 (rd l0_1 x16_1)] rfl ?_; (with_reducible refine (trustquorumref01_Has.calls a1 (rd l0_1 x16_1) true _ A10.out).mono ?_); rintro e w' ⟨rfl, ⟨nd, rfl⟩⟩; refine ⟨_, rfl, ?_⟩))
        go_roundg k1
        case measure => have := HK1.out; omega
        case rel => exact ⟨(wrap64 (x5_1 + 1)), (wrap64 (x16_1 + 1)), (by first | rfl | (simp; done) | (simp [*]; done)), (by first | rfl | (simp; done) | (simp [*]; done)), H', ⟨by have := HK1.out; omega⟩, ⟨bU BK247⟩, ⟨bB HB⟩⟩
       ·replace c11 := Bool.eq_false_iff.mpr c11
        subst c11
        have H1 : (trustquorumref02_Satisfied.l0 k1 a1 x5_1 l0_1 (l0_1.length : Int) (wrap64 (x16_1 + 1)) a0_0 l0_1 l0_2) = some r := by rw [if_neg (show ¬ (false = true) by decide)] at H; exact H
        clear H
        have H := H1
        clear H1
        have H' := Aside0.mk H
        clear H
        have p249 : 0 ≤ (x16_1 : Int) := of_decide_eq_true (by first | (with_reducible assumption) | assumption)
        have q249 : x16_1 < (l0_1.length : Int) := of_decide_eq_true (by first | (with_reducible assumption) | assumption)
        obtain ⟨ad249, e249, hx249_0⟩ := Kd.at_int HR0_1.out x16_1 p249 q249
        cases e249
        replace hx249_0 := (HB.out.cell (World.block_lt_of_cell? w _ hx249_0)).trans hx249_0
        replace p249 := eq_true p249
        replace q249 := eq_true q249
        go_wp2_with (first | ((with_reducible refine gate_callee (f := 27) rfl ?_); refine goesA_ (some 22) rfl rfl Try.func27 rfl #[.int .i64 a1, .int .i64 (rd l0_1 x16_1)] rfl ?_; (with_reducible refine (trustquorumref01_Has.calls a1 (rd l0_1 x16_1) false _ A10.out).mono ?_); rintro e w' ⟨rfl, ⟨nd, rfl⟩⟩; refine ⟨_, rfl, ?_⟩))
        go_roundg k1
        case measure => have := HK1.out; omega
        case rel => exact ⟨(x5_1), (wrap64 (x16_1 + 1)), (by first | rfl | (simp; done) | (simp [*]; done)), (by first | rfl | (simp; done) | (simp [*]; done)), H', ⟨by have := HK1.out; omega⟩, ⟨bU BK247⟩, ⟨bB HB⟩⟩
      ·rw [if_neg c9] at H
       exact absurd H (by simp)
     ·rw [if_neg c8] at H
      exact absurd H (by simp)
    ·rw [if_neg c7] at H
     have c7b0 : decide (x16_1 < (l0_1.length : Int)) = false := decide_eq_false c7
     clear c7
     have H' := Aside0.mk H
     clear H
     have hcz12_0 := bC0 BK247
     have hcz12_1 := bC1 BK247
     have hcz12_2 := bC2 BK247
     have hfz12_0 := blk_frozen BK247.out 0
     have hfz12_1 := blk_frozen BK247.out 1
     have hfz12_2 := blk_frozen BK247.out 2
     go_wp2
     go_loopg [5, 29] k1 (fun kq v5 v29 w' => ∃ (x5_2 : Int) (x29_2 : Int), v5 = .int .i64 x5_2 ∧ v29 = .int .i64 x29_2 ∧ Aside0 (trustquorumref02_Satisfied.l1 kq a1 x5_2 l0_2 (l0_2.length : Int) x29_2 a0_0 l0_1 l0_2 = some r) ∧ Aside0 (kq ≤ k1) ∧ Aside0 (w'.heap[gb247]? = some (.cells #[.int .i64 a0_0, (.slice A0_1 l0_1.length c0_1), (.slice A0_2 l0_2.length c0_2)] 27 (0, 0))) ∧ Aside0 (Below w.heap.size w w'))
     case atStart => exact ⟨(x5_1), (0), (by first | rfl | (simp; done) | (simp [*]; done)), (by first | rfl | (simp; done) | (simp [*]; done)), H', ⟨Nat.le_refl _⟩, ⟨bU BK247⟩, ⟨bB HB⟩⟩
     case round =>
      clear H'
      try clear c1
      try clear c2
      try clear p2
      try clear q2
      try clear hx2
      try clear c4
      try clear p6
      try clear c7
      try clear c7b0
      try clear c8
      try clear c8b0
      try clear c9
      try clear c9b0
      try clear c11
      try clear hcz12_0
      try clear hcz12_1
      try clear hcz12_2
      try clear hcz6_0
      try clear hcz6_1
      try clear hcz6_2
      try clear hfz12_0
      try clear hfz12_1
      try clear hfz12_2
      try clear hfz6_0
      try clear hfz6_1
      try clear hfz6_2
      try clear hx249_0
      try clear p2
      try clear p249
      try clear q249
      obtain ⟨x5_2, x29_2, rfl, rfl, HA, HK2, BK247, HB⟩ := hrel
      cases gk with
      | zero => exact absurd HA.out (by simp [trustquorumref02_Satisfied.l1])
      | succ k2 =>
       have H := HA.out
       clear HA
       simp only [trustquorumref02_Satisfied.l1] at H
       by_cases c13 : x29_2 < (l0_2.length : Int)
       ·rw [if_pos c13] at H
        have c13b0 : decide (x29_2 < (l0_2.length : Int)) = true := decide_eq_true c13
        clear c13
        by_cases c14 : 0 ≤ x29_2
        ·rw [if_pos c14] at H
         have c14b0 : decide (0 ≤ x29_2) = true := decide_eq_true c14
         clear c14
         by_cases c15 : x29_2 < (l0_2.length : Int)
         ·rw [if_pos c15] at H
          have c15b0 : decide (x29_2 < (l0_2.length : Int)) = true := decide_eq_true c15
          clear c15
          replace H := Option.bind_eq_some_iff.mp H
          obtain ⟨t253, A160, H⟩ := H
          replace H : (if t253 = true then (trustquorumref02_Satisfied.l1 k2 a1 (wrap64 (x5_2 + 1)) l0_2 (l0_2.length : Int) (wrap64 (x29_2 + 1)) a0_0 l0_1 l0_2) else (trustquorumref02_Satisfied.l1 k2 a1 x5_2 l0_2 (l0_2.length : Int) (wrap64 (x29_2 + 1)) a0_0 l0_1 l0_2)) = some r := H
          have A16 := Aside0.mk A160
          clear A160
          by_cases c17 : t253 = true
          ·subst c17
           have H1 : (trustquorumref02_Satisfied.l1 k2 a1 (wrap64 (x5_2 + 1)) l0_2 (l0_2.length : Int) (wrap64 (x29_2 + 1)) a0_0 l0_1 l0_2) = some r := by rw [if_pos rfl] at H; exact H
           clear H
           have H := H1
           clear H1
           have H' := Aside0.mk H
           clear H
           have p251 : 0 ≤ (x29_2 : Int) := of_decide_eq_true (by first | (with_reducible assumption) | assumption)
           have q251 : x29_2 < (l0_2.length : Int) := of_decide_eq_true (by first | (with_reducible assumption) | assumption)
           obtain ⟨ad251, A251_1, c251_1, A251_2, c251_2, e251, hx251_0, hx251_1, hx251_2, hl251_1, hi251_1, hl251_2, hi251_2⟩ := at_T27 HR0_2.out x29_2 p251 q251
           cases e251
           replace hx251_0 := (HB.out.cell (World.block_lt_of_cell? w _ hx251_0)).trans hx251_0
           replace hx251_1 := (HB.out.cell (World.block_lt_of_cell? w _ hx251_1)).trans hx251_1
           replace hx251_2 := (HB.out.cell (World.block_lt_of_cell? w _ hx251_2)).trans hx251_2
           have HR251_1 := Aside0.mk hi251_1
           have HC251_1 := Aside0.mk hl251_1
           clear hi251_1 hl251_1
           have HR251_2 := Aside0.mk hi251_2
           have HC251_2 := Aside0.mk hl251_2
           clear hi251_2 hl251_2
           replace p251 := eq_true p251
           replace q251 := eq_true q251
           go_wp2_with (first | ((with_reducible refine gate_dst (N := 9) rfl ?_); refine box_event ?hg (N := 9) ?hd (cs := #[.int .i64 0, .slice none 0 0, .slice none 0 0]) (t := 27) ?hr ?_; (case hd => rfl); (case hg => rfl); (case hr => first | (go_simp; done) | (go_simp; rfl)); intro gb252 hg w18 hbox hb; have BK252 := Aside0.mk (hbox); have GW252 := Aside0.mk ((by rw [hg]; exact (below_size (bB HB)) : w.heap.size ≤ gb252)); have GE252 := Aside0.mk ((by rw [hg]; exact (below_size (bB HB)) : w.heap.size ≤ gb252)); replace HB := bs HB hb; have NB247_252 := Aside0.mk ((by rw [hg]; exact Nat.ne_of_lt (blk_lt (bU BK247)) : gb247 ≠ gb252)); have NB252_247 := Aside0.mk ((by rw [hg]; exact Nat.ne_of_gt (blk_lt (bU BK247)) : gb252 ≠ gb247)); replace BK247 := bb BK247 hb; clear hb hbox hg; have hnb19 := NB252_247.out; have hnc19 := NB247_252.out; have hcz20_0 := bC0 BK252; have hcz20_1 := bC1 BK252; have hcz20_2 := bC2 BK252; have hfz20_0 := blk_frozen BK252.out 0; have hfz20_1 := blk_frozen BK252.out 1; have hfz20_2 := blk_frozen BK252.out 2) | ((with_reducible refine gate_callee (f := 11) rfl ?_); refine goesA_ (some 35) rfl rfl Try.func11 rfl #[.agg #[.int .i64 ((rd_T27 l0_2 x29_2).f0), .slice A251_1 ((rd_T27 l0_2 x29_2).f1).length c251_1, .slice A251_2 ((rd_T27 l0_2 x29_2).f2).length c251_2], .int .i64 a1] rfl ?_; (with_reducible refine (ih k2 (by have := HK1.out; have := HK2.out; omega) ((rd_T27 l0_2 x29_2).f0) _ _ ((rd_T27 l0_2 x29_2).f1) _ _ ((rd_T27 l0_2 x29_2).f2) a1 true _ ?side1 ?side2 ?side3 ?side4 A16.out).mono ?_); (case side1 => exact Kd.C_below HR251_1.out (bB HB)); (case side2 => exact HC251_1.out); (case side3 => exact Kd.C_below HR251_2.out (bB HB)); (case side4 => exact HC251_2.out); rintro e w21 ⟨rfl, hb⟩; refine ⟨_, rfl, ?_⟩; replace BK247 := Aside0.mk (blk_below (g := gb247) (o := .cells #[.int .i64 a0_0, .slice A0_1 l0_1.length c0_1, .slice (some ad251) l0_2.length c0_2] 27 (0, 0)) (bF BK247) hb); replace BK252 := Aside0.mk (blk_below (g := gb252) (o := .cells #[.int .i64 ((rd_T27 l0_2 x29_2).f0), .slice A251_1 ((rd_T27 l0_2 x29_2).f1).length c251_1, .slice A251_2 ((rd_T27 l0_2 x29_2).f2).length c251_2] 27 (0, 0)) (bP3 BK252) hb); replace HB := bs HB hb; (try clear hb); (try clear hb2); (try clear hk); (try clear hi)))
           go_roundg k2
           case measure => have := HK1.out; have := HK2.out; omega
           case rel => exact ⟨(wrap64 (x5_2 + 1)), (wrap64 (x29_2 + 1)), (by first | rfl | (simp; done) | (simp [*]; done)), (by first | rfl | (simp; done) | (simp [*]; done)), H', ⟨by have := HK1.out; have := HK2.out; omega⟩, ⟨bU BK247⟩, ⟨bB HB⟩⟩
          ·replace c17 := Bool.eq_false_iff.mpr c17
           subst c17
           have H1 : (trustquorumref02_Satisfied.l1 k2 a1 x5_2 l0_2 (l0_2.length : Int) (wrap64 (x29_2 + 1)) a0_0 l0_1 l0_2) = some r := by rw [if_neg (show ¬ (false = true) by decide)] at H; exact H
           clear H
           have H := H1
           clear H1
           have H' := Aside0.mk H
           clear H
           have p251 : 0 ≤ (x29_2 : Int) := of_decide_eq_true (by first | (with_reducible assumption) | assumption)
           have q251 : x29_2 < (l0_2.length : Int) := of_decide_eq_true (by first | (with_reducible assumption) | assumption)
           obtain ⟨ad251, A251_1, c251_1, A251_2, c251_2, e251, hx251_0, hx251_1, hx251_2, hl251_1, hi251_1, hl251_2, hi251_2⟩ := at_T27 HR0_2.out x29_2 p251 q251
           cases e251
           replace hx251_0 := (HB.out.cell (World.block_lt_of_cell? w _ hx251_0)).trans hx251_0
           replace hx251_1 := (HB.out.cell (World.block_lt_of_cell? w _ hx251_1)).trans hx251_1
           replace hx251_2 := (HB.out.cell (World.block_lt_of_cell? w _ hx251_2)).trans hx251_2
           have HR251_1 := Aside0.mk hi251_1
           have HC251_1 := Aside0.mk hl251_1
           clear hi251_1 hl251_1
           have HR251_2 := Aside0.mk hi251_2
           have HC251_2 := Aside0.mk hl251_2
           clear hi251_2 hl251_2
           replace p251 := eq_true p251
           replace q251 := eq_true q251
           go_wp2_with (first | ((with_reducible refine gate_dst (N := 9) rfl ?_); refine box_event ?hg (N := 9) ?hd (cs := #[.int .i64 0, .slice none 0 0, .slice none 0 0]) (t := 27) ?hr ?_; (case hd => rfl); (case hg => rfl); (case hr => first | (go_simp; done) | (go_simp; rfl)); intro gb252 hg w22 hbox hb; have BK252 := Aside0.mk (hbox); have GW252 := Aside0.mk ((by rw [hg]; exact (below_size (bB HB)) : w.heap.size ≤ gb252)); have GE252 := Aside0.mk ((by rw [hg]; exact (below_size (bB HB)) : w.heap.size ≤ gb252)); replace HB := bs HB hb; have NB247_252 := Aside0.mk ((by rw [hg]; exact Nat.ne_of_lt (blk_lt (bU BK247)) : gb247 ≠ gb252)); have NB252_247 := Aside0.mk ((by rw [hg]; exact Nat.ne_of_gt (blk_lt (bU BK247)) : gb252 ≠ gb247)); replace BK247 := bb BK247 hb; clear hb hbox hg; have hnb23 := NB252_247.out; have hnc23 := NB247_252.out; have hcz24_0 := bC0 BK252; have hcz24_1 := bC1 BK252; have hcz24_2 := bC2 BK252; have hfz24_0 := blk_frozen BK252.out 0; have hfz24_1 := blk_frozen BK252.out 1; have hfz24_2 := blk_frozen BK252.out 2) | ((with_reducible refine gate_callee (f := 11) rfl ?_); refine goesA_ (some 35) rfl rfl Try.func11 rfl #[.agg #[.int .i64 ((rd_T27 l0_2 x29_2).f0), .slice A251_1 ((rd_T27 l0_2 x29_2).f1).length c251_1, .slice A251_2 ((rd_T27 l0_2 x29_2).f2).length c251_2], .int .i64 a1] rfl ?_; (with_reducible refine (ih k2 (by have := HK1.out; have := HK2.out; omega) ((rd_T27 l0_2 x29_2).f0) _ _ ((rd_T27 l0_2 x29_2).f1) _ _ ((rd_T27 l0_2 x29_2).f2) a1 false _ ?side1 ?side2 ?side3 ?side4 A16.out).mono ?_); (case side1 => exact Kd.C_below HR251_1.out (bB HB)); (case side2 => exact HC251_1.out); (case side3 => exact Kd.C_below HR251_2.out (bB HB)); (case side4 => exact HC251_2.out); rintro e w25 ⟨rfl, hb⟩; refine ⟨_, rfl, ?_⟩; replace BK247 := Aside0.mk (blk_below (g := gb247) (o := .cells #[.int .i64 a0_0, .slice A0_1 l0_1.length c0_1, .slice (some ad251) l0_2.length c0_2] 27 (0, 0)) (bF BK247) hb); replace BK252 := Aside0.mk (blk_below (g := gb252) (o := .cells #[.int .i64 ((rd_T27 l0_2 x29_2).f0), .slice A251_1 ((rd_T27 l0_2 x29_2).f1).length c251_1, .slice A251_2 ((rd_T27 l0_2 x29_2).f2).length c251_2] 27 (0, 0)) (bP3 BK252) hb); replace HB := bs HB hb; (try clear hb); (try clear hb2); (try clear hk); (try clear hi)))
           go_roundg k2
           case measure => have := HK1.out; have := HK2.out; omega
           case rel => exact ⟨(x5_2), (wrap64 (x29_2 + 1)), (by first | rfl | (simp; done) | (simp [*]; done)), (by first | rfl | (simp; done) | (simp [*]; done)), H', ⟨by have := HK1.out; have := HK2.out; omega⟩, ⟨bU BK247⟩, ⟨bB HB⟩⟩
         ·rw [if_neg c15] at H
          exact absurd H (by simp)
        ·rw [if_neg c14] at H
         exact absurd H (by simp)
       ·rw [if_neg c13] at H
        have c13b0 : decide (x29_2 < (l0_2.length : Int)) = false := decide_eq_false c13
        clear c13
        obtain rfl := Option.some.inj H
        have hcz26_0 := bC0 BK247
        have hcz26_1 := bC1 BK247
        have hcz26_2 := bC2 BK247
        have hfz26_0 := blk_frozen BK247.out 0
        have hfz26_1 := blk_frozen BK247.out 1
        have hfz26_2 := blk_frozen BK247.out 2
        go_wp2
        go_ret
        exact ⟨by first | rfl | (simp [errW_none, errW_some] <;> rfl) | (simp [*, errW_none, errW_some] <;> rfl), bB HB⟩
 ·replace c4 := Bool.eq_false_iff.mpr c4
  subst c4
  have H1 : (some false) = some r := by rw [if_neg (show ¬ (false = true) by decide)] at H; exact H
  clear H
  have H := H1
  clear H1
  obtain rfl := Option.some.inj H
  go_enter Try.func11, Try.ntmps11
  go_wp2_with (first | ((with_reducible refine gate_dst (N := 2) rfl ?_); refine box_event ?hg (N := 2) ?hd (cs := #[.int .i64 a0_0, .slice A0_1 l0_1.length c0_1, .slice A0_2 l0_2.length c0_2]) (t := 27) ?hr ?_; (case hd => rfl); (case hg => rfl); (case hr => first | (go_simp; done) | (go_simp; rfl)); intro gb247 hg w27 hbox hb; have BK247 := Aside0.mk (hbox); have GW247 := Aside0.mk ((by rw [hg]; exact (below_size (bB HB)) : w.heap.size ≤ gb247)); have GE247 := Aside0.mk ((by rw [hg]; exact (below_size (bB HB)) : w.heap.size ≤ gb247)); replace HB := bs HB hb; clear hb hbox hg) | ((with_reducible refine gate_callee (f := 26) rfl ?_); refine goesA_ (some 11) rfl rfl Try.func26 rfl #[.int .i64 a1] rfl ?_; (with_reducible refine (trustquorumref01_Valid.calls a1 false _ A3.out).mono ?_); rintro e w' ⟨rfl, ⟨nd, rfl⟩⟩; refine ⟨_, rfl, ?_⟩))
  go_ret
  exact ⟨by first | rfl | (simp [errW_none, errW_some] <;> rfl) | (simp [*, errW_none, errW_some] <;> rfl), bB HB⟩
def threshold_Blocked.f (k : Nat) (a0_0 : Int) (l0_1 : List Int) (l0_2 : List (S27)) (a1 : Int) : Option (Bool) := (nodeset_Valid.f a1).bind fun t258 => (if t258 = true then ((threshold_Satisfied.f k a0_0 l0_1 l0_2 (wrap64 (1023 - a1))).bind fun t259 => (some (!t259))) else (some false))
set_option maxHeartbeats 8000000 in
set_option maxRecDepth 100000 in
theorem threshold_Blocked.calls (k : Nat) (a0_0 : Int) (A0_1 : Option Addr) (c0_1 : Nat) (l0_1 : List Int) (A0_2 : Option Addr) (c0_2 : Nat) (l0_2 : List (S27)) (a1 : Int) (r : Bool) (w : World) (hr0_1 : Kd.C (Kd.int .i64) w A0_1 l0_1.length l0_1) (hc0_1 : l0_1.length ≤ c0_1) (hr0_2 : Kd.C k27 w A0_2 l0_2.length l0_2) (hc0_2 : l0_2.length ≤ c0_2) (h : threshold_Blocked.f k a0_0 l0_1 l0_2 a1 = some r) :
 Calls Try.prog 29 #[.agg #[.int .i64 a0_0, .slice A0_1 l0_1.length c0_1, .slice A0_2 l0_2.length c0_2], .int .i64 a1] w fun e w' => e = .returned (.bool r) ∧ Below w.heap.size w w' := by
 have hu27 := Try.underlying27
 have HR0_1 := Aside0.mk hr0_1
 have HC0_1 := Aside0.mk hc0_1
 clear hr0_1 hc0_1
 have HR0_2 := Aside0.mk hr0_2
 have HC0_2 := Aside0.mk hc0_2
 clear hr0_2 hc0_2
 have HB := Aside0.mk (Below.refl w.heap.size w)
 have H : ((nodeset_Valid.f a1).bind fun t258 => (if t258 = true then ((threshold_Satisfied.f k a0_0 l0_1 l0_2 (wrap64 (1023 - a1))).bind fun t259 => (some (!t259))) else (some false))) = some r := h
 clear h
 replace H := Option.bind_eq_some_iff.mp H
 obtain ⟨t258, A30, H⟩ := H
 replace H : (if t258 = true then ((threshold_Satisfied.f k a0_0 l0_1 l0_2 (wrap64 (1023 - a1))).bind fun t259 => (some (!t259))) else (some false)) = some r := H
 have A3 := Aside0.mk A30
 clear A30
 by_cases c4 : t258 = true
 ·subst c4
  have H1 : ((threshold_Satisfied.f k a0_0 l0_1 l0_2 (wrap64 (1023 - a1))).bind fun t259 => (some (!t259))) = some r := by rw [if_pos rfl] at H; exact H
  clear H
  have H := H1
  clear H1
  replace H := Option.bind_eq_some_iff.mp H
  obtain ⟨t259, A50, H⟩ := H
  replace H : (some (!t259)) = some r := H
  have A5 := Aside0.mk A50
  clear A50
  obtain rfl := Option.some.inj H
  go_enter Try.func29, Try.ntmps29
  go_wp2_with (first | ((with_reducible refine gate_dst (N := 2) rfl ?_); refine box_event ?hg (N := 2) ?hd (cs := #[.int .i64 a0_0, .slice A0_1 l0_1.length c0_1, .slice A0_2 l0_2.length c0_2]) (t := 27) ?hr ?_; (case hd => rfl); (case hg => rfl); (case hr => first | (go_simp; done) | (go_simp; rfl)); intro gb257 hg w6 hbox hb; have BK257 := Aside0.mk (hbox); have GW257 := Aside0.mk ((by rw [hg]; exact (below_size (bB HB)) : w.heap.size ≤ gb257)); have GE257 := Aside0.mk ((by rw [hg]; exact (below_size (bB HB)) : w.heap.size ≤ gb257)); replace HB := bs HB hb; clear hb hbox hg) | ((with_reducible refine gate_callee (f := 46) rfl ?_); refine goesA_ (some 6) rfl rfl Try.func46 rfl #[.int .i64 a1] rfl ?_; (with_reducible refine (nodeset_Valid.calls a1 true _ A3.out).mono ?_); rintro e w' ⟨rfl, ⟨nd, rfl⟩⟩; refine ⟨_, rfl, ?_⟩; have hcz7_0 := bC0 BK257; have hcz7_1 := bC1 BK257; have hcz7_2 := bC2 BK257; have hfz7_0 := blk_frozen BK257.out 0; have hfz7_1 := blk_frozen BK257.out 1; have hfz7_2 := blk_frozen BK257.out 2) | (go_at_call 25; (with_reducible refine (threshold_Satisfied.calls k a0_0 _ _ l0_1 _ _ l0_2 (wrap64 (1023 - a1)) t259 _ ?side1 ?side2 ?side3 ?side4 A5.out).mono ?_); (case side1 => exact Kd.uC (Kd.C_below HR0_1.out (bB HB))); (case side2 => exact HC0_1.out); (case side3 => exact Kd.uC (Kd.C_below HR0_2.out (bB HB))); (case side4 => exact HC0_2.out); rintro e w8 ⟨rfl, hb⟩; replace BK257 := bb BK257 hb; replace HB := bs HB hb; (try clear hb); (try clear hb2); (try clear hk); (try clear hi)))
  go_ret
  exact ⟨by first | rfl | (simp [errW_none, errW_some] <;> rfl) | (simp [*, errW_none, errW_some] <;> rfl), bB HB⟩
 ·replace c4 := Bool.eq_false_iff.mpr c4
  subst c4
  have H1 : (some false) = some r := by rw [if_neg (show ¬ (false = true) by decide)] at H; exact H
  clear H
  have H := H1
  clear H1
  obtain rfl := Option.some.inj H
  go_enter Try.func29, Try.ntmps29
  go_wp2_with (first | ((with_reducible refine gate_dst (N := 2) rfl ?_); refine box_event ?hg (N := 2) ?hd (cs := #[.int .i64 a0_0, .slice A0_1 l0_1.length c0_1, .slice A0_2 l0_2.length c0_2]) (t := 27) ?hr ?_; (case hd => rfl); (case hg => rfl); (case hr => first | (go_simp; done) | (go_simp; rfl)); intro gb257 hg w9 hbox hb; have BK257 := Aside0.mk (hbox); have GW257 := Aside0.mk ((by rw [hg]; exact (below_size (bB HB)) : w.heap.size ≤ gb257)); have GE257 := Aside0.mk ((by rw [hg]; exact (below_size (bB HB)) : w.heap.size ≤ gb257)); replace HB := bs HB hb; clear hb hbox hg) | ((with_reducible refine gate_callee (f := 46) rfl ?_); refine goesA_ (some 6) rfl rfl Try.func46 rfl #[.int .i64 a1] rfl ?_; (with_reducible refine (nodeset_Valid.calls a1 false _ A3.out).mono ?_); rintro e w' ⟨rfl, ⟨nd, rfl⟩⟩; refine ⟨_, rfl, ?_⟩))
  go_ret
  exact ⟨by first | rfl | (simp [errW_none, errW_some] <;> rfl) | (simp [*, errW_none, errW_some] <;> rfl), bB HB⟩
end Go.Proofs.Ytfkpimjiaijmgaa.G
end
section
namespace Go.Proofs.Ytfkpimjiaijmgaa.G
open Go.RowKit Go.Proofs.YtfkpimjiaijmgaaW.PrintWords Go.Proofs.YtfkpimjiaijmgaaW.PrintLast Go.Proofs.YtfkpimjiaijmgaaW.PrintMore
attribute [local go_sem] max2_int min2_int max_two min_two max_three min_three max_four min_four   -- for this text's walks alone
set_option linter.unusedVariables false
set_option linter.unusedSimpArgs false
def trustquorummake_Ints.l0 : Nat → List Int → List Int → Int → Int → Option (Bool)
 | 0, _, _, _, _ => none
 | k + 1, x0, x1, x12, x13 => if x13 < x12 then (if 0 ≤ x13 then (if x13 < (x0.length : Int) then (if x13 < (x1.length : Int) then (if (rd x0 x13) = (rd x1 x13) then (trustquorummake_Ints.l0 k x0 x1 x12 (wrap64 (x13 + 1))) else (some false)) else (none)) else (none)) else (none)) else (some true)
def trustquorummake_Ints.f (k : Nat) (l0 : List Int) (l1 : List Int) : Option (Bool) := if (l0.length : Int) = (l1.length : Int) then (trustquorummake_Ints.l0 k l0 l1 (l0.length : Int) 0) else (some false)
set_option maxHeartbeats 8000000 in
set_option maxRecDepth 100000 in
theorem trustquorummake_Ints.calls (k : Nat) (A0 : Option Addr) (c0 : Nat) (l0 : List Int) (A1 : Option Addr) (c1 : Nat) (l1 : List Int) (r : Bool) (w : World) (hr0 : Kd.C (Kd.int .i64) w A0 l0.length l0) (hc0 : l0.length ≤ c0) (hr1 : Kd.C (Kd.int .i64) w A1 l1.length l1) (hc1 : l1.length ≤ c1) (h : trustquorummake_Ints.f k l0 l1 = some r) :
 Calls Try.prog 16 #[.slice A0 l0.length c0, .slice A1 l1.length c1] w fun e w' => e = .returned (.bool r) ∧ Drawn0 w w' := by
 have HR0 := Aside0.mk hr0
 have HC0 := Aside0.mk hc0
 clear hr0 hc0
 have HR1 := Aside0.mk hr1
 have HC1 := Aside0.mk hc1
 clear hr1 hc1
 have H : (if (l0.length : Int) = (l1.length : Int) then (trustquorummake_Ints.l0 k l0 l1 (l0.length : Int) 0) else (some false)) = some r := h
 clear h
 by_cases c3 : (l0.length : Int) = (l1.length : Int)
 ·rw [if_pos c3] at H
  have c3b0 : ((l0.length : Int) == (l1.length : Int)) = true := beq_iff_eq.mpr c3
  have c3b1 : ((l0.length : Int) != (l1.length : Int)) = false := bne_eq_false_iff_eq.mpr c3
  have c3b2 : (l0.length == l1.length) = true := by first | simpa using c3 | (simp at c3 ⊢; omega)
  clear c3
  have H' := Aside0.mk H
  clear H
  go_enter Try.func16, Try.ntmps16
  go_wp2
  repeat (go_quiet (fail); try go_wp2)
  go_loopg [13] k (fun kq v13 w' => ∃ (x13_1 : Int), v13 = .int .i64 x13_1 ∧ Aside0 (trustquorummake_Ints.l0 kq l0 l1 (l0.length : Int) x13_1 = some r) ∧ Aside0 (kq ≤ k) ∧ Drawn0 w w')
  case atStart => exact ⟨(0), (by first | rfl | (simp; done) | (simp [*]; done)), H', ⟨Nat.le_refl _⟩, by repeat (first | exact Drawn0.refl _ | apply Drawn0.step)⟩
  case round =>
   clear H'
   try clear c1
   try clear p2
   try clear c3
   try clear c3b0
   try clear c3b1
   try clear c3b2
   obtain ⟨x13_1, rfl, HA, HK1, ⟨m1, rfl⟩⟩ := hrel
   cases gk with
   | zero => exact absurd HA.out (by simp [trustquorummake_Ints.l0])
   | succ k1 =>
    have H := HA.out
    clear HA
    simp only [trustquorummake_Ints.l0] at H
    by_cases c4 : x13_1 < (l0.length : Int)
    ·rw [if_pos c4] at H
     have c4b0 : decide (x13_1 < (l0.length : Int)) = true := decide_eq_true c4
     clear c4
     by_cases c5 : 0 ≤ x13_1
     ·rw [if_pos c5] at H
      have c5b0 : decide (0 ≤ x13_1) = true := decide_eq_true c5
      clear c5
      by_cases c6 : x13_1 < (l0.length : Int)
      ·rw [if_pos c6] at H
       have c6b0 : decide (x13_1 < (l0.length : Int)) = true := decide_eq_true c6
       clear c6
       by_cases c7 : x13_1 < (l1.length : Int)
       ·rw [if_pos c7] at H
        have c7b0 : decide (x13_1 < (l1.length : Int)) = true := decide_eq_true c7
        clear c7
        by_cases c8 : (rd l0 x13_1) = (rd l1 x13_1)
        ·rw [if_pos c8] at H
         have c8b0 : ((rd l0 x13_1) == (rd l1 x13_1)) = true := beq_iff_eq.mpr c8
         have c8b1 : ((rd l0 x13_1) != (rd l1 x13_1)) = false := bne_eq_false_iff_eq.mpr c8
         clear c8
         have H' := Aside0.mk H
         clear H
         have p260 : 0 ≤ (x13_1 : Int) := of_decide_eq_true (by first | (with_reducible assumption) | assumption)
         have q260 : x13_1 < (l0.length : Int) := of_decide_eq_true (by first | (with_reducible assumption) | assumption)
         obtain ⟨ad260, e260, hx260_0⟩ := Kd.at_int HR0.out x13_1 p260 q260
         cases e260
         replace p260 := eq_true p260
         replace q260 := eq_true q260
         have p261 : 0 ≤ (x13_1 : Int) := of_decide_eq_true (by first | (with_reducible assumption) | assumption)
         have q261 : x13_1 < (l1.length : Int) := of_decide_eq_true (by first | (with_reducible assumption) | assumption)
         obtain ⟨ad261, e261, hx261_0⟩ := Kd.at_int HR1.out x13_1 p261 q261
         cases e261
         replace p261 := eq_true p261
         replace q261 := eq_true q261
         go_wp2
         repeat (go_quiet (fail); try go_wp2)
         go_roundg k1
         case measure => have := HK1.out; omega
         case rel => exact ⟨(wrap64 (x13_1 + 1)), (by first | rfl | (simp; done) | (simp [*]; done)), H', ⟨by have := HK1.out; omega⟩, by repeat (first | exact Drawn0.refl _ | apply Drawn0.step)⟩
        ·rw [if_neg c8] at H
         have c8b0 : ((rd l0 x13_1) == (rd l1 x13_1)) = false := beq_eq_false_iff_ne.mpr c8
         have c8b1 : ((rd l0 x13_1) != (rd l1 x13_1)) = true := bne_iff_ne.mpr c8
         obtain rfl := Option.some.inj H
         have p260 : 0 ≤ (x13_1 : Int) := of_decide_eq_true (by first | (with_reducible assumption) | assumption)
         have q260 : x13_1 < (l0.length : Int) := of_decide_eq_true (by first | (with_reducible assumption) | assumption)
         obtain ⟨ad260, e260, hx260_0⟩ := Kd.at_int HR0.out x13_1 p260 q260
         cases e260
         replace p260 := eq_true p260
         replace q260 := eq_true q260
         have p261 : 0 ≤ (x13_1 : Int) := of_decide_eq_true (by first | (with_reducible assumption) | assumption)
         have q261 : x13_1 < (l1.length : Int) := of_decide_eq_true (by first | (with_reducible assumption) | assumption)
         obtain ⟨ad261, e261, hx261_0⟩ := Kd.at_int HR1.out x13_1 p261 q261
         cases e261
         replace p261 := eq_true p261
         replace q261 := eq_true q261
         go_wp2
         repeat (go_quiet (fail); try go_wp2)
         go_ret
         exact ⟨by first | rfl | (simp; done) | (simp [*]; done), by repeat (first | exact Drawn0.refl _ | apply Drawn0.step)⟩
       ·rw [if_neg c7] at H
        exact absurd H (by simp)
      ·rw [if_neg c6] at H
       exact absurd H (by simp)
     ·rw [if_neg c5] at H
      exact absurd H (by simp)
    ·rw [if_neg c4] at H
     have c4b0 : decide (x13_1 < (l0.length : Int)) = false := decide_eq_false c4
     clear c4
     obtain rfl := Option.some.inj H
     go_wp2
     repeat (go_quiet (fail); try go_wp2)
     go_ret
     exact ⟨by first | rfl | (simp; done) | (simp [*]; done), by repeat (first | exact Drawn0.refl _ | apply Drawn0.step)⟩
 ·rw [if_neg c3] at H
  have c3b0 : ((l0.length : Int) == (l1.length : Int)) = false := beq_eq_false_iff_ne.mpr c3
  have c3b1 : ((l0.length : Int) != (l1.length : Int)) = true := bne_iff_ne.mpr c3
  have c3b2 : (l0.length == l1.length) = false := by first | simpa using c3 | (simp at c3 ⊢; omega)
  obtain rfl := Option.some.inj H
  go_enter Try.func16, Try.ntmps16
  go_wp2
  repeat (go_quiet (fail); try go_wp2)
  go_ret
  exact ⟨by first | rfl | (simp; done) | (simp [*]; done), by repeat (first | exact Drawn0.refl _ | apply Drawn0.step)⟩
end Go.Proofs.Ytfkpimjiaijmgaa.G
end
section
namespace Go.Proofs.Ytfkpimjiaijmgaa.G
open Go.RowKit Go.Proofs.YtfkpimjiaijmgaaW.PrintWords Go.Proofs.YtfkpimjiaijmgaaW.PrintLast Go.Proofs.YtfkpimjiaijmgaaW.PrintMore
attribute [local go_sem] max2_int min2_int max_two min_two max_three min_three max_four min_four   -- for this text's walks alone
set_option linter.unusedVariables false
set_option linter.unusedSimpArgs false
section
set_option maxRecDepth 100000
open Go.Sort Go.Lib Go.Shelf YtfkpimjiaijmgaaV
/-- The predicate that Blocking hands on: the trust lies in a box. -/
theorem blocking1_calls (k : Nat) (a : Int) (A1 : Option Addr) (c1 : Nat) (l1 : List Int) (A2 : Option Addr) (c2 : Nat) (l2 : List S27) (B : Nat) (s : Int) (b : Bool) (W : World)
 (hbox : W.heap[B]? = some (.cells #[.int .i64 a, .slice A1 l1.length c1, .slice A2 l2.length c2] 27 (0, 0)))
 (h1 : Kd.C (Kd.int .i64) W A1 l1.length l1) (hc1 : l1.length ≤ c1) (h2 : Kd.C k27 W A2 l2.length l2) (hc2 : l2.length ≤ c2) (h : threshold_Blocked.f k a l1 l2 s = some b) :
 Calls Try.prog 28 #[.int .i64 s, .pointer (some ⟨B, 0, none⟩)] W fun e w' => e = .returned (.bool b) ∧ Below W.heap.size W w' := by
 have H1 := Aside0.mk h1
 have H2 := Aside0.mk h2
 have H := Aside0.mk h
 have x0 : W.cell? ⟨B, 0, none⟩ = some (.int .i64 a) := (blk_cell hbox 0).trans rfl
 have x1 : W.cell? ⟨B, 1, none⟩ = some (.slice A1 l1.length c1) := (blk_cell hbox 1).trans rfl
 have x2 : W.cell? ⟨B, 2, none⟩ = some (.slice A2 l2.length c2) := (blk_cell hbox 2).trans rfl
 clear h1 h2 h hbox
 go_enter Try.func28, Try.ntmps28
 go_wp2_with (first | (go_at_call 29; (refine (threshold_Blocked.calls k a A1 c1 l1 A2 c2 l2 s b _ H1.out hc1 H2.out hc2 H.out).mono ?_); rintro e w1 ⟨rfl, hb⟩; have HB := Aside0.mk hb; clear hb))
 go_ret
 exact ⟨rfl, HB.out⟩
theorem bl_pred {k : Nat} {a : Int} {A1 : Option Addr} {c1 : Nat} {l1 : List Int} {A2 : Option Addr} {c2 : Nat} {l2 : List S27} {w w0 w1 : World} (HA : Aside0 (∀ x ∈ allF, ∃ b, threshold_Blocked.f k a l1 l2 (x.1 : Int) = some b))
 (HBX : Aside0 (w0.heap[w.heap.size]? = some (.cells #[.int .i64 a, .slice A1 l1.length c1, .slice A2 l2.length c2] 27 (0, 0)))) (HB0 : Aside0 (Below w.heap.size w w0)) (HB1 : Aside0 (Below w0.heap.size w0 w1))
 (H1 : Aside0 (Kd.C (Kd.int .i64) w A1 l1.length l1)) (H2 : Aside0 (Kd.C k27 w A2 l2.length l2)) (hc1 : l1.length ≤ c1) (hc2 : l2.length ≤ c2) :
 ∀ (W : World) (s : Fin 1024), Below w1.heap.size w1 W → Calls Try.prog 28 (#[.int .i64 (s.1 : Int)] ++ #[.pointer (some ⟨w.heap.size, 0, none⟩)]) W fun e w' => e = .returned (.bool ((threshold_Blocked.f k a l1 l2 (s.1 : Int)).getD false)) ∧ Below W.heap.size W w' := by
 intro W s hW
 obtain ⟨b, hb⟩ := HA.out s (mem_allF s)
 have h01 : Below w0.heap.size w0 W := HB1.out.trans (hW.mono HB1.out.size)
 have hw : Below w.heap.size w W := HB0.out.trans (h01.mono HB0.out.size)
 have hbox := (h01.block w.heap.size (Array.getElem?_eq_some_iff.1 HBX.out).1).trans HBX.out
 rw [hb]
 exact blocking1_calls k a A1 c1 l1 A2 c2 l2 w.heap.size s.1 b W hbox (Kd.C_below H1.out hw) hc1 (Kd.C_below H2.out hw) hc2 hb
end
def slices_Blocking.f (k : Nat) (a0_0 : Int) (l0_1 : List Int) (l0_2 : List S27) : Option (List Int × Int) := (threshold_Valid.f k a0_0 l0_1 l0_2).bind fun e => if e = 0 then (YtfkpimjiaijmgaaV.filterO (fun s : Fin 1024 => threshold_Blocked.f k a0_0 l0_1 l0_2 (s.1 : Int)) YtfkpimjiaijmgaaV.allF).bind fun l => some (YtfkpimjiaijmgaaV.leastL (l.map fun x => (x.1 : Int)), 0) else some ([], e)
set_option maxHeartbeats 1000000 in
theorem slices_Blocking.calls (k : Nat) (a0_0 : Int) (A0_1 : Option Addr) (c0_1 : Nat) (l0_1 : List Int) (A0_2 : Option Addr) (c0_2 : Nat) (l0_2 : List (S27)) (r1 : List Int) (r2 : Int) (w : World) (hr0_1 : Kd.C (Kd.int .i64) w A0_1 l0_1.length l0_1) (hc0_1 : l0_1.length ≤ c0_1) (hr0_2 : Kd.C k27 w A0_2 l0_2.length l0_2) (hc0_2 : l0_2.length ≤ c0_2) (h : slices_Blocking.f k a0_0 l0_1 l0_2 = some (r1, r2)) :
 Calls Try.prog 14 #[.agg #[.int .i64 a0_0, .slice A0_1 l0_1.length c0_1, .slice A0_2 l0_2.length c0_2]] w fun e w' => ∃ v0_ : Value, e = .returned (.tuple #[v0_, .int .i64 r2]) ∧ Kd.R (Kd.int .i64) 3 w' w.heap.size (fun _ => True) v0_ r1 ∧ Below w.heap.size w w' := by
 unfold slices_Blocking.f at h
 replace h := Option.bind_eq_some_iff.1 h
 obtain ⟨e, hv, h⟩ := h
 have HV := Aside0.mk hv
 have H1 := Aside0.mk hr0_1
 have H2 := Aside0.mk hr0_2
 clear hv hr0_1 hr0_2
 have hbx := heap_alloc_new w (.cells #[.int .i64 a0_0, .slice A0_1 l0_1.length c0_1, .slice A0_2 l0_2.length c0_2] 27)
 have HBX := Aside0.mk hbx
 have HB0 := Aside0.mk (below_alloc (Below.refl w.heap.size w) (.cells #[.int .i64 a0_0, .slice A0_1 l0_1.length c0_1, .slice A0_2 l0_2.length c0_2] 27))
 clear hbx
 by_cases he : e = 0
 ·rw [if_pos he] at h
  subst he
  replace h := Option.bind_eq_some_iff.1 h
  obtain ⟨l, hl, h⟩ := h
  obtain ⟨hall, hlf⟩ := YtfkpimjiaijmgaaV.filterO_some hl
  simp only [Option.some.injEq, Prod.mk.injEq] at h
  obtain ⟨rfl, rfl⟩ := h
  have HL := Aside0.mk (show l.map (fun x => (x.1 : Int)) = ofSets (fun s => (threshold_Blocked.f k a0_0 l0_1 l0_2 (s.1 : Int)).getD false) YtfkpimjiaijmgaaV.allF by rw [hlf]; rfl)
  have HA := Aside0.mk hall
  clear hl hall hlf
  go_enter Try.func14, Try.ntmps14
  go_wp2_with (first
   | (go_at_call 22; (refine (threshold_Valid.calls k a0_0 A0_1 c0_1 l0_1 A0_2 c0_2 l0_2 0 _ (Kd.C_alloc H1.out _) hc0_1 (Kd.C_alloc H2.out _) hc0_2 HV.out).mono ?_); rintro e w1 ⟨rfl, hb⟩; have HB1 := Aside0.mk hb; clear hb)
   | (go_at_call 23; (refine (least_calls 28 #[.pointer (some ⟨w.heap.size, 0, none⟩)] (fun s => (threshold_Blocked.f k a0_0 l0_1 l0_2 (s.1 : Int)).getD false) _ (enters_of Try.func28 (by kernel_rfl) rfl) ?hP).mono ?_); (case hP => exact bl_pred HA HBX HB0 HB1 H1 H2 hc0_1 hc0_2); rintro e w2 ⟨v, rfl, hr, hb⟩; have HR := Aside0.mk hr; have HB2 := Aside0.mk hb; clear hr hb))
  go_ret2
  refine ⟨_, rfl, ?_, HB0.out.trans ((HB1.out.trans (HB2.out.mono HB1.out.size)).mono HB0.out.size)⟩
  rw [HL.out]
  exact Kd.R_lower HR.out (Nat.le_trans HB0.out.size HB1.out.size)
 ·rw [if_neg he] at h
  simp only [Option.some.injEq, Prod.mk.injEq] at h
  obtain ⟨rfl, rfl⟩ := h
  have he1 : (e == 0) = false := by simpa using he
  have he2 : (e != 0) = true := by simpa using he
  clear he
  go_enter Try.func14, Try.ntmps14
  go_wp2_with (first
   | (go_at_call 22; (refine (threshold_Valid.calls k a0_0 A0_1 c0_1 l0_1 A0_2 c0_2 l0_2 e _ (Kd.C_alloc H1.out _) hc0_1 (Kd.C_alloc H2.out _) hc0_2 HV.out).mono ?_); rintro e w1 ⟨rfl, hb⟩; have HB1 := Aside0.mk hb; clear hb))
  go_ret2
  exact ⟨_, rfl, Kd.R_nil _ _ _ _ _, HB0.out.trans (HB1.out.mono HB0.out.size)⟩
end Go.Proofs.Ytfkpimjiaijmgaa.G
end
section
namespace Go.Proofs.YtfkpimjiaijmgaaV
/-- a comes before b in the order of sets. -/
def before (a b : Int) : Prop := rankI a < rankI b ∨ (rankI a = rankI b ∧ a < b)
instance (a b : Int) : Decidable (before a b) := inferInstanceAs (Decidable (_ ∨ _))
theorem before_iff (a b : Int) : cmpI a b < 0 ↔ before a b := cmpI_lt a b
theorem before_trans {a b c : Int} (h : before a b) (k : before b c) : before a c := by unfold before at *; omega
theorem before_irrefl (a : Int) : ¬ before a a := by unfold before; omega
theorem before_total (a b : Int) : before a b ∨ a = b ∨ before b a := by unfold before; omega
theorem sortSets_perm (l : List Int) : (sortSets l).Perm l := List.mergeSort_perm _ _
theorem sortSets_sorted (l : List Int) : (sortSets l).Pairwise fun x y => ¬ before y x := by
 have := List.pairwise_mergeSort (le := fun x y => !decide (cmpI y x < 0)) (fun a b c h1 h2 => by
  simp only [Bool.not_eq_true', decide_eq_false_iff_not, before_iff] at *
  unfold before at *; omega) (fun a b => by
  simp only [Bool.or_eq_true, Bool.not_eq_true', decide_eq_false_iff_not, before_iff]
  unfold before; omega) l
 refine this.imp ?_
 intro a b h
 simpa [before_iff] using h
theorem mem_keepLeast : ∀ (l out : List Int) (s : Int), s ∈ keepLeast out l → s ∈ out ∨ s ∈ l
 | [], _, _, h => .inl h
 | x :: l, out, s, h => by
  unfold keepLeast at h
  rcases mem_keepLeast l _ s h with h | h
  ·by_cases hx : (out.any fun t => subI t x) = true
   ·rw [if_pos hx] at h; exact .inl h
   ·rw [if_neg hx] at h
    rcases List.mem_append.1 h with h | h
    ·exact .inl h
    ·rw [List.mem_singleton.1 h]; exact .inr (by simp)
  ·exact .inr (by simp [h])
theorem keep_out : ∀ (l out : List Int) (s : Int), s ∈ out → s ∈ keepLeast out l
 | [], _, _, h => h
 | x :: l, out, s, h => by
  unfold keepLeast
  refine keep_out l _ s ?_
  split
  ·exact h
  ·exact List.mem_append.2 (.inl h)
/-- Each element has one below it that is kept. -/
theorem keep_some : ∀ (l out : List Int) (s : Int), s ∈ l → ∃ t ∈ keepLeast out l, subI t s = true
 | x :: l, out, s, h => by
  unfold keepLeast
  rcases List.mem_cons.1 h with rfl | h
  ·by_cases hx : (out.any fun t => subI t s) = true
   ·rw [if_pos hx]
    obtain ⟨t, ht, hs⟩ := List.any_eq_true.1 hx
    exact ⟨t, keep_out _ _ _ ht, hs⟩
   ·rw [if_neg hx]
    exact ⟨s, keep_out _ _ _ (by simp), by simp [subI]⟩
  ·exact keep_some l _ s h
/-- What is kept has nothing kept ahead of it below it. -/
theorem keep_sorted : ∀ (l out : List Int), (out ++ l).Pairwise (fun x y => ¬ before y x) → out.Pairwise (fun x y => before x y ∧ subI x y = false) → (∀ x ∈ l, isSet x = true) → (∀ x ∈ out, isSet x = true) →
 (keepLeast out l).Pairwise (fun x y => before x y ∧ subI x y = false)
 | [], _, _, h, _, _ => h
 | x :: l, out, hs, h, hl, ho => by
  unfold keepLeast
  have hs' : (out ++ l).Pairwise (fun x y => ¬ before y x) := by
   rw [List.pairwise_append] at hs ⊢
   exact ⟨hs.1, (List.pairwise_cons.1 hs.2.1).2, fun a ha b hb => hs.2.2 a ha b (by simp [hb])⟩
  by_cases hx : (out.any fun t => subI t x) = true
  ·rw [if_pos hx]; exact keep_sorted l out hs' h (fun y hy => hl y (by simp [hy])) ho
  ·rw [if_neg hx]
   refine keep_sorted l (out ++ [x]) (by simpa using hs) ?_ (fun y hy => hl y (by simp [hy])) ?_
   ·rw [List.pairwise_append]
    refine ⟨h, by simp, fun a ha b hb => ?_⟩
    rw [List.mem_singleton.1 hb]
    have hn : subI a x = false := by
     cases hz : subI a x with
     | false => rfl
     | true => exact absurd (List.any_eq_true.2 ⟨a, ha, hz⟩) hx
    have hnb := (List.pairwise_append.1 hs).2.2 a ha x (by simp)
    rcases before_total a x with hb | rfl | hb
    ·exact ⟨hb, hn⟩
    ·simp [subI] at hn
    ·exact absurd hb hnb
   ·intro y hy
    rcases List.mem_append.1 hy with hy | hy
    ·exact ho y hy
    ·rw [List.mem_singleton.1 hy]; exact hl x (by simp)
/-- A subset is no greater: it comes first, or is the set. -/
theorem sub_before {t s : Int} (ht : isSet t = true) (hs : isSet s = true) (h : subI t s = true) : before t s ∨ t = s := by
 obtain ⟨a, rfl, ha⟩ := isSet_nat ht
 obtain ⟨b, rfl, hb⟩ := isSet_nat hs
 simp only [subI, Int.toNat_natCast, beq_iff_eq] at h
 have hle : popc a ≤ popc b := by
  rw [popc_bits ⟨a, ha⟩, popc_bits ⟨b, hb⟩]
  rw [← List.countP_eq_length_filter, ← List.countP_eq_length_filter]
  refine List.countP_mono_left fun k _ hk => ?_
  have hk' : a.testBit k = true := hk
  rw [← h, Nat.testBit_and] at hk'
  simp at hk'
  exact hk'.2
 have hab : a ≤ b := by rw [← h]; exact Nat.and_le_right
 have ra : rankI (a : Int) = popc a := by unfold rankI; rw [if_pos ht]; rfl
 have rb : rankI (b : Int) = popc b := by unfold rankI; rw [if_pos hs]; rfl
 unfold before
 rw [ra, rb]
 omega
theorem leastL_sorted (l : List Int) : (leastL l).Pairwise (fun x y => before x y ∧ subI x y = false) := by
 refine keep_sorted _ [] (by simpa using sortSets_sorted _) (by simp) (fun x hx => ?_) (by simp)
 exact (List.mem_filter.1 ((sortSets_perm _).mem_iff.1 hx)).2
theorem mem_leastL {l : List Int} {s : Int} : s ∈ leastL l ↔ s ∈ l ∧ isSet s = true ∧ ∀ t ∈ l, isSet t = true → subI t s = true → t = s := by
 have hmem : ∀ x, x ∈ sortSets (l.filter isSet) ↔ x ∈ l ∧ isSet x = true := fun x => by
  rw [(sortSets_perm _).mem_iff, List.mem_filter]
 constructor
 ·intro h
  have h1 : s ∈ l ∧ isSet s = true := by
   rcases mem_keepLeast _ _ _ h with h | h
   ·simp at h
   ·exact (hmem s).1 h
  refine ⟨h1.1, h1.2, fun t ht hts hsub => ?_⟩
  obtain ⟨u, hu, hut⟩ := keep_some (sortSets (l.filter isSet)) [] t ((hmem t).2 ⟨ht, hts⟩)
  have hu1 : isSet u = true := by
   rcases mem_keepLeast _ _ _ hu with h | h
   ·simp at h
   ·exact ((hmem u).1 h).2
  have hus : subI u s = true := by
   simp only [subI, beq_iff_eq] at *
   rw [← hut, Nat.and_assoc, hsub]
  have heq : u = s := by
   have hp := leastL_sorted l
   apply Classical.byContradiction
   intro hne
   obtain ⟨i, hi, rfl⟩ := List.getElem_of_mem hu
   obtain ⟨j, hj, rfl⟩ := List.getElem_of_mem h
   have hpw := List.pairwise_iff_getElem.1 hp
   rcases Nat.lt_trichotomy i j with hij | rfl | hij
   ·have h0 := (hpw i j hi hj hij).2; exact absurd (h0.symm.trans hus) (by simp)
   ·exact hne rfl
   ·have hb := (hpw j i hj hi hij).1
    rcases sub_before hu1 h1.2 hus with hb' | he
    ·exact before_irrefl _ (before_trans hb hb')
    ·exact hne he
  subst heq
  rcases sub_before hu1 hts hut with hb | he
  ·rcases sub_before hts h1.2 hsub with hb' | he
   ·exact absurd (before_trans hb hb') (before_irrefl _)
   ·exact he
  ·exact he.symm
 ·rintro ⟨h1, h2, h3⟩
  obtain ⟨u, hu, hus⟩ := keep_some (sortSets (l.filter isSet)) [] s ((hmem s).2 ⟨h1, h2⟩)
  have hu' : u ∈ l ∧ isSet u = true := by
   rcases mem_keepLeast _ _ _ hu with h | h
   ·simp at h
   ·exact (hmem u).1 h
  have := h3 u hu'.1 hu'.2 hus
  rw [← this]; exact hu
/-- Two strictly sorted lists with the same elements are one. -/
theorem sorted_ext : ∀ {l m : List Int}, l.Pairwise before → m.Pairwise before → (∀ x, x ∈ l ↔ x ∈ m) → l = m
 | [], [], _, _, _ => rfl
 | [], y :: m, _, _, h => by have := (h y).2 (by simp); simp at this
 | x :: l, [], _, _, h => by have := (h x).1 (by simp); simp at this
 | x :: l, y :: m, hl, hm, h => by
  have hl' := List.pairwise_cons.1 hl
  have hm' := List.pairwise_cons.1 hm
  have hxy : x = y := by
   rcases List.mem_cons.1 ((h x).1 (by simp)) with he | hx
   ·exact he
   ·rcases List.mem_cons.1 ((h y).2 (by simp)) with he | hy
    ·exact he.symm
    ·exact absurd (before_trans (hl'.1 y hy) (hm'.1 x hx)) (before_irrefl _)
  subst hxy
  congr 1
  refine sorted_ext hl'.2 hm'.2 (fun z => ?_)
  constructor
  ·intro hz
   rcases List.mem_cons.1 ((h z).1 (by simp [hz])) with rfl | hz'
   ·exact absurd (hl'.1 z hz) (before_irrefl _)
   ·exact hz'
  ·intro hz
   rcases List.mem_cons.1 ((h z).2 (by simp [hz])) with rfl | hz'
   ·exact absurd (hm'.1 z hz) (before_irrefl _)
   ·exact hz'
theorem leastL_eq {l m : List Int} (hm : m.Pairwise before) (h : ∀ x, x ∈ leastL l ↔ x ∈ m) : leastL l = m :=
 sorted_ext ((leastL_sorted l).imp fun h => h.1) hm h
theorem mem_setsOf {p : Fin 1024 → Bool} {x : Int} : x ∈ (allF.filter p).map (fun s => (s.1 : Int)) ↔ ∃ s : Fin 1024, p s = true ∧ x = (s.1 : Int) := by
 simp only [List.mem_map, List.mem_filter]
 constructor
 ·rintro ⟨s, ⟨_, h⟩, rfl⟩; exact ⟨s, h, rfl⟩
 ·rintro ⟨s, h, rfl⟩; exact ⟨s, ⟨mem_allF s, h⟩, rfl⟩
theorem isSet_fin (s : Fin 1024) : isSet (s.1 : Int) = true := by have := s.2; simp [isSet]; omega
/-- What the least sets of a predicate are, told and checked. -/
theorem leastL_check (p : Fin 1024 → Bool) (m : List (Fin 1024)) (h1 : (m.map fun s => (s.1 : Int)).Pairwise before) (h2 : ∀ c ∈ m, p c = true)
 (h3 : ∀ s : Fin 1024, p s = true → ∃ c ∈ m, subI (c.1 : Int) (s.1 : Int) = true) (h4 : ∀ c ∈ m, ∀ s : Fin 1024, p s = true → subI (s.1 : Int) (c.1 : Int) = true → s = c) :
 leastL ((allF.filter p).map fun s => (s.1 : Int)) = m.map fun s => (s.1 : Int) := by
 refine leastL_eq h1 (fun x => ?_)
 rw [mem_leastL, mem_setsOf]
 constructor
 ·rintro ⟨⟨s, hs, rfl⟩, _, h⟩
  obtain ⟨c, hc, hcs⟩ := h3 s hs
  have := h (c.1 : Int) (mem_setsOf.2 ⟨c, h2 c hc, rfl⟩) (isSet_fin c) hcs
  rw [← this]; exact List.mem_map.2 ⟨c, hc, rfl⟩
 ·intro hx
  obtain ⟨c, hc, rfl⟩ := List.mem_map.1 hx
  refine ⟨⟨c, h2 c hc, rfl⟩, isSet_fin c, fun t ht _ hts => ?_⟩
  obtain ⟨s, hs, rfl⟩ := mem_setsOf.1 ht
  rw [h4 c hc s hs hts]
def upBefore : List Int → Bool
 | [] => true
 | a :: l => l.all (fun b => decide (before a b)) && upBefore l
theorem upBefore_pw : ∀ {l : List Int}, upBefore l = true → l.Pairwise before
 | [], _ => .nil
 | a :: l, h => by
  simp only [upBefore, Bool.and_eq_true, List.all_eq_true, decide_eq_true_eq] at h
  exact .cons h.1 (upBefore_pw h.2)
def checkAll (p : Nat → Bool) (m : List (Fin 1024)) : Bool :=
 upBefore (m.map fun s => (s.1 : Int)) && m.all (fun c => p c.1) && (List.range 1024).all fun s => !p s || (m.any (fun c => subI (c.1 : Int) (s : Int)) && m.all fun c => !subI (s : Int) (c.1 : Int) || c.1 == s)
theorem leastL_checked (p : Nat → Bool) (m : List (Fin 1024)) (h : checkAll p m = true) : leastL ((allF.filter fun s => p s.1).map fun s => (s.1 : Int)) = m.map fun s => (s.1 : Int) := by
 simp only [checkAll, Bool.and_eq_true, List.all_eq_true, List.mem_range] at h
 obtain ⟨⟨h1, h2⟩, h3⟩ := h
 have h3' : ∀ s : Fin 1024, p s.1 = true → (∃ c ∈ m, subI (c.1 : Int) (s.1 : Int) = true) ∧ ∀ c ∈ m, subI (s.1 : Int) (c.1 : Int) = true → s = c := by
  intro s hs
  have := h3 s.1 s.2
  rw [hs] at this
  simp only [Bool.not_true, Bool.false_or, Bool.and_eq_true, List.any_eq_true, List.all_eq_true] at this
  refine ⟨this.1, fun c hc hsub => ?_⟩
  have h5 := this.2 c hc
  rw [hsub] at h5
  simp at h5
  exact Fin.ext h5.symm
 exact leastL_check (fun s => p s.1) m (upBefore_pw h1) (fun c hc => h2 c hc) (fun s hs => (h3' s hs).1) (fun c hc s hs hsub => (h3' s hs).2 c hc hsub)
end Go.Proofs.YtfkpimjiaijmgaaV
end
section
namespace Go.Proofs.Ytfkpimjiaijmgaa.G
open Go.RowKit Go.Proofs.YtfkpimjiaijmgaaW.PrintWords Go.Proofs.YtfkpimjiaijmgaaW.PrintLast Go.Proofs.YtfkpimjiaijmgaaW.PrintMore
attribute [local go_sem] max2_int min2_int max_two min_two max_three min_three max_four min_four   -- for this text's walks alone
set_option linter.unusedVariables false
set_option linter.unusedSimpArgs false
section
set_option maxRecDepth 100000
open YtfkpimjiaijmgaaV
theorem awake_valid : threshold_Valid.f 12 2 [0, 1] [(⟨1, [2, 3], []⟩ : S27)] = some 0 := by decide +kernel
def bitN (s k : Nat) : Nat := s / 2 ^ k % 2
def awS (s : Nat) : Bool := decide (2 ≤ bitN s 0 + bitN s 1 + max (bitN s 2) (bitN s 3))
def awB (s : Nat) : Bool := decide (¬ 2 ≤ (1 - bitN s 0) + (1 - bitN s 1) + max (1 - bitN s 2) (1 - bitN s 3))
theorem awake_sat : ∀ s : Fin 1024, threshold_Satisfied.f 12 2 [0, 1] [(⟨1, [2, 3], []⟩ : S27)] (s.1 : Int) = some (awS s.1) := by decide +kernel
theorem awake_blk : ∀ s : Fin 1024, threshold_Blocked.f 12 2 [0, 1] [(⟨1, [2, 3], []⟩ : S27)] (s.1 : Int) = some (awB s.1) := by decide +kernel
theorem awake_slices : slices_Slices.f 12 2 [0, 1] [(⟨1, [2, 3], []⟩ : S27)] = some ([3, 5, 6, 9, 10], 0) := by
 unfold slices_Slices.f
 rw [awake_valid]
 simp only [Option.bind_some, if_true]
 rw [filterO_of (q := fun s : Fin 1024 => awS s.1) (fun x _ => awake_sat x)]
 simp only [Option.bind_some]
 rw [leastL_checked awS [3, 5, 6, 9, 10] (by decide +kernel)]
 rfl
theorem awake_blocking : slices_Blocking.f 12 2 [0, 1] [(⟨1, [2, 3], []⟩ : S27)] = some ([3, 13, 14], 0) := by
 unfold slices_Blocking.f
 rw [awake_valid]
 simp only [Option.bind_some, if_true]
 rw [filterO_of (q := fun s : Fin 1024 => awB s.1) (fun x _ => awake_blk x)]
 simp only [Option.bind_some]
 rw [leastL_checked awB [3, 13, 14] (by decide +kernel)]
 rfl
theorem C_oneTrust {W : World} {g : Nat} {x : S27} {cs : Array Value} (hb : W.heap[g]? = some (.cells cs 27 (0, 0))) (hl : cs.size = 3) (hK : k27.K W x cs.toList) : Kd.C k27 W (some ⟨g, 0, none⟩) 1 [x] := by
 refine ⟨rfl, by omega, fun _ => ⟨_, rfl, fun j p hj => ?_⟩⟩
 have hj0 : j = 0 := by
  have := (List.getElem?_eq_some_iff.1 hj).1; simp at this; omega
 subst hj0
 obtain rfl : x = p := by simpa using hj
 refine ⟨cs.toList, by rw [Array.length_toList, hl]; rfl, hK, fun i u hi => ?_⟩
 rw [Nat.zero_mul, Nat.zero_add, add_plain]
 rw [Array.getElem?_toList] at hi
 exact (blk_cell hb i).trans hi
set_option maxHeartbeats 1000000 in
theorem awake_walk (w : World) :
 Calls Try.prog 13 #[] w fun e w' => e = .returned (.bool true) ∧ Below w.heap.size w w' := by
 go_enter Try.func13, Try.ntmps13
 go_wp2_with fail
 have b1 : Below w.heap.size w ((((w.alloc (Obj.cells #[Value.int IntKind.i64 0, Value.int IntKind.i64 1] 3)).alloc (Obj.cells #[Value.int IntKind.i64 2, Value.int IntKind.i64 3] 3)).alloc (Obj.cells #[Value.int IntKind.i64 1, Value.slice (some { block := w.heap.size + 1, off := 0 }) 2 2, Value.slice none 0 0] 27))) := below_alloc (below_alloc (below_alloc (Below.refl _ _) _) _) _
 have hC0 : Kd.C (Kd.int .i64) ((((w.alloc (Obj.cells #[Value.int IntKind.i64 0, Value.int IntKind.i64 1] 3)).alloc (Obj.cells #[Value.int IntKind.i64 2, Value.int IntKind.i64 3] 3)).alloc (Obj.cells #[Value.int IntKind.i64 1, Value.slice (some { block := w.heap.size + 1, off := 0 }) 2 2, Value.slice none 0 0] 27))) (some ⟨w.heap.size, 0, none⟩) 2 [0, 1] :=
  Kd.C_alloc (Kd.C_alloc (YtfkpimjiaijmgaaV.C_pair w 0 1 3) _) _
 have hC1 : Kd.C (Kd.int .i64) ((((w.alloc (Obj.cells #[Value.int IntKind.i64 0, Value.int IntKind.i64 1] 3)).alloc (Obj.cells #[Value.int IntKind.i64 2, Value.int IntKind.i64 3] 3)).alloc (Obj.cells #[Value.int IntKind.i64 1, Value.slice (some { block := w.heap.size + 1, off := 0 }) 2 2, Value.slice none 0 0] 27))) (some ⟨w.heap.size + 1, 0, none⟩) 2 [2, 3] := by
  have := YtfkpimjiaijmgaaV.C_pair (w.alloc (Obj.cells #[Value.int IntKind.i64 0, Value.int IntKind.i64 1] 3)) 2 3 3
  rw [World.size_alloc] at this
  exact Kd.C_alloc this _
 have hC2 := C_oneTrust (W := ((((w.alloc (Obj.cells #[Value.int IntKind.i64 0, Value.int IntKind.i64 1] 3)).alloc (Obj.cells #[Value.int IntKind.i64 2, Value.int IntKind.i64 3] 3)).alloc (Obj.cells #[Value.int IntKind.i64 1, Value.slice (some { block := w.heap.size + 1, off := 0 }) 2 2, Value.slice none 0 0] 27)))) (g := w.heap.size + 1 + 1) (x := ⟨1, [2, 3], []⟩)
  (by have := heap_alloc_new ((w.alloc (Obj.cells #[Value.int IntKind.i64 0, Value.int IntKind.i64 1] 3)).alloc (Obj.cells #[Value.int IntKind.i64 2, Value.int IntKind.i64 3] 3)) (Obj.cells #[Value.int IntKind.i64 1, Value.slice (some { block := w.heap.size + 1, off := 0 }) 2 2, Value.slice none 0 0] 27); rw [World.size_alloc, World.size_alloc] at this; exact this) rfl
  (k27_mk _ (⟨1, [2, 3], []⟩ : S27) (c1 := 2) (Nat.le_refl 2) hC1 (c2 := 0) (Nat.le_refl 0) (Kd.C_nil _ _))
 have hsz : ((((w.alloc (Obj.cells #[Value.int IntKind.i64 0, Value.int IntKind.i64 1] 3)).alloc (Obj.cells #[Value.int IntKind.i64 2, Value.int IntKind.i64 3] 3)).alloc (Obj.cells #[Value.int IntKind.i64 1, Value.slice (some { block := w.heap.size + 1, off := 0 }) 2 2, Value.slice none 0 0] 27))).heap.size = w.heap.size + 1 + 1 + 1 := by simp
 generalize ((((w.alloc (Obj.cells #[Value.int IntKind.i64 0, Value.int IntKind.i64 1] 3)).alloc (Obj.cells #[Value.int IntKind.i64 2, Value.int IntKind.i64 3] 3)).alloc (Obj.cells #[Value.int IntKind.i64 1, Value.slice (some { block := w.heap.size + 1, off := 0 }) 2 2, Value.slice none 0 0] 27))) = W at *
 clear hC1
 have HSZ := Aside0.mk hsz
 clear hsz
 have HS := Aside0.mk (fun X h0 h2 => slices_Slices.calls 12 2 (some ⟨w.heap.size, 0, none⟩) 2 [0, 1] (some ⟨w.heap.size + 1 + 1, 0, none⟩) 1 [⟨1, [2, 3], []⟩] [3, 5, 6, 9, 10] 0 X h0 (Nat.le_refl 2) h2 (Nat.le_refl 1) awake_slices)
 have HB := Aside0.mk (fun X h0 h2 => slices_Blocking.calls 12 2 (some ⟨w.heap.size, 0, none⟩) 2 [0, 1] (some ⟨w.heap.size + 1 + 1, 0, none⟩) 1 [⟨1, [2, 3], []⟩] [3, 13, 14] 0 X h0 (Nat.le_refl 2) h2 (Nat.le_refl 1) awake_blocking)
 have HBX := Aside0.mk (heap_alloc_new W (.cells #[.int .i64 2, .slice (some ⟨w.heap.size, 0, none⟩) 2 2, .slice (some ⟨w.heap.size + 1 + 1, 0, none⟩) 1 1] 27))
 have HC0 := Aside0.mk hC0
 have HC2 := Aside0.mk hC2
 have HB1 := Aside0.mk b1
 clear hC0 hC2 b1
 refine (HS.out _ (Kd.C_alloc HC0.out _) (Kd.C_alloc HC2.out _)).mono ?_
 rintro e w1 ⟨v1, rfl, hr1, hb1⟩
 have hbx1 := (hb1.block _ (Array.getElem?_eq_some_iff.1 HBX.out).1).trans HBX.out
 rw [HSZ.out] at hbx1
 have x0 : w1.cell? ⟨w.heap.size + 1 + 1 + 1, 0, none⟩ = some (.int .i64 2) := (blk_cell hbx1 0).trans rfl
 have x1 : w1.cell? ⟨w.heap.size + 1 + 1 + 1, 1, none⟩ = some (.slice (some ⟨w.heap.size, 0, none⟩) 2 2) := (blk_cell hbx1 1).trans rfl
 have x2 : w1.cell? ⟨w.heap.size + 1 + 1 + 1, 2, none⟩ = some (.slice (some ⟨w.heap.size + 1 + 1, 0, none⟩) 1 1) := (blk_cell hbx1 2).trans rfl
 obtain ⟨A1, c1, rfl⟩ := Kd.R_slice hr1
 have HR1 := Aside0.mk hr1
 have HW1 := Aside0.mk hb1
 clear hr1 hb1 hbx1 HS
 go_wp2_with fail
 refine (HB.out _ (Kd.C_below (Kd.C_alloc HC0.out _) HW1.out) (Kd.C_below (Kd.C_alloc HC2.out _) HW1.out)).mono ?_
 rintro e w2 ⟨v2, rfl, hr2, hb2⟩
 obtain ⟨A2, c2, rfl⟩ := Kd.R_slice hr2
 have HR2 := Aside0.mk hr2
 have HW2 := Aside0.mk hb2
 clear hr2 hb2 x0 x1 x2 HB
 go_wp2_with fail
 refine (trustquorummake_Ints.calls 10 A1 c1 [3, 5, 6, 9, 10] _ 5 [3, 5, 6, 9, 10] true _ (Kd.C_alloc (Kd.C_below (Kd.R_reads' HR1.out).2.2 HW2.out) _) (Kd.R_reads' HR1.out).2.1 (YtfkpimjiaijmgaaV.C_lit w2 [3, 5, 6, 9, 10] _ 3 rfl (by simp)) (Nat.le_refl 5) (by decide +kernel)).mono ?_
 rintro e w3 ⟨rfl, nd, rfl⟩
 go_wp2_with fail
 refine (trustquorummake_Ints.calls 10 A2 c2 [3, 13, 14] _ 3 [3, 13, 14] true _ (Kd.C_alloc (Kd.C_drewN (Kd.C_alloc (Kd.R_reads' HR2.out).2.2 _) _) _) (Kd.R_reads' HR2.out).2.1 ?hC (Nat.le_refl 3) (by decide +kernel)).mono ?_
 case hC =>
  have h := YtfkpimjiaijmgaaV.C_lit ((w2.alloc (Obj.cells #[Value.int IntKind.i64 3, Value.int IntKind.i64 5, Value.int IntKind.i64 6, Value.int IntKind.i64 9, Value.int IntKind.i64 10] 3)).drewN nd) [3, 13, 14] _ 3 rfl (by simp)
  have e : ((w2.alloc (Obj.cells #[Value.int IntKind.i64 3, Value.int IntKind.i64 5, Value.int IntKind.i64 6, Value.int IntKind.i64 9, Value.int IntKind.i64 10] 3)).drewN nd).heap.size = w2.heap.size + 1 := World.size_alloc _ _
  rw [e] at h
  exact h
 rintro e w3 ⟨rfl, nd, rfl⟩
 go_wp2_with fail
 go_ret
 have h2 : Below w.heap.size w w2 := HB1.out.trans ((below_alloc (Below.refl W.heap.size W) _).trans ((HW1.out.trans (HW2.out.mono HW1.out.size)).mono (by simp)) |>.mono HB1.out.size)
 exact ⟨rfl, pw_below_drewN (below_alloc (pw_below_drewN (below_alloc h2 _) _) _) _⟩
end
def trustquorumlaw05_awake.f : Option Bool := some true
theorem trustquorumlaw05_awake.calls (r : Bool) (w : World) (h : trustquorumlaw05_awake.f = some r) :
 Calls Try.prog 13 #[] w fun e w' => e = .returned (.bool r) ∧ Below w.heap.size w w' := by
 obtain rfl := Option.some.inj h
 exact awake_walk w
end Go.Proofs.Ytfkpimjiaijmgaa.G
end
section
namespace Go.Proofs.YtfkpimjiaijmgaaV
open Go Go.RowKit
section
variable {x : Int}
end
theorem ins_eq {α : Type} (out : List α) (k : Nat) (x z : α) (h : k ≤ out.length) : (((out ++ [z]).take (k + 1) ++ ((out ++ [z]).drop k).take ((out ++ [z]).length - (k + 1))).set k x) = out.take k ++ x :: out.drop k := by
 have h1 : ((out ++ [z]).drop k).take ((out ++ [z]).length - (k + 1)) = out.drop k := by
  rw [List.drop_append_of_le_length h, List.take_append_of_le_length (by simp), List.take_of_length_le (by simp)]
 rw [h1]
 have h2 : ∃ y, (out ++ [z]).take (k + 1) = out.take k ++ [y] := by
  refine ⟨(out ++ [z])[k]'(by simp; omega), ?_⟩
  rw [← List.take_append_getElem (l := out ++ [z]) (i := k) (by simp; omega), List.take_append_of_le_length h]
 obtain ⟨y, h2⟩ := h2
 have hl : (out.take k).length = k := by rw [List.length_take]; omega
 rw [h2, List.append_assoc, List.set_append_right _ _ (by omega), hl, Nat.sub_self]
 rfl
theorem ins_end {α : Type} (out : List α) (k : Nat) (x z : α) (h : ¬ k < out.length) (h2 : k ≤ out.length) : (out ++ [z]).set k x = out.take k ++ x :: out.drop k := by
 obtain rfl : k = out.length := by omega
 rw [List.set_append_right _ _ (by omega), Nat.sub_self, List.take_length, List.drop_length]; rfl
end Go.Proofs.YtfkpimjiaijmgaaV
end
section
namespace Go.Proofs.YtfkpimjiaijmgaaV
open Go Go.RowKit Go.Sort Go.Lib Go.Proofs Go.Proofs.YtfkpimjiaijmgaaW.PrintWords
theorem shift_facts (k n cap : Nat) (hk : k ≤ n) (hc : n + 1 ≤ cap) (hn : n ≤ 17592186044416) : wrap64 ((k : Int) + 1) = (k : Int) + 1 ∧ IntKind.i64.wrap ((k : Int) + 1) = (k : Int) + 1 ∧ (0 : Int) ≤ (k : Int) + 1 ∧ ((k : Int) + 1).toNat = k + 1 ∧ ¬ cap = k ∧ (k : Int) + 1 ≤ (n : Int) + 1 ∧ (k : Int) ≤ (n : Int) + 1 ∧ (0 : Int) ≤ (k : Int) ∧ (k : Int) < (n : Int) + 1 ∧ k + 1 ≤ n + 1 ∧ (k < n → ¬ cap = k + 1) := by
 refine ⟨?_, ?_, ?_, ?_, ?_, ?_, ?_, ?_, ?_, ?_, ?_⟩
 ·unfold wrap64; omega
 ·rw [IntKind.wrap_i64]; omega
 all_goals omega
end Go.Proofs.YtfkpimjiaijmgaaV
end
section
namespace Go.Proofs.Ytfkpimjiaijmgaa.G
open Go.RowKit Go.Proofs.YtfkpimjiaijmgaaW.PrintWords Go.Proofs.YtfkpimjiaijmgaaW.PrintLast Go.Proofs.YtfkpimjiaijmgaaW.PrintMore
attribute [local go_sem] max2_int min2_int max_two min_two max_three min_three max_four min_four   -- for this text's walks alone
set_option linter.unusedVariables false
set_option linter.unusedSimpArgs false
def trustquorumref04_has.l0 : Nat → Int → List Int → Int → Int → Option (Bool)
 | 0, _, _, _, _ => none
 | k + 1, x1, x7, x8, x9 => if x9 < x8 then (if 0 ≤ x9 then (if x9 < (x7.length : Int) then (if (rd x7 x9) = x1 then (some true) else (trustquorumref04_has.l0 k x1 x7 x8 (wrap64 (x9 + 1)))) else (none)) else (none)) else (some false)
def trustquorumref04_has.f (k : Nat) (l0 : List Int) (a1 : Int) : Option (Bool) := trustquorumref04_has.l0 k a1 l0 (l0.length : Int) 0
set_option maxHeartbeats 8000000 in
set_option maxRecDepth 100000 in
theorem trustquorumref04_has.calls (k : Nat) (A0 : Option Addr) (c0 : Nat) (l0 : List Int) (a1 : Int) (r : Bool) (w : World) (hr0 : Kd.C (Kd.int .i64) w A0 l0.length l0) (hc0 : l0.length ≤ c0) (h : trustquorumref04_has.f k l0 a1 = some r) :
 Calls Try.prog 49 #[.slice A0 l0.length c0, .int .i64 a1] w fun e w' => e = .returned (.bool r) ∧ Drawn0 w w' := by
 have HR0 := Aside0.mk hr0
 have HC0 := Aside0.mk hc0
 clear hr0 hc0
 have H : (trustquorumref04_has.l0 k a1 l0 (l0.length : Int) 0) = some r := h
 clear h
 have H' := Aside0.mk H
 clear H
 go_enter Try.func49, Try.ntmps49
 go_wp2
 go_loopg [9] k (fun kq v9 w' => ∃ (x9_1 : Int), v9 = .int .i64 x9_1 ∧ Aside0 (trustquorumref04_has.l0 kq a1 l0 (l0.length : Int) x9_1 = some r) ∧ Aside0 (kq ≤ k) ∧ Drawn0 w w')
 case atStart => exact ⟨(0), (by first | rfl | (simp; done) | (simp [*]; done)), H', ⟨Nat.le_refl _⟩, by repeat (first | exact Drawn0.refl _ | apply Drawn0.step)⟩
 case round =>
  clear H'
  try clear p2
  obtain ⟨x9_1, rfl, HA, HK1, ⟨m1, rfl⟩⟩ := hrel
  cases gk with
  | zero => exact absurd HA.out (by simp [trustquorumref04_has.l0])
  | succ k1 =>
   have H := HA.out
   clear HA
   simp only [trustquorumref04_has.l0] at H
   by_cases c3 : x9_1 < (l0.length : Int)
   ·rw [if_pos c3] at H
    have c3b0 : decide (x9_1 < (l0.length : Int)) = true := decide_eq_true c3
    clear c3
    by_cases c4 : 0 ≤ x9_1
    ·rw [if_pos c4] at H
     have c4b0 : decide (0 ≤ x9_1) = true := decide_eq_true c4
     clear c4
     by_cases c5 : x9_1 < (l0.length : Int)
     ·rw [if_pos c5] at H
      have c5b0 : decide (x9_1 < (l0.length : Int)) = true := decide_eq_true c5
      clear c5
      by_cases c6 : (rd l0 x9_1) = a1
      ·rw [if_pos c6] at H
       have c6b0 : ((rd l0 x9_1) == a1) = true := beq_iff_eq.mpr c6
       have c6b1 : ((rd l0 x9_1) != a1) = false := bne_eq_false_iff_eq.mpr c6
       clear c6
       obtain rfl := Option.some.inj H
       have p334 : 0 ≤ (x9_1 : Int) := of_decide_eq_true (by first | (with_reducible assumption) | assumption)
       have q334 : x9_1 < (l0.length : Int) := of_decide_eq_true (by first | (with_reducible assumption) | assumption)
       obtain ⟨ad334, e334, hx334_0⟩ := Kd.at_int HR0.out x9_1 p334 q334
       cases e334
       replace p334 := eq_true p334
       replace q334 := eq_true q334
       go_wp2
       go_ret
       exact ⟨by first | rfl | (simp; done) | (simp [*]; done), by repeat (first | exact Drawn0.refl _ | apply Drawn0.step)⟩
      ·rw [if_neg c6] at H
       have c6b0 : ((rd l0 x9_1) == a1) = false := beq_eq_false_iff_ne.mpr c6
       have c6b1 : ((rd l0 x9_1) != a1) = true := bne_iff_ne.mpr c6
       have H' := Aside0.mk H
       clear H
       have p334 : 0 ≤ (x9_1 : Int) := of_decide_eq_true (by first | (with_reducible assumption) | assumption)
       have q334 : x9_1 < (l0.length : Int) := of_decide_eq_true (by first | (with_reducible assumption) | assumption)
       obtain ⟨ad334, e334, hx334_0⟩ := Kd.at_int HR0.out x9_1 p334 q334
       cases e334
       replace p334 := eq_true p334
       replace q334 := eq_true q334
       go_wp2
       go_roundg k1
       case measure => have := HK1.out; omega
       case rel => exact ⟨(wrap64 (x9_1 + 1)), (by first | rfl | (simp; done) | (simp [*]; done)), H', ⟨by have := HK1.out; omega⟩, by repeat (first | exact Drawn0.refl _ | apply Drawn0.step)⟩
     ·rw [if_neg c5] at H
      exact absurd H (by simp)
    ·rw [if_neg c4] at H
     exact absurd H (by simp)
   ·rw [if_neg c3] at H
    have c3b0 : decide (x9_1 < (l0.length : Int)) = false := decide_eq_false c3
    clear c3
    obtain rfl := Option.some.inj H
    go_wp2
    go_ret
    exact ⟨by first | rfl | (simp; done) | (simp [*]; done), by repeat (first | exact Drawn0.refl _ | apply Drawn0.step)⟩
def trustquorumref04_count.f (a0_0 : Int) (l0_1 : List Int) (l0_2 : List (S27)) : Option (Int) := some (wrap64 ((l0_1.length : Int) + (l0_2.length : Int)))
set_option maxHeartbeats 8000000 in
set_option maxRecDepth 100000 in
theorem trustquorumref04_count.calls (a0_0 : Int) (A0_1 : Option Addr) (c0_1 : Nat) (l0_1 : List Int) (A0_2 : Option Addr) (c0_2 : Nat) (l0_2 : List (S27)) (r : Int) (w : World) (hr0_1 : Kd.C (Kd.int .i64) w A0_1 l0_1.length l0_1) (hc0_1 : l0_1.length ≤ c0_1) (hr0_2 : Kd.C k27 w A0_2 l0_2.length l0_2) (hc0_2 : l0_2.length ≤ c0_2) (h : trustquorumref04_count.f a0_0 l0_1 l0_2 = some r) :
 Calls Try.prog 51 #[.agg #[.int .i64 a0_0, .slice A0_1 l0_1.length c0_1, .slice A0_2 l0_2.length c0_2]] w fun e w' => e = .returned (.int .i64 r) ∧ Below w.heap.size w w' := by
 have hu27 := Try.underlying27
 have HR0_1 := Aside0.mk hr0_1
 have HC0_1 := Aside0.mk hc0_1
 clear hr0_1 hc0_1
 have HR0_2 := Aside0.mk hr0_2
 have HC0_2 := Aside0.mk hc0_2
 clear hr0_2 hc0_2
 have HB := Aside0.mk (Below.refl w.heap.size w)
 have H : (some (wrap64 ((l0_1.length : Int) + (l0_2.length : Int)))) = some r := h
 clear h
 obtain rfl := Option.some.inj H
 go_enter Try.func51, Try.ntmps51
 go_wp2_with (first | ((with_reducible refine gate_dst (N := 1) rfl ?_); refine box_event ?hg (N := 1) ?hd (cs := #[.int .i64 a0_0, .slice A0_1 l0_1.length c0_1, .slice A0_2 l0_2.length c0_2]) (t := 27) ?hr ?_; (case hd => rfl); (case hg => rfl); (case hr => first | (go_simp; done) | (go_simp; rfl)); intro gb335 hg w2 hbox hb; have BK335 := Aside0.mk (hbox); have GW335 := Aside0.mk ((by rw [hg]; exact (below_size (bB HB)) : w.heap.size ≤ gb335)); have GE335 := Aside0.mk ((by rw [hg]; exact (below_size (bB HB)) : w.heap.size ≤ gb335)); replace HB := bs HB hb; clear hb hbox hg; have hcz3_0 := bC0 BK335; have hcz3_1 := bC1 BK335; have hcz3_2 := bC2 BK335; have hfz3_0 := blk_frozen BK335.out 0; have hfz3_1 := blk_frozen BK335.out 1; have hfz3_2 := blk_frozen BK335.out 2))
 go_ret
 exact ⟨by first | rfl | (simp [errW_none, errW_some] <;> rfl) | (simp [*, errW_none, errW_some] <;> rfl), bB HB⟩
def trustquorumref04_sign.f (a0 : Int) (a1 : Int) : Option (Int) := if a0 < a1 then (some (-1)) else (if a0 > a1 then (some 1) else (some 0))
set_option maxHeartbeats 8000000 in
set_option maxRecDepth 100000 in
theorem trustquorumref04_sign.calls (a0 : Int) (a1 : Int) (r : Int) (w : World) (h : trustquorumref04_sign.f a0 a1 = some r) :
 Calls Try.prog 76 #[.int .i64 a0, .int .i64 a1] w fun e w' => e = .returned (.int .i64 r) ∧ Drawn0 w w' := by
 have H : (if a0 < a1 then (some (-1)) else (if a0 > a1 then (some 1) else (some 0))) = some r := h
 clear h
 by_cases c3 : a0 < a1
 ·rw [if_pos c3] at H
  have c3b0 : decide (a0 < a1) = true := decide_eq_true c3
  clear c3
  obtain rfl := Option.some.inj H
  go_enter Try.func76, Try.ntmps76
  go_wp2
  go_ret
  exact ⟨by first | rfl | (simp; done) | (simp [*]; done), by repeat (first | exact Drawn0.refl _ | apply Drawn0.step)⟩
 ·rw [if_neg c3] at H
  have c3b0 : decide (a0 < a1) = false := decide_eq_false c3
  clear c3
  by_cases c4 : a0 > a1
  ·rw [if_pos c4] at H
   have c4b0 : decide (a1 < a0) = true := decide_eq_true c4
   clear c4
   obtain rfl := Option.some.inj H
   go_enter Try.func76, Try.ntmps76
   go_wp2
   go_ret
   exact ⟨by first | rfl | (simp; done) | (simp [*]; done), by repeat (first | exact Drawn0.refl _ | apply Drawn0.step)⟩
  ·rw [if_neg c4] at H
   have c4b0 : decide (a1 < a0) = false := decide_eq_false c4
   clear c4
   obtain rfl := Option.some.inj H
   go_enter Try.func76, Try.ntmps76
   go_wp2
   go_ret
   exact ⟨by first | rfl | (simp; done) | (simp [*]; done), by repeat (first | exact Drawn0.refl _ | apply Drawn0.step)⟩
end Go.Proofs.Ytfkpimjiaijmgaa.G
end
