/-
  contracts of library functions at this program, as the tools of the kit (lay-shelf.mjs, lay-plain.mjs) lay them
  sweep.Pairs: its order of pairs
  sweep.Pairs
  sweep.First
  sweep.Gaps: its closures
  sweep.Gaps
-/
import Derived.Ground.SlsfProg
import Derived.Shelf.SlSortCmp.InsertionK
import Derived.Shelf.SlSortCmp.SiftDownK
import Derived.Shelf.SlSortCmp.HeapSortK
import Derived.Shelf.SlSortCmp.MedianK
import Derived.Shelf.SlSortCmp.PivotK
import Derived.Shelf.SlSortCmp.ReverseRangeK
import Derived.Shelf.SlSortCmp.PartialInsertionK
import Derived.Shelf.SlSortCmp.PartitionEqualK
import Derived.Shelf.SlSortCmp.PartitionK
import Derived.Shelf.SlSortCmp.PdqK
import Derived.Shelf.SlSortCmp.WholeK
import Derived.Shelf.SlSortCmp.NoneTotal
import Derived.Test.YtmoignbaphddeaaChecked
import Derived.Test.YtmoignbaphddeaaB4Law15A
import Derived.Deep.DrawnRows
import Derived.Laws.EntriesVeiled
set_option linter.unusedVariables false
namespace Go.Proofs
open Go.Shelf
def Try.laysSlF020_f75_ren : Go.Shelf.Ren := ⟨fun | 20 => 75 | n => n, fun | 24 => 105 | 22 => 103 | 3 => 3 | 25 => 124 | 4 => 4 | 0 => 0 | n => n, fun | n => n⟩
theorem Try.laysSlF020_f75 : Go.Proofs.SlLaysF0.n20 Try.prog Try.laysSlF020_f75_ren := {
  mixed := by kernel_rfl
  f20 := ⟨Try.f75.name, by decide, Try.func75.trans (congrArg some (by kernel_rfl))⟩
  t0 := Try.underlying0
  a0 := Try.isAgg0
  z0 := Try.sizeOf0
  v0 := Try.zeroValue0
  t3 := Try.underlying3
  a3 := Try.isAgg3
  z3 := Try.sizeOf3
  v3 := Try.zeroValue3
  t4 := Try.underlying4
  a4 := Try.isAgg4
  z4 := Try.sizeOf4
  v4 := Try.zeroValue4
  t22 := Try.underlying103
  a22 := Try.isAgg103
  z22 := Try.sizeOf103
  v22 := Try.zeroValue103
  t25 := Try.underlying124
  a25 := Try.isAgg124
  z25 := Try.sizeOf124
  v25 := Try.zeroValue124 }
open Go.RowKit Go.Lib Go.Sort in
theorem Try.insertionSortCmpFunc {α : Type} [Inhabited α] (k : Nat) (aE : ∀ w, (isAgg 105).run Try.prog w = .ok true w) (zE : ∀ w, (Go.sizeOf 105).run Try.prog w = .ok k w) (enc : α → List Value) (hk : ∀ x, (enc x).length = k) (h1 : ∀ x, ∀ v ∈ enc x, v.oneCell' = true) (cf : α → α → Int) (g : Nat) (cb : Array Value) (blk off cap a b : Nat) (d : Array α) (w : World) (eg : ∀ args w, (callFunc g args).run Try.prog w = .ok (.enter g args) w) (hcmp : CmpLays Try.prog g cb enc k cf blk off d.size w) (hH : HoldsK enc k w blk off d) (hblk : blk < w.heap.size) (hab : a ≤ b) (hb : b ≤ d.size) (hsz : d.size < 4611686018427387904) :
    Calls Try.prog 75 #[.slice (some ⟨blk, off, none⟩) d.size cap, .int .i64 a, .int .i64 b, .func (.func g) #[] cb] w fun e w' =>
      e = .returned (.tuple #[]) ∧ ∃ n os, w' = sortWorldK enc k w blk off n (Sort.insertionSort (ltOf cf) d a b) os := AnyQ.insertionSortCmpFunc Try.laysSlF020_f75 k aE zE enc hk h1 cf g cb blk off cap a b d w eg hcmp hH hblk hab hb hsz
def Try.laysSlF046_f85_ren : Go.Shelf.Ren := ⟨fun | 46 => 85 | n => n, fun | 24 => 105 | 22 => 103 | 3 => 3 | 25 => 124 | 4 => 4 | 0 => 0 | n => n, fun | n => n⟩
theorem Try.laysSlF046_f85 : Go.Proofs.SlLaysF0.n46 Try.prog Try.laysSlF046_f85_ren := {
  mixed := by kernel_rfl
  f46 := ⟨Try.f85.name, by decide, Try.func85.trans (congrArg some (by kernel_rfl))⟩
  t0 := Try.underlying0
  a0 := Try.isAgg0
  z0 := Try.sizeOf0
  v0 := Try.zeroValue0
  t3 := Try.underlying3
  a3 := Try.isAgg3
  z3 := Try.sizeOf3
  v3 := Try.zeroValue3
  t4 := Try.underlying4
  a4 := Try.isAgg4
  z4 := Try.sizeOf4
  v4 := Try.zeroValue4
  t22 := Try.underlying103
  a22 := Try.isAgg103
  z22 := Try.sizeOf103
  v22 := Try.zeroValue103
  t25 := Try.underlying124
  a25 := Try.isAgg124
  z25 := Try.sizeOf124
  v25 := Try.zeroValue124 }
open Go.RowKit Go.Lib Go.Sort in
theorem Try.siftDownCmpFunc {α : Type} [Inhabited α] (k : Nat) (aE : ∀ w, (isAgg 105).run Try.prog w = .ok true w) (zE : ∀ w, (Go.sizeOf 105).run Try.prog w = .ok k w) (enc : α → List Value) (cf : α → α → Int) (g : Nat) (cb : Array Value) (blk off cap lo hi first : Nat) (d0 d : Array α) (w0 w : World) (eg : ∀ args w, (callFunc g args).run Try.prog w = .ok (.enter g args) w) (hcmp : CmpLays Try.prog g cb enc k cf blk off d0.size w0) (R : RowK enc k w0 blk off d0) (hs : d0.size = d.size) (S : SWK enc k w0 blk off d w) (hlo : lo ≤ hi) (hb : first + hi ≤ d.size) (hsz : d.size < 4611686018427387904) :
    Calls Try.prog 85 #[.slice (some ⟨blk, off, none⟩) d.size cap, .int .i64 lo, .int .i64 hi, .int .i64 first, .func (.func g) #[] cb] w fun e w' =>
      e = .returned (.tuple #[]) ∧ SWK enc k w0 blk off (siftDown (ltOf cf) hi first lo d) w' := AnyQ.siftDownCmpFunc Try.laysSlF046_f85 k aE zE enc cf g cb blk off cap lo hi first d0 d w0 w eg hcmp R hs S hlo hb hsz
def Try.laysSlF021_f76_ren : Go.Shelf.Ren := ⟨fun | 21 => 76 | 46 => 85 | n => n, fun | 24 => 105 | 22 => 103 | 3 => 3 | 25 => 124 | 4 => 4 | 0 => 0 | n => n, fun | n => n⟩
theorem Try.laysSlF021_f76 : Go.Proofs.SlLaysF0.n21 Try.prog Try.laysSlF021_f76_ren := {
  mixed := by kernel_rfl
  f21 := ⟨Try.f76.name, by decide, Try.func76.trans (congrArg some (by kernel_rfl))⟩
  f46 := ⟨Try.f85.name, by decide, Try.func85.trans (congrArg some (by kernel_rfl))⟩
  t0 := Try.underlying0
  a0 := Try.isAgg0
  z0 := Try.sizeOf0
  v0 := Try.zeroValue0
  t3 := Try.underlying3
  a3 := Try.isAgg3
  z3 := Try.sizeOf3
  v3 := Try.zeroValue3
  t4 := Try.underlying4
  a4 := Try.isAgg4
  z4 := Try.sizeOf4
  v4 := Try.zeroValue4
  t22 := Try.underlying103
  a22 := Try.isAgg103
  z22 := Try.sizeOf103
  v22 := Try.zeroValue103
  t25 := Try.underlying124
  a25 := Try.isAgg124
  z25 := Try.sizeOf124
  v25 := Try.zeroValue124 }
open Go.RowKit Go.Lib Go.Sort in
theorem Try.heapSortCmpFunc {α : Type} [Inhabited α] (k : Nat) (aE : ∀ w, (isAgg 105).run Try.prog w = .ok true w) (zE : ∀ w, (Go.sizeOf 105).run Try.prog w = .ok k w) (enc : α → List Value) (cf : α → α → Int) (g : Nat) (cb : Array Value) (blk off cap a b : Nat) (d0 d : Array α) (w0 w : World) (eg : ∀ args w, (callFunc g args).run Try.prog w = .ok (.enter g args) w) (hcmp : CmpLays Try.prog g cb enc k cf blk off d0.size w0) (R : RowK enc k w0 blk off d0) (hs : d0.size = d.size) (S : SWK enc k w0 blk off d w) (hab : a ≤ b) (hb : b ≤ d.size) (hsz : d.size < 4611686018427387904) :
    Calls Try.prog 76 #[.slice (some ⟨blk, off, none⟩) d.size cap, .int .i64 a, .int .i64 b, .func (.func g) #[] cb] w fun e w' =>
      e = .returned (.tuple #[]) ∧ SWK enc k w0 blk off (heapSort (ltOf cf) d a b) w' := AnyQ.heapSortCmpFunc Try.laysSlF021_f76 k aE zE enc cf g cb blk off cap a b d0 d w0 w eg hcmp R hs S hab hb hsz
def Try.laysSlF057_f90_ren : Go.Shelf.Ren := ⟨fun | 57 => 90 | n => n, fun | 24 => 105 | 22 => 103 | 3 => 3 | 70 => 160 | 25 => 124 | 0 => 0 | 4 => 4 | n => n, fun | n => n⟩
theorem Try.laysSlF057_f90 : Go.Proofs.SlLaysF0.n57 Try.prog Try.laysSlF057_f90_ren := {
  mixed := by kernel_rfl
  f57 := ⟨Try.f90.name, by decide, Try.func90.trans (congrArg some (by kernel_rfl))⟩
  t0 := Try.underlying0
  a0 := Try.isAgg0
  z0 := Try.sizeOf0
  v0 := Try.zeroValue0
  t3 := Try.underlying3
  a3 := Try.isAgg3
  z3 := Try.sizeOf3
  v3 := Try.zeroValue3
  t4 := Try.underlying4
  a4 := Try.isAgg4
  z4 := Try.sizeOf4
  v4 := Try.zeroValue4
  t22 := Try.underlying103
  a22 := Try.isAgg103
  z22 := Try.sizeOf103
  v22 := Try.zeroValue103
  t25 := Try.underlying124
  a25 := Try.isAgg124
  z25 := Try.sizeOf124
  v25 := Try.zeroValue124
  t70 := Try.underlying160
  a70 := Try.isAgg160
  z70 := Try.sizeOf160
  v70 := Try.zeroValue160 }
open Go.RowKit Go.Lib Go.Sort in
theorem Try.order2CmpFunc {α : Type} [Inhabited α] (k : Nat) (aE : ∀ w, (isAgg 105).run Try.prog w = .ok true w) (zE : ∀ w, (Go.sizeOf 105).run Try.prog w = .ok k w) (enc : α → List Value) (cf : α → α → Int) (g : Nat) (cb : Array Value) (blk off cap a b c s : Nat) (d0 d : Array α) (w0 W : World) (eg : ∀ args w, (callFunc g args).run Try.prog w = .ok (.enter g args) w) (hcmp : CmpLays Try.prog g cb enc k cf blk off d0.size w0) (R : RowK enc k w0 blk off d0) (hs : d0.size = d.size) (C : CntK enc k w0 blk off d c s W) (ha : a < d.size) (hb : b < d.size) (hsz : d.size < 4611686018427387904) (hss : s < 4611686018427387904) :
    Calls Try.prog 90 #[.slice (some ⟨blk, off, none⟩) d.size cap, .int .i64 a, .int .i64 b, .pointer (some ⟨c, 0, none⟩), .func (.func g) #[] cb] W fun e w' =>
      e = .returned (.tuple #[.int .i64 (order2 (ltOf cf) d a b s).1, .int .i64 (order2 (ltOf cf) d a b s).2.1]) ∧ CntK enc k w0 blk off d c (order2 (ltOf cf) d a b s).2.2 w' := AnyQ.order2CmpFunc Try.laysSlF057_f90 k aE zE enc cf g cb blk off cap a b c s d0 d w0 W eg hcmp R hs C ha hb hsz hss
def Try.laysSlF050_f89_ren : Go.Shelf.Ren := ⟨fun | 50 => 89 | 57 => 90 | n => n, fun | 24 => 105 | 22 => 103 | 3 => 3 | 70 => 160 | 25 => 124 | 77 => 66 | 0 => 0 | 4 => 4 | n => n, fun | n => n⟩
theorem Try.laysSlF050_f89 : Go.Proofs.SlLaysF0.n50 Try.prog Try.laysSlF050_f89_ren := {
  mixed := by kernel_rfl
  f50 := ⟨Try.f89.name, by decide, Try.func89.trans (congrArg some (by kernel_rfl))⟩
  f57 := ⟨Try.f90.name, by decide, Try.func90.trans (congrArg some (by kernel_rfl))⟩
  t0 := Try.underlying0
  a0 := Try.isAgg0
  z0 := Try.sizeOf0
  v0 := Try.zeroValue0
  t3 := Try.underlying3
  a3 := Try.isAgg3
  z3 := Try.sizeOf3
  v3 := Try.zeroValue3
  t4 := Try.underlying4
  a4 := Try.isAgg4
  z4 := Try.sizeOf4
  v4 := Try.zeroValue4
  t22 := Try.underlying103
  a22 := Try.isAgg103
  z22 := Try.sizeOf103
  v22 := Try.zeroValue103
  t25 := Try.underlying124
  a25 := Try.isAgg124
  z25 := Try.sizeOf124
  v25 := Try.zeroValue124
  t70 := Try.underlying160
  a70 := Try.isAgg160
  z70 := Try.sizeOf160
  v70 := Try.zeroValue160
  t77 := Try.underlying66
  a77 := Try.isAgg66
  z77 := Try.sizeOf66
  v77 := Try.zeroValue66 }
open Go.RowKit Go.Lib Go.Sort in
theorem Try.medianCmpFunc {α : Type} [Inhabited α] (k : Nat) (aE : ∀ w, (isAgg 105).run Try.prog w = .ok true w) (zE : ∀ w, (Go.sizeOf 105).run Try.prog w = .ok k w) (enc : α → List Value) (cf : α → α → Int) (g : Nat) (cb : Array Value) (blk off cap a b c' c s : Nat) (d0 d : Array α) (w0 W : World) (eg : ∀ args w, (callFunc g args).run Try.prog w = .ok (.enter g args) w) (hcmp : CmpLays Try.prog g cb enc k cf blk off d0.size w0) (R : RowK enc k w0 blk off d0) (hs : d0.size = d.size) (C : CntK enc k w0 blk off d c s W) (ha : a < d.size) (hb : b < d.size) (hc : c' < d.size) (hsz : d.size < 4611686018427387904) (hss : s + 3 < 4611686018427387904) :
    Calls Try.prog 89 #[.slice (some ⟨blk, off, none⟩) d.size cap, .int .i64 a, .int .i64 b, .int .i64 c', .pointer (some ⟨c, 0, none⟩), .func (.func g) #[] cb] W fun e w' =>
      e = .returned (.int .i64 (median (ltOf cf) d a b c' s).1) ∧ CntK enc k w0 blk off d c (median (ltOf cf) d a b c' s).2 w' := AnyQ.medianCmpFunc Try.laysSlF050_f89 k aE zE enc cf g cb blk off cap a b c' c s d0 d w0 W eg hcmp R hs C ha hb hc hsz hss
def Try.laysSlF049_f88_ren : Go.Shelf.Ren := ⟨fun | 49 => 88 | 50 => 89 | 57 => 90 | n => n, fun | 24 => 105 | 22 => 103 | 3 => 3 | 70 => 160 | 25 => 124 | 77 => 66 | 0 => 0 | 4 => 4 | n => n, fun | n => n⟩
theorem Try.laysSlF049_f88 : Go.Proofs.SlLaysF0.n49 Try.prog Try.laysSlF049_f88_ren := {
  mixed := by kernel_rfl
  f49 := ⟨Try.f88.name, by decide, Try.func88.trans (congrArg some (by kernel_rfl))⟩
  f50 := ⟨Try.f89.name, by decide, Try.func89.trans (congrArg some (by kernel_rfl))⟩
  f57 := ⟨Try.f90.name, by decide, Try.func90.trans (congrArg some (by kernel_rfl))⟩
  t0 := Try.underlying0
  a0 := Try.isAgg0
  z0 := Try.sizeOf0
  v0 := Try.zeroValue0
  t3 := Try.underlying3
  a3 := Try.isAgg3
  z3 := Try.sizeOf3
  v3 := Try.zeroValue3
  t4 := Try.underlying4
  a4 := Try.isAgg4
  z4 := Try.sizeOf4
  v4 := Try.zeroValue4
  t22 := Try.underlying103
  a22 := Try.isAgg103
  z22 := Try.sizeOf103
  v22 := Try.zeroValue103
  t25 := Try.underlying124
  a25 := Try.isAgg124
  z25 := Try.sizeOf124
  v25 := Try.zeroValue124
  t70 := Try.underlying160
  a70 := Try.isAgg160
  z70 := Try.sizeOf160
  v70 := Try.zeroValue160
  t77 := Try.underlying66
  a77 := Try.isAgg66
  z77 := Try.sizeOf66
  v77 := Try.zeroValue66 }
open Go.RowKit Go.Lib Go.Sort in
theorem Try.medianAdjacentCmpFunc {α : Type} [Inhabited α] (k : Nat) (aE : ∀ w, (isAgg 105).run Try.prog w = .ok true w) (zE : ∀ w, (Go.sizeOf 105).run Try.prog w = .ok k w) (enc : α → List Value) (cf : α → α → Int) (g : Nat) (cb : Array Value) (blk off cap a c s : Nat) (d0 d : Array α) (w0 W : World) (eg : ∀ args w, (callFunc g args).run Try.prog w = .ok (.enter g args) w) (hcmp : CmpLays Try.prog g cb enc k cf blk off d0.size w0) (R : RowK enc k w0 blk off d0) (hs : d0.size = d.size) (C : CntK enc k w0 blk off d c s W) (ha1 : 1 ≤ a) (ha2 : a + 1 < d.size) (hsz : d.size < 4611686018427387904) (hss : s + 3 < 4611686018427387904) :
    Calls Try.prog 88 #[.slice (some ⟨blk, off, none⟩) d.size cap, .int .i64 a, .pointer (some ⟨c, 0, none⟩), .func (.func g) #[] cb] W fun e w' =>
      e = .returned (.int .i64 (medianAdjacent (ltOf cf) d a s).1) ∧ CntK enc k w0 blk off d c (medianAdjacent (ltOf cf) d a s).2 w' := AnyQ.medianAdjacentCmpFunc Try.laysSlF049_f88 k aE zE enc cf g cb blk off cap a c s d0 d w0 W eg hcmp R hs C ha1 ha2 hsz hss
def Try.laysSlF023_f78_ren : Go.Shelf.Ren := ⟨fun | 23 => 78 | 49 => 88 | 50 => 89 | 57 => 90 | n => n, fun | 24 => 105 | 22 => 103 | 3 => 3 | 25 => 124 | 45 => 149 | 0 => 0 | 4 => 4 | 70 => 160 | 77 => 66 | n => n, fun | n => n⟩
theorem Try.laysSlF023_f78 : Go.Proofs.SlLaysF0.n23 Try.prog Try.laysSlF023_f78_ren := {
  mixed := by kernel_rfl
  f23 := ⟨Try.f78.name, by decide, Try.func78.trans (congrArg some (by kernel_rfl))⟩
  f49 := ⟨Try.f88.name, by decide, Try.func88.trans (congrArg some (by kernel_rfl))⟩
  f50 := ⟨Try.f89.name, by decide, Try.func89.trans (congrArg some (by kernel_rfl))⟩
  f57 := ⟨Try.f90.name, by decide, Try.func90.trans (congrArg some (by kernel_rfl))⟩
  t0 := Try.underlying0
  a0 := Try.isAgg0
  z0 := Try.sizeOf0
  v0 := Try.zeroValue0
  t3 := Try.underlying3
  a3 := Try.isAgg3
  z3 := Try.sizeOf3
  v3 := Try.zeroValue3
  t4 := Try.underlying4
  a4 := Try.isAgg4
  z4 := Try.sizeOf4
  v4 := Try.zeroValue4
  t22 := Try.underlying103
  a22 := Try.isAgg103
  z22 := Try.sizeOf103
  v22 := Try.zeroValue103
  t25 := Try.underlying124
  a25 := Try.isAgg124
  z25 := Try.sizeOf124
  v25 := Try.zeroValue124
  t45 := Try.underlying149
  a45 := Try.isAgg149
  z45 := Try.sizeOf149
  v45 := Try.zeroValue149
  t70 := Try.underlying160
  a70 := Try.isAgg160
  z70 := Try.sizeOf160
  v70 := Try.zeroValue160
  t77 := Try.underlying66
  a77 := Try.isAgg66
  z77 := Try.sizeOf66
  v77 := Try.zeroValue66 }
open Go.RowKit Go.Lib Go.Sort in
theorem Try.choosePivotCmpFunc {α : Type} [Inhabited α] (k : Nat) (aE : ∀ w, (isAgg 105).run Try.prog w = .ok true w) (zE : ∀ w, (Go.sizeOf 105).run Try.prog w = .ok k w) (enc : α → List Value) (cf : α → α → Int) (g : Nat) (cb : Array Value) (blk off cap a b : Nat) (d0 d : Array α) (w0 W : World) (eg : ∀ args w, (callFunc g args).run Try.prog w = .ok (.enter g args) w) (hcmp : CmpLays Try.prog g cb enc k cf blk off d0.size w0) (R : RowK enc k w0 blk off d0) (hs : d0.size = d.size) (S : SWK enc k w0 blk off d W) (hab : a < b) (hb : b ≤ d.size) (hsz : d.size < 4611686018427387904) :
    Calls Try.prog 78 #[.slice (some ⟨blk, off, none⟩) d.size cap, .int .i64 a, .int .i64 b, .func (.func g) #[] cb] W fun e w' =>
      e = .returned (.tuple #[.int .i64 (choosePivot (ltOf cf) d a b).1, .int .i64 (hintCode (choosePivot (ltOf cf) d a b).2)]) ∧ SWK enc k w0 blk off d w' := AnyQ.choosePivotCmpFunc Try.laysSlF023_f78 k aE zE enc cf g cb blk off cap a b d0 d w0 W eg hcmp R hs S hab hb hsz
def Try.laysSlF024_f79_ren : Go.Shelf.Ren := ⟨fun | 24 => 79 | n => n, fun | 24 => 105 | 22 => 103 | 3 => 3 | 25 => 124 | 4 => 4 | 0 => 0 | n => n, fun | n => n⟩
theorem Try.laysSlF024_f79 : Go.Proofs.SlLaysF0.n24 Try.prog Try.laysSlF024_f79_ren := {
  mixed := by kernel_rfl
  f24 := ⟨Try.f79.name, by decide, Try.func79.trans (congrArg some (by kernel_rfl))⟩
  t0 := Try.underlying0
  a0 := Try.isAgg0
  z0 := Try.sizeOf0
  v0 := Try.zeroValue0
  t3 := Try.underlying3
  a3 := Try.isAgg3
  z3 := Try.sizeOf3
  v3 := Try.zeroValue3
  t4 := Try.underlying4
  a4 := Try.isAgg4
  z4 := Try.sizeOf4
  v4 := Try.zeroValue4
  t22 := Try.underlying103
  a22 := Try.isAgg103
  z22 := Try.sizeOf103
  v22 := Try.zeroValue103
  t25 := Try.underlying124
  a25 := Try.isAgg124
  z25 := Try.sizeOf124
  v25 := Try.zeroValue124 }
open Go.RowKit Go.Lib Go.Sort in
theorem Try.reverseRangeCmpFunc {α : Type} [Inhabited α] (k : Nat) (aE : ∀ w, (isAgg 105).run Try.prog w = .ok true w) (zE : ∀ w, (Go.sizeOf 105).run Try.prog w = .ok k w) (enc : α → List Value) (g : Nat) (cb : Array Value) (blk off cap a b : Nat) (d0 d : Array α) (w0 w : World) (R : RowK enc k w0 blk off d0) (hs : d0.size = d.size) (S : SWK enc k w0 blk off d w) (hab : a ≤ b) (hb : b ≤ d.size) (hsz : d.size < 4611686018427387904) :
    Calls Try.prog 79 #[.slice (some ⟨blk, off, none⟩) d.size cap, .int .i64 a, .int .i64 b, .func (.func g) #[] cb] w fun e w' => e = .returned (.tuple #[]) ∧ SWK enc k w0 blk off (reverseRange d a b) w' := AnyQ.reverseRangeCmpFunc Try.laysSlF024_f79 k aE zE enc g cb blk off cap a b d0 d w0 w R hs S hab hb hsz
def Try.laysSlF025_f80_ren : Go.Shelf.Ren := ⟨fun | 25 => 80 | n => n, fun | 24 => 105 | 22 => 103 | 3 => 3 | 25 => 124 | 4 => 4 | 0 => 0 | n => n, fun | n => n⟩
theorem Try.laysSlF025_f80 : Go.Proofs.SlLaysF0.n25 Try.prog Try.laysSlF025_f80_ren := {
  mixed := by kernel_rfl
  f25 := ⟨Try.f80.name, by decide, Try.func80.trans (congrArg some (by kernel_rfl))⟩
  t0 := Try.underlying0
  a0 := Try.isAgg0
  z0 := Try.sizeOf0
  v0 := Try.zeroValue0
  t3 := Try.underlying3
  a3 := Try.isAgg3
  z3 := Try.sizeOf3
  v3 := Try.zeroValue3
  t4 := Try.underlying4
  a4 := Try.isAgg4
  z4 := Try.sizeOf4
  v4 := Try.zeroValue4
  t22 := Try.underlying103
  a22 := Try.isAgg103
  z22 := Try.sizeOf103
  v22 := Try.zeroValue103
  t25 := Try.underlying124
  a25 := Try.isAgg124
  z25 := Try.sizeOf124
  v25 := Try.zeroValue124 }
open Go.RowKit Go.Lib Go.Sort in
theorem Try.partialInsertionSortCmpFunc {α : Type} [Inhabited α] (k : Nat) (aE : ∀ w, (isAgg 105).run Try.prog w = .ok true w) (zE : ∀ w, (Go.sizeOf 105).run Try.prog w = .ok k w) (enc : α → List Value) (cf : α → α → Int) (g : Nat) (cb : Array Value) (blk off cap a b : Nat) (d0 d : Array α) (w0 w : World) (eg : ∀ args w, (callFunc g args).run Try.prog w = .ok (.enter g args) w) (hcmp : CmpLays Try.prog g cb enc k cf blk off d0.size w0) (R : RowK enc k w0 blk off d0) (hs : d0.size = d.size) (S : SWK enc k w0 blk off d w) (hab : a < b) (hb : b ≤ d.size) (hsz : d.size < 4611686018427387904) :
    Calls Try.prog 80 #[.slice (some ⟨blk, off, none⟩) d.size cap, .int .i64 a, .int .i64 b, .func (.func g) #[] cb] w fun e w' =>
      e = .returned (.bool (Sort.partialInsertionSort (ltOf cf) d a b).2) ∧ SWK enc k w0 blk off (Sort.partialInsertionSort (ltOf cf) d a b).1 w' := AnyQ.partialInsertionSortCmpFunc Try.laysSlF025_f80 k aE zE enc cf g cb blk off cap a b d0 d w0 w eg hcmp R hs S hab hb hsz
def Try.laysSlF026_f81_ren : Go.Shelf.Ren := ⟨fun | 26 => 81 | n => n, fun | 24 => 105 | 22 => 103 | 3 => 3 | 25 => 124 | 0 => 0 | 4 => 4 | n => n, fun | n => n⟩
theorem Try.laysSlF026_f81 : Go.Proofs.SlLaysF0.n26 Try.prog Try.laysSlF026_f81_ren := {
  mixed := by kernel_rfl
  f26 := ⟨Try.f81.name, by decide, Try.func81.trans (congrArg some (by kernel_rfl))⟩
  t0 := Try.underlying0
  a0 := Try.isAgg0
  z0 := Try.sizeOf0
  v0 := Try.zeroValue0
  t3 := Try.underlying3
  a3 := Try.isAgg3
  z3 := Try.sizeOf3
  v3 := Try.zeroValue3
  t4 := Try.underlying4
  a4 := Try.isAgg4
  z4 := Try.sizeOf4
  v4 := Try.zeroValue4
  t22 := Try.underlying103
  a22 := Try.isAgg103
  z22 := Try.sizeOf103
  v22 := Try.zeroValue103
  t25 := Try.underlying124
  a25 := Try.isAgg124
  z25 := Try.sizeOf124
  v25 := Try.zeroValue124 }
open Go.RowKit Go.Lib Go.Sort in
theorem Try.partitionEqualCmpFunc {α : Type} [Inhabited α] (k : Nat) (aE : ∀ w, (isAgg 105).run Try.prog w = .ok true w) (zE : ∀ w, (Go.sizeOf 105).run Try.prog w = .ok k w) (enc : α → List Value) (cf : α → α → Int) (g : Nat) (cb : Array Value) (blk off cap a b pivot : Nat) (d0 d : Array α) (w0 w : World) (eg : ∀ args w, (callFunc g args).run Try.prog w = .ok (.enter g args) w) (hcmp : CmpLays Try.prog g cb enc k cf blk off d0.size w0) (R : RowK enc k w0 blk off d0) (hs : d0.size = d.size) (S : SWK enc k w0 blk off d w) (hap : a ≤ pivot) (hpb : pivot < b) (hb : b ≤ d.size) (hsz : d.size < 4611686018427387904) :
    Calls Try.prog 81 #[.slice (some ⟨blk, off, none⟩) d.size cap, .int .i64 a, .int .i64 b, .int .i64 pivot, .func (.func g) #[] cb] w fun e w' =>
      e = .returned (.int .i64 (Sort.partitionEqual (ltOf cf) d a b pivot).1) ∧ SWK enc k w0 blk off (Sort.partitionEqual (ltOf cf) d a b pivot).2 w' := AnyQ.partitionEqualCmpFunc Try.laysSlF026_f81 k aE zE enc cf g cb blk off cap a b pivot d0 d w0 w eg hcmp R hs S hap hpb hb hsz
def Try.laysSlF027_f82_ren : Go.Shelf.Ren := ⟨fun | 27 => 82 | n => n, fun | 24 => 105 | 22 => 103 | 3 => 3 | 25 => 124 | 4 => 4 | 0 => 0 | n => n, fun | n => n⟩
theorem Try.laysSlF027_f82 : Go.Proofs.SlLaysF0.n27 Try.prog Try.laysSlF027_f82_ren := {
  mixed := by kernel_rfl
  f27 := ⟨Try.f82.name, by decide, Try.func82.trans (congrArg some (by kernel_rfl))⟩
  t0 := Try.underlying0
  a0 := Try.isAgg0
  z0 := Try.sizeOf0
  v0 := Try.zeroValue0
  t3 := Try.underlying3
  a3 := Try.isAgg3
  z3 := Try.sizeOf3
  v3 := Try.zeroValue3
  t4 := Try.underlying4
  a4 := Try.isAgg4
  z4 := Try.sizeOf4
  v4 := Try.zeroValue4
  t22 := Try.underlying103
  a22 := Try.isAgg103
  z22 := Try.sizeOf103
  v22 := Try.zeroValue103
  t25 := Try.underlying124
  a25 := Try.isAgg124
  z25 := Try.sizeOf124
  v25 := Try.zeroValue124 }
open Go.RowKit Go.Lib Go.Sort in
theorem Try.partitionCmpFunc {α : Type} [Inhabited α] (k : Nat) (aE : ∀ w, (isAgg 105).run Try.prog w = .ok true w) (zE : ∀ w, (Go.sizeOf 105).run Try.prog w = .ok k w) (enc : α → List Value) (cf : α → α → Int) (g : Nat) (cb : Array Value) (blk off cap a b pivot : Nat) (d0 d : Array α) (w0 w : World) (eg : ∀ args w, (callFunc g args).run Try.prog w = .ok (.enter g args) w) (hcmp : CmpLays Try.prog g cb enc k cf blk off d0.size w0) (R : RowK enc k w0 blk off d0) (hs : d0.size = d.size) (S : SWK enc k w0 blk off d w) (hap : a ≤ pivot) (hpb : pivot < b) (hb : b ≤ d.size) (hsz : d.size < 4611686018427387904) :
    Calls Try.prog 82 #[.slice (some ⟨blk, off, none⟩) d.size cap, .int .i64 a, .int .i64 b, .int .i64 pivot, .func (.func g) #[] cb] w fun e w' =>
      e = .returned (.tuple #[.int .i64 (Sort.partition (ltOf cf) d a b pivot).1, .bool (Sort.partition (ltOf cf) d a b pivot).2.1]) ∧ SWK enc k w0 blk off (Sort.partition (ltOf cf) d a b pivot).2.2 w' := AnyQ.partitionCmpFunc Try.laysSlF027_f82 k aE zE enc cf g cb blk off cap a b pivot d0 d w0 w eg hcmp R hs S hap hpb hb hsz
open Go.RowKit Go.Lib Go.Sort in
theorem Try.insertionSortCmpFunc_w {α : Type} [Inhabited α] (k : Nat) (aE : ∀ w, (isAgg 105).run Try.prog w = .ok true w) (zE : ∀ w, (Go.sizeOf 105).run Try.prog w = .ok k w) (enc : α → List Value) (cf : α → α → Int) (g : Nat) (cb : Array Value) (blk off cap a b : Nat) (d0 d : Array α) (w0 w : World) (eg : ∀ args w, (callFunc g args).run Try.prog w = .ok (.enter g args) w) (hcmp : CmpLays Try.prog g cb enc k cf blk off d0.size w0) (R : RowK enc k w0 blk off d0) (hs : d0.size = d.size) (S : SWK enc k w0 blk off d w) (hO : SWO (ltOf cf)) (hab : a ≤ b) (hb : b ≤ d.size) (hsz : d.size < 4611686018427387904) :
    Calls Try.prog 75 #[.slice (some ⟨blk, off, none⟩) d.size cap, .int .i64 a, .int .i64 b, .func (.func g) #[] cb] w fun e w' => e = .returned (.tuple #[]) ∧ SWK enc k w0 blk off (Sort.insertionSort (ltOf cf) d a b) w' := AnyQ.insertionSortCmpFunc_w Try.laysSlF020_f75 k aE zE enc cf g cb blk off cap a b d0 d w0 w eg hcmp R hs S hO hab hb hsz
def Try.laysSlF014_f70_ren : Go.Shelf.Ren := ⟨fun | 14 => 70 | 20 => 75 | 21 => 76 | 22 => 77 | 23 => 78 | 24 => 79 | 25 => 80 | 26 => 81 | 27 => 82 | 46 => 85 | 47 => 86 | 48 => 87 | 49 => 88 | 50 => 89 | 15 => 71 | 57 => 90 | 28 => 83 | 29 => 84 | n => n, fun | 24 => 105 | 22 => 103 | 3 => 3 | 25 => 124 | 4 => 4 | 0 => 0 | 46 => 150 | 45 => 149 | 50 => 115 | 66 => 157 | 39 => 140 | 55 => 22 | 70 => 160 | 76 => 162 | 77 => 66 | 53 => 53 | 5 => 5 | 9 => 9 | n => n, fun | n => n⟩
theorem Try.laysSlF014_f70 : Go.Proofs.SlLaysF0.n14 Try.prog Try.laysSlF014_f70_ren := {
  mixed := by kernel_rfl
  f14 := ⟨Try.f70.name, by decide, Try.func70.trans (congrArg some (by kernel_rfl))⟩
  f15 := Try.func71.trans (congrArg some (by kernel_rfl))
  f20 := ⟨Try.f75.name, by decide, Try.func75.trans (congrArg some (by kernel_rfl))⟩
  f21 := ⟨Try.f76.name, by decide, Try.func76.trans (congrArg some (by kernel_rfl))⟩
  f22 := ⟨Try.f77.name, by decide, Try.func77.trans (congrArg some (by kernel_rfl))⟩
  f23 := ⟨Try.f78.name, by decide, Try.func78.trans (congrArg some (by kernel_rfl))⟩
  f24 := ⟨Try.f79.name, by decide, Try.func79.trans (congrArg some (by kernel_rfl))⟩
  f25 := ⟨Try.f80.name, by decide, Try.func80.trans (congrArg some (by kernel_rfl))⟩
  f26 := ⟨Try.f81.name, by decide, Try.func81.trans (congrArg some (by kernel_rfl))⟩
  f27 := ⟨Try.f82.name, by decide, Try.func82.trans (congrArg some (by kernel_rfl))⟩
  f28 := Try.func83.trans (congrArg some (by kernel_rfl))
  f29 := Try.func84.trans (congrArg some (by kernel_rfl))
  f46 := ⟨Try.f85.name, by decide, Try.func85.trans (congrArg some (by kernel_rfl))⟩
  f47 := Try.func86.trans (congrArg some (by kernel_rfl))
  f48 := Try.func87.trans (congrArg some (by kernel_rfl))
  f49 := ⟨Try.f88.name, by decide, Try.func88.trans (congrArg some (by kernel_rfl))⟩
  f50 := ⟨Try.f89.name, by decide, Try.func89.trans (congrArg some (by kernel_rfl))⟩
  f57 := ⟨Try.f90.name, by decide, Try.func90.trans (congrArg some (by kernel_rfl))⟩
  t0 := Try.underlying0
  a0 := Try.isAgg0
  z0 := Try.sizeOf0
  v0 := Try.zeroValue0
  t3 := Try.underlying3
  a3 := Try.isAgg3
  z3 := Try.sizeOf3
  v3 := Try.zeroValue3
  t4 := Try.underlying4
  a4 := Try.isAgg4
  z4 := Try.sizeOf4
  v4 := Try.zeroValue4
  t5 := Try.underlying5
  a5 := Try.isAgg5
  z5 := Try.sizeOf5
  v5 := Try.zeroValue5
  t9 := Try.underlying9
  a9 := Try.isAgg9
  z9 := Try.sizeOf9
  v9 := Try.zeroValue9
  t22 := Try.underlying103
  a22 := Try.isAgg103
  z22 := Try.sizeOf103
  v22 := Try.zeroValue103
  t25 := Try.underlying124
  a25 := Try.isAgg124
  z25 := Try.sizeOf124
  v25 := Try.zeroValue124
  t39 := Try.underlying140
  a39 := Try.isAgg140
  z39 := Try.sizeOf140
  v39 := Try.zeroValue140
  t45 := Try.underlying149
  a45 := Try.isAgg149
  z45 := Try.sizeOf149
  v45 := Try.zeroValue149
  t46 := Try.underlying150
  a46 := Try.isAgg150
  z46 := Try.sizeOf150
  v46 := Try.zeroValue150
  t50 := Try.underlying115
  a50 := Try.isAgg115
  z50 := Try.sizeOf115
  v50 := Try.zeroValue115
  t53 := Try.underlying53
  a53 := Try.isAgg53
  z53 := Try.sizeOf53
  v53 := Try.zeroValue53
  t55 := Try.underlying22
  a55 := Try.isAgg22
  z55 := Try.sizeOf22
  v55 := Try.zeroValue22
  t66 := Try.underlying157
  a66 := Try.isAgg157
  z66 := Try.sizeOf157
  v66 := Try.zeroValue157
  t70 := Try.underlying160
  a70 := Try.isAgg160
  z70 := Try.sizeOf160
  v70 := Try.zeroValue160
  t76 := Try.underlying162
  a76 := Try.isAgg162
  z76 := Try.sizeOf162
  v76 := Try.zeroValue162
  t77 := Try.underlying66
  a77 := Try.isAgg66
  z77 := Try.sizeOf66
  v77 := Try.zeroValue66 }
open Go.RowKit Go.Lib Go.Sort in
theorem Try.pdqsortCmpFunc_all {α : Type} [Inhabited α] (k : Nat) (aE : ∀ w, (isAgg 105).run Try.prog w = .ok true w) (zE : ∀ w, (Go.sizeOf 105).run Try.prog w = .ok k w) (enc : α → List Value) (cf : α → α → Int) (g : Nat) (cb : Array Value) (hO : SWO (ltOf cf)) (blk off cap : Nat) (d0 : Array α) (w0 : World) (eg : ∀ args w, (callFunc g args).run Try.prog w = .ok (.enter g args) w) (hcmp : CmpLays Try.prog g cb enc k cf blk off d0.size w0) (R : RowK enc k w0 blk off d0) :
    ∀ (N a b limit : Nat) (d : Array α) (w : World), b - a < N → d0.size = d.size → SWK enc k w0 blk off d w → a ≤ b → b ≤ d.size → d.size < 4611686018427387904 → limit < 4611686018427387904 → Below (ltOf cf) a b d →
    Calls Try.prog 70 #[.slice (some ⟨blk, off, none⟩) d.size cap, .int .i64 a, .int .i64 b, .int .i64 limit, .func (.func g) #[] cb] w fun e w' => e = .returned (.tuple #[]) ∧ SWK enc k w0 blk off (pdq (ltOf cf) d a b limit true true) w' := AnyQ.pdqsortCmpFunc_all Try.laysSlF014_f70 k aE zE enc cf g cb hO blk off cap d0 w0 eg hcmp R
def Try.laysSlF06_f58_ren : Go.Shelf.Ren := ⟨fun | 6 => 58 | 15 => 71 | 14 => 70 | 28 => 83 | 29 => 84 | 20 => 75 | 21 => 76 | 22 => 77 | 23 => 78 | 24 => 79 | 25 => 80 | 26 => 81 | 27 => 82 | 46 => 85 | 47 => 86 | 48 => 87 | 49 => 88 | 50 => 89 | 57 => 90 | n => n, fun | 22 => 103 | 24 => 105 | 25 => 124 | 3 => 3 | 39 => 140 | 0 => 0 | 53 => 53 | 55 => 22 | 4 => 4 | 46 => 150 | 45 => 149 | 50 => 115 | 5 => 5 | 9 => 9 | 66 => 157 | 70 => 160 | 76 => 162 | 77 => 66 | n => n, fun | n => n⟩
theorem Try.laysSlF06_f58 : Go.Proofs.SlLaysF0.n6 Try.prog Try.laysSlF06_f58_ren := {
  mixed := by kernel_rfl
  f6 := ⟨Try.f58.name, by decide, Try.func58.trans (congrArg some (by kernel_rfl))⟩
  f14 := ⟨Try.f70.name, by decide, Try.func70.trans (congrArg some (by kernel_rfl))⟩
  f15 := Try.func71.trans (congrArg some (by kernel_rfl))
  f20 := ⟨Try.f75.name, by decide, Try.func75.trans (congrArg some (by kernel_rfl))⟩
  f21 := ⟨Try.f76.name, by decide, Try.func76.trans (congrArg some (by kernel_rfl))⟩
  f22 := ⟨Try.f77.name, by decide, Try.func77.trans (congrArg some (by kernel_rfl))⟩
  f23 := ⟨Try.f78.name, by decide, Try.func78.trans (congrArg some (by kernel_rfl))⟩
  f24 := ⟨Try.f79.name, by decide, Try.func79.trans (congrArg some (by kernel_rfl))⟩
  f25 := ⟨Try.f80.name, by decide, Try.func80.trans (congrArg some (by kernel_rfl))⟩
  f26 := ⟨Try.f81.name, by decide, Try.func81.trans (congrArg some (by kernel_rfl))⟩
  f27 := ⟨Try.f82.name, by decide, Try.func82.trans (congrArg some (by kernel_rfl))⟩
  f28 := Try.func83.trans (congrArg some (by kernel_rfl))
  f29 := Try.func84.trans (congrArg some (by kernel_rfl))
  f46 := ⟨Try.f85.name, by decide, Try.func85.trans (congrArg some (by kernel_rfl))⟩
  f47 := Try.func86.trans (congrArg some (by kernel_rfl))
  f48 := Try.func87.trans (congrArg some (by kernel_rfl))
  f49 := ⟨Try.f88.name, by decide, Try.func88.trans (congrArg some (by kernel_rfl))⟩
  f50 := ⟨Try.f89.name, by decide, Try.func89.trans (congrArg some (by kernel_rfl))⟩
  f57 := ⟨Try.f90.name, by decide, Try.func90.trans (congrArg some (by kernel_rfl))⟩
  t0 := Try.underlying0
  a0 := Try.isAgg0
  z0 := Try.sizeOf0
  v0 := Try.zeroValue0
  t3 := Try.underlying3
  a3 := Try.isAgg3
  z3 := Try.sizeOf3
  v3 := Try.zeroValue3
  t4 := Try.underlying4
  a4 := Try.isAgg4
  z4 := Try.sizeOf4
  v4 := Try.zeroValue4
  t5 := Try.underlying5
  a5 := Try.isAgg5
  z5 := Try.sizeOf5
  v5 := Try.zeroValue5
  t9 := Try.underlying9
  a9 := Try.isAgg9
  z9 := Try.sizeOf9
  v9 := Try.zeroValue9
  t22 := Try.underlying103
  a22 := Try.isAgg103
  z22 := Try.sizeOf103
  v22 := Try.zeroValue103
  t25 := Try.underlying124
  a25 := Try.isAgg124
  z25 := Try.sizeOf124
  v25 := Try.zeroValue124
  t39 := Try.underlying140
  a39 := Try.isAgg140
  z39 := Try.sizeOf140
  v39 := Try.zeroValue140
  t45 := Try.underlying149
  a45 := Try.isAgg149
  z45 := Try.sizeOf149
  v45 := Try.zeroValue149
  t46 := Try.underlying150
  a46 := Try.isAgg150
  z46 := Try.sizeOf150
  v46 := Try.zeroValue150
  t50 := Try.underlying115
  a50 := Try.isAgg115
  z50 := Try.sizeOf115
  v50 := Try.zeroValue115
  t53 := Try.underlying53
  a53 := Try.isAgg53
  z53 := Try.sizeOf53
  v53 := Try.zeroValue53
  t55 := Try.underlying22
  a55 := Try.isAgg22
  z55 := Try.sizeOf22
  v55 := Try.zeroValue22
  t66 := Try.underlying157
  a66 := Try.isAgg157
  z66 := Try.sizeOf157
  v66 := Try.zeroValue157
  t70 := Try.underlying160
  a70 := Try.isAgg160
  z70 := Try.sizeOf160
  v70 := Try.zeroValue160
  t76 := Try.underlying162
  a76 := Try.isAgg162
  z76 := Try.sizeOf162
  v76 := Try.zeroValue162
  t77 := Try.underlying66
  a77 := Try.isAgg66
  z77 := Try.sizeOf66
  v77 := Try.zeroValue66 }
open Go.RowKit Go.Lib Go.Sort in
theorem Try.slices_SortFunc_eq {α : Type} [Inhabited α] (k : Nat) (aE : ∀ w, (isAgg 105).run Try.prog w = .ok true w) (zE : ∀ w, (Go.sizeOf 105).run Try.prog w = .ok k w) (enc : α → List Value) (hk : ∀ x, (enc x).length = k) (h1 : ∀ x, ∀ v ∈ enc x, v.oneCell' = true) (cf : α → α → Int) (hO : SWO (ltOf cf)) (g : Nat) (cb : Array Value) (blk off cap : Nat) (d : Array α) (w : World) (eg : ∀ args w, (callFunc g args).run Try.prog w = .ok (.enter g args) w) (hcmp : CmpLays Try.prog g cb enc k cf blk off d.size w) (hH : HoldsK enc k w blk off d) (hblk : blk < w.heap.size) (hsz : d.size < 4611686018427387904) :
    Calls Try.prog 58 #[.slice (some ⟨blk, off, none⟩) d.size cap, .func (.func g) #[] cb] w fun e w' =>
      e = .returned (.tuple #[]) ∧ ∃ n os, w' = sortWorldK enc k w blk off n (pdq (ltOf cf) d 0 d.size (Lib.bitLen d.size) true true) os := AnyQ.slices_SortFunc_eq Try.laysSlF06_f58 k aE zE enc hk h1 cf hO g cb blk off cap d w eg hcmp hH hblk hsz
open Go.RowKit Go.Lib Go.Sort in
theorem Try.slices_SortFunc {α : Type} [Inhabited α] (k : Nat) (aE : ∀ w, (isAgg 105).run Try.prog w = .ok true w) (zE : ∀ w, (Go.sizeOf 105).run Try.prog w = .ok k w) (enc : α → List Value) (hk : ∀ x, (enc x).length = k) (h1 : ∀ x, ∀ v ∈ enc x, v.oneCell' = true) (cf : α → α → Int) (hO : SWO (ltOf cf)) (g : Nat) (cb : Array Value) (blk off cap : Nat) (d : Array α) (w : World) (eg : ∀ args w, (callFunc g args).run Try.prog w = .ok (.enter g args) w) (hcmp : CmpLays Try.prog g cb enc k cf blk off d.size w) (hH : HoldsK enc k w blk off d) (hblk : blk < w.heap.size) (hsz : d.size < 4611686018427387904) :
    Calls Try.prog 58 #[.slice (some ⟨blk, off, none⟩) d.size cap, .func (.func g) #[] cb] w fun e w' =>
      e = .returned (.tuple #[]) ∧ ∃ d' n os, PermIn 0 d.size d d' ∧ SortedIn (ltOf cf) 0 d.size d' ∧ w' = sortWorldK enc k w blk off n d' os := AnyQ.slices_SortFunc Try.laysSlF06_f58 k aE zE enc hk h1 cf hO g cb blk off cap d w eg hcmp hH hblk hsz
open Go.RowKit Go.Lib Go.Sort in
theorem Try.insertionSortCmpFunc_none {α : Type} [Inhabited α] (p : Option Addr) (cap : Nat) (fv : Value) (w : World) :
    Calls Try.prog 75 #[.slice p 0 cap, .int .i64 0, .int .i64 0, fv] w fun e w' => e = .returned (.tuple #[]) ∧ w' = w := AnyF.insertionSortCmpFunc_none Try.laysSlF020_f75 p cap fv w
open Go.RowKit Go.Lib Go.Sort in
theorem Try.pdqsortCmpFunc_none {α : Type} [Inhabited α] (p : Option Addr) (cap : Nat) (lim : Int) (fv : Value) (w : World) :
    Calls Try.prog 70 #[.slice p 0 cap, .int .i64 0, .int .i64 0, .int .i64 lim, fv] w fun e w' => e = .returned (.tuple #[]) ∧ w' = w := AnyF.pdqsortCmpFunc_none Try.laysSlF014_f70 p cap lim fv w
open Go.RowKit Go.Lib Go.Sort in
theorem Try.slices_SortFunc_none {α : Type} [Inhabited α] (p : Option Addr) (cap : Nat) (fv : Value) (w : World) :
    Calls Try.prog 58 #[.slice p 0 cap, fv] w fun e w' => e = .returned (.tuple #[]) ∧ w' = w := AnyF.slices_SortFunc_none Try.laysSlF06_f58 p cap fv w
open Go.RowKit Go.Lib Go.Sort in
theorem Try.slices_SortFunc_total {α : Type} [Inhabited α] (k : Nat) (aE : ∀ w, (isAgg 105).run Try.prog w = .ok true w) (zE : ∀ w, (Go.sizeOf 105).run Try.prog w = .ok k w) (enc : α → List Value) (hk : ∀ x, (enc x).length = k) (h1 : ∀ x, ∀ v ∈ enc x, v.oneCell' = true) (cf : α → α → Int) (hO : SWO (ltOf cf)) (g : Nat) (cb : Array Value) (blk off cap : Nat) (d : Array α) (w : World) (eg : ∀ args w, (callFunc g args).run Try.prog w = .ok (.enter g args) w) (hcmp : CmpLays Try.prog g cb enc k cf blk off d.size w) (hH : HoldsK enc k w blk off d) (hblk : blk < w.heap.size) (hsz : d.size < 4611686018427387904) (hT : ∀ x y, (ltOf cf) x y = false → (ltOf cf) y x = false → x = y) :
    Calls Try.prog 58 #[.slice (some ⟨blk, off, none⟩) d.size cap, .func (.func g) #[] cb] w fun e w' =>
      e = .returned (.tuple #[]) ∧ ∃ n os, w' = sortWorldK enc k w blk off n (d.toList.mergeSort fun x y => !(ltOf cf) y x).toArray os := AnyQ.slices_SortFunc_total Try.laysSlF06_f58 k aE zE enc hk h1 cf hO g cb blk off cap d w eg hcmp hH hblk hsz hT
end Go.Proofs
namespace Go.Proofs.Ytmoignbaphddeaa
open Go.RowKit Go.Sort

theorem isNaNI_c (w : World) (x : Int) : Calls Try.prog 72 #[.int .i64 x] w fun e w' => e = .returned (.bool false) ∧ w' = w := by
  go_enter Try.func72, Try.ntmps72
  go_wp2
  go_ret
  exact ⟨rfl, rfl⟩

/-- the order of two numbers -/
def cmpI (x y : Int) : Int := if x < y then -1 else if y < x then 1 else 0
theorem compareI_c (w : World) (x y : Int) : Calls Try.prog 61 #[.int .i64 x, .int .i64 y] w fun e w' => e = .returned (.int .i64 (cmpI x y)) ∧ w' = w := by
  have hnan := fun (w : World) (x : Int) => isNaNI_c w x
  unfold cmpI
  by_cases h1 : x < y
  · rw [if_pos h1]
    go_enter Try.func61, Try.ntmps61
    go_wp2_with (go_at_call 72; refine (hnan _ _).mono ?_; rintro e w2 ⟨rfl, rfl⟩)
    all_goals (try omega)
    all_goals (go_ret; exact ⟨rfl, rfl⟩)
  · rw [if_neg h1]
    by_cases h2 : y < x
    · rw [if_pos h2]
      go_enter Try.func61, Try.ntmps61
      go_wp2_with (go_at_call 72; refine (hnan _ _).mono ?_; rintro e w2 ⟨rfl, rfl⟩)
      all_goals (try omega)
      all_goals (go_ret; exact ⟨rfl, rfl⟩)
    · rw [if_neg h2]
      go_enter Try.func61, Try.ntmps61
      go_wp2_with (go_at_call 72; refine (hnan _ _).mono ?_; rintro e w2 ⟨rfl, rfl⟩)
      all_goals (try omega)
      all_goals (go_ret; exact ⟨rfl, rfl⟩)

theorem or_c (w : World) (b : Nat) (x y : Int) (h0 : w.cell? ⟨b, 0, none⟩ = some (.int .i64 x)) (h1 : w.cell? ⟨b, 1, none⟩ = some (.int .i64 y)) (_hb : b < w.heap.size) :
    Calls Try.prog 60 #[.slice (some ⟨b, 0, none⟩) 2 2] w fun e w' => e = .returned (.int .i64 (if x = 0 then y else x)) ∧ w' = w := by
  by_cases hx : x = 0
  · rw [if_pos hx]
    subst hx
    by_cases hy : y = 0
    · subst hy
      go_enter Try.func60, Try.ntmps60
      go_wp2_with fail
      go_loopw [5, 8] (fun v i wr => ∃ k : Nat, k ≤ 2 ∧ i = .int .i64 k ∧ wr = w) (fun _ i _ => 2 - (intOf i).toNat)
      case atStart => exact ⟨0, by omega, rfl, rfl⟩
      case round =>
        obtain ⟨k, hk, rfl, rfl⟩ := hrel
        have : k = 0 ∨ k = 1 ∨ k = 2 := by omega
        rcases this with rfl | rfl | rfl
        · go_wp2
          refine ⟨⟨1, by omega, by go_num, trivial⟩, by simp [intOf]⟩
        · go_wp2
          refine ⟨⟨2, by omega, by go_num, trivial⟩, by simp [intOf]⟩
        · go_wp2
          go_ret
          exact ⟨rfl, rfl⟩
    · go_enter Try.func60, Try.ntmps60
      go_wp2_with fail
      go_loopw [5, 8] (fun v i wr => ∃ k : Nat, k ≤ 1 ∧ i = .int .i64 k ∧ wr = w) (fun _ i _ => 2 - (intOf i).toNat)
      case atStart => exact ⟨0, by omega, rfl, rfl⟩
      case round =>
        obtain ⟨k, hk, rfl, rfl⟩ := hrel
        have : k = 0 ∨ k = 1 := by omega
        rcases this with rfl | rfl
        · go_wp2
          refine ⟨⟨1, by omega, by go_num, trivial⟩, by simp [intOf]⟩
        · go_wp2
          go_ret
          exact ⟨rfl, rfl⟩
  · rw [if_neg hx]
    go_enter Try.func60, Try.ntmps60
    go_wp2_with fail
    go_loopw [5, 8] (fun v i wr => i = .int .i64 0 ∧ wr = w) (fun _ i _ => 2 - (intOf i).toNat)
    case atStart => exact ⟨rfl, rfl⟩
    case round =>
      obtain ⟨rfl, rfl⟩ := hrel
      go_wp2
      go_ret
      exact ⟨rfl, rfl⟩

def cmpP (p q : Int × Int) : Int := if cmpI p.1 q.1 = 0 then cmpI p.2 q.2 else cmpI p.1 q.1
set_option maxHeartbeats 4000000 in
theorem pairs2_c (w : World) (p q : Int × Int) : Calls Try.prog 59 #[.agg #[.int .i64 p.1, .int .i64 p.2], .agg #[.int .i64 q.1, .int .i64 q.2]] w fun e w' =>
    e = .returned (.int .i64 (cmpP p q)) ∧ ∃ n os', w' = grow (w.drewN n) os' := by
  have c1 : ∀ W, Calls Try.prog 61 #[.int .i64 p.1, .int .i64 q.1] W fun e w' => e = .returned (.int .i64 (cmpI p.1 q.1)) ∧ w' = W := fun W => compareI_c W _ _
  have c2 : ∀ W, Calls Try.prog 61 #[.int .i64 p.2, .int .i64 q.2] W fun e w' => e = .returned (.int .i64 (cmpI p.2 q.2)) ∧ w' = W := fun W => compareI_c W _ _
  unfold cmpP
  obtain ⟨r1, hr1⟩ : ∃ r1, cmpI p.1 q.1 = r1 := ⟨_, rfl⟩
  obtain ⟨r2, hr2⟩ : ∃ r2, cmpI p.2 q.2 = r2 := ⟨_, rfl⟩
  rw [hr1] at c1 ⊢
  rw [hr2] at c2 ⊢
  have hor : ∀ (W : World) (b : Nat), W.cell? ⟨b, 0, none⟩ = some (.int .i64 r1) → W.cell? ⟨b, 1, none⟩ = some (.int .i64 r2) → b < W.heap.size → Calls Try.prog 60 #[.slice (some ⟨b, 0, none⟩) 2 2] W fun e w' => e = .returned (.int .i64 (if r1 = 0 then r2 else r1)) ∧ w' = W := fun W b h0 h1 hb => or_c W b r1 r2 h0 h1 hb
  obtain ⟨r3, hr3⟩ : ∃ r3, (if r1 = 0 then r2 else r1) = r3 := ⟨_, rfl⟩
  rw [hr3] at hor ⊢
  clear hr1 hr2 hr3
  have hor := hid hor
  obtain ⟨p1, p2⟩ := p
  obtain ⟨q1, q2⟩ := q
  simp only at c1 c2 ⊢
  go_enter Try.func59, Try.ntmps59
  go_wp2_with fail
  obtain ⟨w2, hw2⟩ : ∃ w2, (w.alloc (.cells #[.int .i64 p1, .int .i64 p2] 105)).alloc (.cells #[.int .i64 q1, .int .i64 q2] 105) = w2 := ⟨_, rfl⟩
  have hp : w2.heap[w.heap.size]? = some (.cells #[.int .i64 p1, .int .i64 p2] 105 (0, 0)) := by rw [← hw2]; exact heap_alloc' (heap_new _ _) _
  have hq : w2.heap[w.heap.size + 1]? = some (.cells #[.int .i64 q1, .int .i64 q2] 105 (0, 0)) := by rw [← hw2]; exact heap_at (by simp)
  have p0 := cell_of_heap (i := 0) hp rfl
  have p1' := cell_of_heap (i := 1) hp rfl
  have q0 := cell_of_heap (i := 0) hq rfl
  have q1' := cell_of_heap (i := 1) hq rfl
  have hl := lt_of_block hq
  rw [hw2]
  have Hw2 := hid hw2
  clear hw2 hp hq
  go_region_held3 (fun W => W.cell? ⟨w.heap.size, 0, none⟩ = some (.int .i64 p1) ∧ W.cell? ⟨w.heap.size, 1, none⟩ = some (.int .i64 p2) ∧ W.cell? ⟨w.heap.size + 1, 0, none⟩ = some (.int .i64 q1) ∧ W.cell? ⟨w.heap.size + 1, 1, none⟩ = some (.int .i64 q2)) (go_keep) (first
    | (go_at_call 61; with_reducible refine (c1 _).mono ?_; rintro e w6 ⟨rfl, rfl⟩)
    | (go_at_call 61; with_reducible refine (c2 _).mono ?_; rintro e w6 ⟨rfl, rfl⟩)
    | (go_at_call 60; refine (hor.out _ w2.heap.size ?_ ?_ ?_).mono ?_; (simp); (simp); (simp); rintro e w6 ⟨rfl, rfl⟩))
  clear p0 p1' q0 q1' hl hor c1 c2
  go_wp2
  go_ret
  refine ⟨rfl, 1, #[.cells #[.int .i64 p1, .int .i64 p2] 105, .cells #[.int .i64 q1, .int .i64 q2] 105, .cells #[.int .i64 r1, .int .i64 r2] 3], ?_⟩
  rw [← Hw2.out, alloc_eq_grow, alloc_eq_grow, alloc_eq_grow, grow_grow, grow_grow]
  rfl

theorem cmpI_neg (x y : Int) : cmpI x y < 0 ↔ x < y := by
  unfold cmpI
  split
  · omega
  · split <;> omega
theorem cmpI_zero (x y : Int) : cmpI x y = 0 ↔ x = y := by
  unfold cmpI
  split
  · omega
  · split <;> omega
/-- the order of pairs -/
def LtP (p q : Int × Int) : Prop := p.1 < q.1 ∨ p.1 = q.1 ∧ p.2 < q.2
theorem cmpP_neg (p q : Int × Int) : cmpP p q < 0 ↔ LtP p q := by
  unfold cmpP LtP
  by_cases h : cmpI p.1 q.1 = 0
  · rw [if_pos h, cmpI_neg]
    rw [cmpI_zero] at h
    omega
  · rw [if_neg h, cmpI_neg]
    rw [cmpI_zero] at h
    omega
theorem ltP' (x y : Int × Int) : ltOf cmpP x y = decide (cmpP x y < 0) := rfl
theorem ltP_true (x y : Int × Int) : ltOf cmpP x y = true ↔ LtP x y := by rw [ltP', decide_eq_true_eq, cmpP_neg]
theorem ltP_false (x y : Int × Int) : ltOf cmpP x y = false ↔ ¬ LtP x y := by rw [ltP', decide_eq_false_iff_not, cmpP_neg]
theorem cmpP_swo : SWO (ltOf cmpP) := by
  refine ⟨fun x => ?_, fun x y z h1 h2 => ?_, fun x y z h1 h2 => ?_⟩
  · rw [ltP_false]; unfold LtP; omega
  · rw [ltP_true] at *; unfold LtP at *; omega
  · rw [ltP_false] at *; unfold LtP at *; omega

theorem grow_grownP (w : World) (os : Array Obj) : w.grownBy (grow w os) none :=
  ⟨rfl, rfl, rfl, by show w.heap.size ≤ (w.heap ++ os).size; simp, fun i hi _ => by
    show (w.heap ++ os)[i]? = _
    rw [Array.getElem?_append_left hi]⟩
theorem oneP : ∀ x, ∀ v ∈ encP x, v.oneCell' = true := by intro x v hv; simp only [encP, List.mem_cons, List.not_mem_nil, or_false] at hv; rcases hv with rfl | rfl <;> rfl
theorem sortP_c (w : World) (base : Nat) (s : Value) (l : List (Int × Int)) (hsz : l.length < 4611686018427387904) (h : w.ownsRow base 105 2 s l.length (l.flatMap encP)) :
    Calls Try.prog 58 #[s, .func (.func 59) #[] #[]] w fun e' w' => e' = .returned (.tuple #[]) ∧
      (∃ m : List (Int × Int), l.Perm m ∧ (m.Pairwise fun a b => ¬ LtP b a) ∧ w'.ownsRow base 105 2 s m.length (m.flatMap encP)) ∧ w.grownBy w' s.ownBlock := by
  rcases h.2 with ⟨rfl, hn⟩ | ⟨g, cap, cur, rfl, hrest⟩
  · have hl : l = [] := List.eq_nil_of_length_eq_zero hn
    subst hl
    refine (Try.slices_SortFunc_none (α := Int × Int) none 0 _ w).mono ?_
    rintro e' w' ⟨rfl, rfl⟩
    exact ⟨rfl, ⟨[], List.Perm.nil, List.Pairwise.nil, World.ownsRow_nil _ _ _ _⟩, grefl _ _⟩
  · have hH : HoldsK encP 2 w g 0 l.toArray := own_holds (fun _ => rfl) (by simpa using h) (by simp)
    have hlt : g < w.heap.size := (h.lt g rfl).2
    have := Try.slices_SortFunc (α := Int × Int) 2 Try.isAgg105 Try.sizeOf105 encP (fun _ => rfl) oneP cmpP cmpP_swo 59 #[] g 0 cap l.toArray w (enters_of Try.func59 (by kernel_rfl) rfl)
      (fun m os dk _ x y => pairs2_c _ x y) hH hlt (by simpa using hsz)
    simp only [List.size_toArray] at this
    refine this.mono ?_
    rintro e' w' ⟨rfl, d', n, os, hperm, hsorted, rfl⟩
    have hsize : d'.size = l.length := by have := hperm.1; simpa using this
    have hp := own_put (m := n) (d := d') (enc := encP) (k := 2) (fun _ => rfl) h hsize
    refine ⟨rfl, ⟨d'.toList, ?_, ?_, ?_⟩, gtrans hp.2 ?_⟩
    · have h3 := hperm.2.2
      rw [Array.extract_eq_self_of_le (by simp [hsize]), Array.extract_eq_self_of_le (by simp)] at h3
      simpa using h3.symm
    · rw [List.pairwise_iff_getElem]
      intro i j hi hj hij
      have h4 := hsorted i j (Nat.zero_le _) hij (by simpa [hsize] using hj)
      simp only [Array.length_toList] at hi hj
      rw [getElem!_pos d' j hj, getElem!_pos d' i hi, ltP_false] at h4
      simpa using h4
    · have h5 := hp.1.kept (grow_grownP _ os) (.inr (by simp [Value.ownBlock]))
      have e : d'.toList.length = l.length := by simp [hsize]
      rw [e]
      exact h5
    · have h6 := grow_grownP (putRowK encP 2 (Sort.ahead w n) g 0 d') os
      exact ⟨h6.os, h6.tape, h6.output, h6.size, fun i hi _ => h6.block i hi (by simp)⟩
end Go.Proofs.Ytmoignbaphddeaa
namespace Go.Proofs.Ytmoignbaphddeaa
open Go.RowKit Go.Sort

theorem pairs_passes {l : List Spn} (hok : ∀ s ∈ l, s.ok) (hn : l.length ≤ 1048576) (B0 ob : Nat) (hob : B0 ≤ ob) :
    Passes (visitT l) B0 57 #[.pointer (some ⟨ob, 0, none⟩)] (fun tr W => ∃ s, POut B0 ob (pairsI tr) W s) := by
  refine ⟨enters_of Try.func57 (by kernel_rfl) rfl, ?_, ?_⟩
  · rintro tr W W' ⟨s, h⟩ hq
    exact ⟨s, h.qstep hq⟩
  · rintro tr W x o ad cap ⟨rest, hT⟩ ⟨s, h⟩ hB - hoo - hrow
    have hT' : (tr ++ [(x, o)]) ++ rest = visitT l := by rw [← hT]; simp
    have hlen := pairsI_len hok hT'
    rw [pairsI_snoc, List.length_append] at hlen
    have hno : (notesOf x o.toList).length = o.size := by simp [notesOf]
    have hsz : o.toList.length = o.size := Array.length_toList
    have hsq : l.length * l.length ≤ 1048576 * 1048576 := Nat.mul_le_mul hn hn
    have := pairs1_c W B0 B0 ob x ad cap o.toList (pairsI tr) s h (Nat.le_refl _) hB hob (by omega) (by rw [hsz]; exact hrow)
    rw [hsz] at this
    rw [pairsI_snoc]
    exact this

set_option maxHeartbeats 2000000 in
theorem pairs_c (w : World) (d : Option Addr) (cap : Nat) (l : List Spn) (hrow : RowAt 2 encSpn w d l) (hok : ∀ s ∈ l, s.ok) (hn : l.length ≤ 1048576) :
    Calls Try.prog 47 #[.slice d l.length cap] w fun e w' => ∃ (s : Value) (m : List (Int × Int)), e = .returned s ∧ (pairsI (visitT l)).Perm m ∧ (m.Pairwise fun a b => ¬ LtP b a) ∧ w'.ownsRow w.heap.size 105 2 s m.length (m.flatMap encP) ∧ Below w.heap.size w w' := by
  have hvis := hid (fun W (cp : Nat) (hr : RowAt 2 encSpn W d l) (hB : w.heap.size ≤ W.heap.size) (hI : ∃ s, POut w.heap.size w.heap.size (pairsI []) W s) =>
    visit_c W d cp l hr hok (by omega) 57 #[.pointer (some ⟨w.heap.size, 0, none⟩)] w.heap.size hB (fun tr W => ∃ s, POut w.heap.size w.heap.size (pairsI tr) W s) (pairs_passes hok hn _ _ (Nat.le_refl _)) hI)
  have Hrow := hid hrow
  have hbig : Hid ((pairsI (visitT l)).length < 4611686018427387904) := by
    have h1 := pairsI_len hok (tr := visitT l) (rest := []) (by simp)
    have hsq : l.length * l.length ≤ 1048576 * 1048576 := Nat.mul_le_mul hn hn
    show _ < _
    omega
  clear hrow
  go_enter Try.func47, Try.ntmps47
  go_wp2_with fail
  refine (hvis.out _ _ (Hrow.out.below (below_new _ _)) (by simp) ⟨_, heap_new _ _, World.ownsRow_nil _ _ _ _⟩).mono ?_
  rintro e w2 ⟨⟨v, rfl⟩, hI, hb2⟩
  obtain ⟨s, hbox, hown⟩ := hI
  have hb2' : Below w.heap.size w w2 := ((below_new w _)).trans hb2
  obtain ⟨ad, c, rfl, _⟩ := own_slice hown
  have o0 := cell_of_heap (i := 0) hbox rfl
  have ol := lt_of_block hbox
  have Hown := hid hown
  have Hbox := hid hbox
  have Hb2 := hid hb2'
  clear hown hbox hb2 hb2' hvis Hrow
  go_wp2_with fail
  refine (sortP_c w2 w.heap.size _ _ hbig.out Hown.out).mono ?_
  rintro e w3 ⟨rfl, ⟨m, hperm, hsorted, hown3⟩, hg3⟩
  have hbox3 : w3.heap[w.heap.size]? = some (.cells #[.slice ad (pairsI (visitT l)).length c] 103 (0, 0)) := KeptE.grown (e := 103) Hown.out hg3 (by decide) _ _ _ Hbox.out
  have o1 := cell_of_heap (i := 0) hbox3 rfl
  have ol1 := lt_of_block hbox3
  have hfin := hid (And.intro hperm (And.intro hsorted (And.intro hown3 (below_own Hb2.out Hown.out (Nat.le_refl _) hg3))))
  clear hperm hsorted hown3 hg3 hbox3 o0 ol Hown Hbox
  go_wp2
  go_ret
  exact ⟨_, m, rfl, hfin.out⟩
end Go.Proofs.Ytmoignbaphddeaa
namespace Go.Proofs.Ytmoignbaphddeaa
open Go.RowKit Go.Sort

def firstStep (al : Int → Int → Bool) (fs p : Int × Int) : Int × Int := if al p.1 p.2 = true then fs else if fs.2 < 0 ∨ p.2 < fs.2 then p else fs
def firstF (al : Int → Int → Bool) (m : List (Int × Int)) : Int × Int := m.foldl (firstStep al) (-1, -1)
theorem firstF_snoc (al : Int → Int → Bool) (m : List (Int × Int)) (p : Int × Int) : firstF al (m ++ [p]) = firstStep al (firstF al m) p := by simp [firstF]

theorem snoc_ind {α : Type} {P : List α → Prop} (h0 : P []) (h1 : ∀ l x, P l → P (l ++ [x])) (l : List α) : P l := by
  have : ∀ r : List α, P r.reverse := by
    intro r
    induction r with
    | nil => simpa using h0
    | cons x r ih => simpa using h1 _ x ih
  simpa using this l.reverse
/-- the second number: the least one, or -1 -/
theorem firstF_spec (al : Int → Int → Bool) (m : List (Int × Int)) (h0 : ∀ p ∈ m, 0 ≤ p.2) :
    ((firstF al m).2 = -1 ∧ ∀ p ∈ m, al p.1 p.2 = true) ∨ (0 ≤ (firstF al m).2 ∧ (∃ p ∈ m, al p.1 p.2 = false ∧ p.2 = (firstF al m).2) ∧ ∀ p ∈ m, al p.1 p.2 = false → (firstF al m).2 ≤ p.2) := by
  have key : ∀ (r : List (Int × Int)), (∀ p ∈ r, 0 ≤ p.2) → (((firstF al r).2 = -1 ∧ ∀ p ∈ r, al p.1 p.2 = true) ∨ (0 ≤ (firstF al r).2 ∧ (∃ p ∈ r, al p.1 p.2 = false ∧ p.2 = (firstF al r).2) ∧ ∀ p ∈ r, al p.1 p.2 = false → (firstF al r).2 ≤ p.2)) := by
    intro r
    refine snoc_ind (P := fun r => (∀ p ∈ r, 0 ≤ p.2) → (((firstF al r).2 = -1 ∧ ∀ p ∈ r, al p.1 p.2 = true) ∨ (0 ≤ (firstF al r).2 ∧ (∃ p ∈ r, al p.1 p.2 = false ∧ p.2 = (firstF al r).2) ∧ ∀ p ∈ r, al p.1 p.2 = false → (firstF al r).2 ≤ p.2))) ?_ ?_ r
    · intro _; exact .inl ⟨rfl, fun p hp => by cases hp⟩
    · intro r p ih hr
      have ih := ih (fun q hq => hr q (List.mem_append_left _ hq))
      have hp := hr p (by simp)
      rw [firstF_snoc]
      unfold firstStep
      by_cases ha : al p.1 p.2 = true
      · rw [if_pos ha]
        rcases ih with ⟨h1, h2⟩ | ⟨h1, ⟨q, hq, hq1, hq2⟩, h3⟩
        · refine .inl ⟨h1, fun q hq => ?_⟩
          rcases List.mem_append.1 hq with hq | hq
          · exact h2 q hq
          · rw [List.mem_singleton] at hq; subst hq; exact ha
        · refine .inr ⟨h1, ⟨q, List.mem_append_left _ hq, hq1, hq2⟩, fun q' hq' ha' => ?_⟩
          rcases List.mem_append.1 hq' with hq' | hq'
          · exact h3 q' hq' ha'
          · rw [List.mem_singleton] at hq'; subst hq'; rw [ha] at ha'; cases ha'
      · rw [if_neg ha]
        have haf : al p.1 p.2 = false := by simpa using ha
        rcases ih with ⟨h1, h2⟩ | ⟨h1, ⟨q, hq, hq1, hq2⟩, h3⟩
        · rw [if_pos (by omega)]
          refine .inr ⟨hp, ⟨p, by simp, haf, rfl⟩, fun q hq ha' => ?_⟩
          rcases List.mem_append.1 hq with hq | hq
          · rw [h2 q hq] at ha'; cases ha'
          · rw [List.mem_singleton] at hq; subst hq; exact Int.le_refl _
        · by_cases hc : p.2 < (firstF al r).2
          · rw [if_pos (by omega)]
            refine .inr ⟨hp, ⟨p, by simp, haf, rfl⟩, fun q' hq' ha' => ?_⟩
            rcases List.mem_append.1 hq' with hq' | hq'
            · have := h3 q' hq' ha'; omega
            · rw [List.mem_singleton] at hq'; subst hq'; exact Int.le_refl _
          · rw [if_neg (by omega)]
            refine .inr ⟨h1, ⟨q, List.mem_append_left _ hq, hq1, hq2⟩, fun q' hq' ha' => ?_⟩
            rcases List.mem_append.1 hq' with hq' | hq'
            · exact h3 q' hq' ha'
            · rw [List.mem_singleton] at hq'; subst hq'; omega
  exact key m h0

theorem RowAt.pr {w : World} {a : Option Addr} {l : List (Int × Int)} (h : RowAt 2 encP w a l) {k : Nat} (hk : k < l.length) : ∃ b o, a = some ⟨b, o, none⟩ ∧ b < w.heap.size ∧
    w.cell? ⟨b, o + k * 2, none⟩ = some (.int .i64 l[k].1) ∧ w.cell? ⟨b, o + k * 2 + 1, none⟩ = some (.int .i64 l[k].2) := by
  obtain ⟨b, o, ha, hc⟩ := h k l[k] (List.getElem?_eq_getElem hk)
  exact ⟨b, o, ha, hc.lt (by simp [encP]), hc 0 _ rfl, hc 1 _ rfl⟩

theorem below_drewN {B : Nat} {w W : World} (h : RowKit.Below B w W) (n : Nat) : RowKit.Below B w (W.drewN n) := ⟨h.os, h.tape, h.output, h.size, h.block⟩
/-- what Pairs returns -/
def PairsOk (l : List Spn) (m : List (Int × Int)) : Prop := (pairsI (visitT l)).Perm m ∧ m.Pairwise fun a b => ¬ LtP b a

set_option maxHeartbeats 4000000 in
set_option maxRecDepth 20000 in
theorem firstNil_c (w : World) (d : Option Addr) (cap : Nat) (l : List Spn) (hrow : RowAt 2 encSpn w d l) (hok : ∀ s ∈ l, s.ok) (hn : l.length ≤ 1048576) :
    Calls Try.prog 26 #[.slice d l.length cap, .nilFunc] w fun e w' => ∃ (m : List (Int × Int)), PairsOk l m ∧ e = .returned (.tuple #[.int .i64 (firstF (fun _ _ => false) m).1, .int .i64 (firstF (fun _ _ => false) m).2]) ∧ Below w.heap.size w w' := by
  have hpairs := hid (pairs_c w d cap l hrow hok hn)
  have hlen : Hid ((pairsI (visitT l)).length ≤ 1048576 * 1048576) := by
    have h1 := pairsI_len hok (tr := visitT l) (rest := []) (by simp)
    have hsq : l.length * l.length ≤ 1048576 * 1048576 := Nat.mul_le_mul hn hn
    show _ ≤ _
    omega
  clear hrow hok
  have hrun : ∀ w, Sem.run Try.prog (binOp BinOp.neq 102 Value.nilFunc Value.nilFunc) w = .ok (.bool false) w := fun w => by kernel_rfl
  go_enter Try.func26, Try.ntmps26
  go_wp2_with fail
  refine hpairs.out.mono ?_
  rintro e w2 ⟨s, m, rfl, hperm, hsorted, hown, hb2⟩
  have hml : m.length ≤ 1048576 * 1048576 := by have := hlen.out; rw [hperm.length_eq] at this; exact this
  have Hok : Hid (PairsOk l m) := ⟨hperm, hsorted⟩
  obtain ⟨ad, c, rfl, _⟩ := own_slice hown
  have Hrow := hid (own_row hown (fun _ _ => rfl) rfl)
  have Hb2 := hid hb2
  clear hperm hsorted hown hb2 hpairs hlen
  go_wp2_with fail
  go_loopw [6, 7, 13] (fun f s i wr => ∃ k : Nat, k ≤ m.length ∧ i = .int .i64 k ∧ ∃ q : Int × Int, f = .int .i64 q.1 ∧ s = .int .i64 q.2 ∧ Hid (firstF (fun _ _ => false) (m.take k) = q ∧ Below w2.heap.size w2 wr)) (fun _ _ i _ => m.length - (intOf i).toNat)
  case atStart => exact ⟨0, Nat.zero_le _, rfl, (-1, -1), rfl, rfl, rfl, Below.refl _ _⟩
  case round =>
    obtain ⟨k, hkn, rfl, q, rfl, rfl, hI⟩ := hrel
    by_cases hlt : k < m.length
    · obtain ⟨b, o, rfl, hb0, g0, g1⟩ := (Hrow.out.below hI.out.2).pr hlt
      have hnx : firstF (fun _ _ => false) (m.take (k + 1)) = if q.2 < 0 ∨ m[k].2 < q.2 then m[k] else q := by
        rw [List.take_add_one, List.getElem?_eq_getElem hlt, Option.toList_some, firstF_snoc, hI.out.1]
        simp [firstStep]
      have Hb := hid (hI.out.2.trans ((below_new wr (.cells #[.int .i64 m[k].1, .int .i64 m[k].2] 105)).mono hI.out.2.size))
      obtain ⟨p, hp⟩ : ∃ p, m[k] = p := ⟨_, rfl⟩
      rw [hp] at g0 g1 hnx Hb
      obtain ⟨p1, p2⟩ := p
      obtain ⟨q1, q2⟩ := q
      simp only at g0 g1 hnx Hb
      clear hI hp
      by_cases c1 : q2 < 0
      · rw [if_pos (.inl c1)] at hnx
        have Hnx := hid hnx
        clear hnx
        go_wp2_with fail
        go_quiet (fail)
        go_wp2
        exact ⟨⟨k + 1, by omega, by go_num, (p1, p2), rfl, rfl, Hnx.out, below_drewN Hb.out _⟩, by simp [intOf]; omega⟩
      · by_cases c2 : p2 < q2
        · rw [if_pos (.inr c2)] at hnx
          have Hnx := hid hnx
          clear hnx
          go_wp2_with fail
          go_quiet (fail)
          go_wp2
          exact ⟨⟨k + 1, by omega, by go_num, (p1, p2), rfl, rfl, Hnx.out, below_drewN Hb.out _⟩, by simp [intOf]; omega⟩
        · rw [if_neg (by omega)] at hnx
          have Hnx := hid hnx
          clear hnx
          go_wp2
          exact ⟨⟨k + 1, by omega, by go_num, (q1, q2), rfl, rfl, Hnx.out, Hb.out⟩, by simp [intOf]; omega⟩
    · have hke : k = m.length := by omega
      subst hke
      obtain ⟨hf, hb⟩ := hI.out
      rw [List.take_length] at hf
      have Hf := hid hf
      have Hb := hid (Hb2.out.trans (hb.mono Hb2.out.size))
      clear hf hb hI
      go_wp2
      go_ret2
      exact ⟨m, Hok.out, by rw [Hf.out]; rfl, Hb.out⟩

set_option maxHeartbeats 4000000 in
set_option maxRecDepth 20000 in
theorem firstFn_c (al : Int → Int → Bool) (fn : FuncId) (caps : Array Value) (w : World) (d : Option Addr) (cap : Nat) (l : List Spn) (hrow : RowAt 2 encSpn w d l) (hok : ∀ s ∈ l, s.ok) (hn : l.length ≤ 1048576)
    (henter : ∀ (args : Array Value) (W : World), (callFunc fn args).run Try.prog W = .ok (.enter fn args) W)
    (hal : ∀ W (i j : Nat), Below w.heap.size w W → i < j → j < l.length → Calls Try.prog fn (#[.int .i64 i, .int .i64 j] ++ caps) W fun e w' => e = .returned (.bool (al i j)) ∧ Below W.heap.size W w') :
    Calls Try.prog 26 #[.slice d l.length cap, .func (.func fn) #[] caps] w fun e w' => ∃ (m : List (Int × Int)), PairsOk l m ∧ e = .returned (.tuple #[.int .i64 (firstF al m).1, .int .i64 (firstF al m).2]) ∧ Below w.heap.size w w' := by
  have hmem : Hid (∀ m, PairsOk l m → ∀ p ∈ m, ∃ i j : Nat, i < j ∧ j < l.length ∧ p = ((i : Int), (j : Int))) := by
    intro m hm p hp
    obtain ⟨i, j, hij, hj, -, rfl⟩ := (pairsI_mem hok p).1 (hm.1.mem_iff.2 hp)
    exact ⟨i, j, hij, hj, rfl⟩
  have hpairs := hid (pairs_c w d cap l hrow hok hn)
  have hlen : Hid ((pairsI (visitT l)).length ≤ 1048576 * 1048576) := by
    have h1 := pairsI_len hok (tr := visitT l) (rest := []) (by simp)
    have hsq : l.length * l.length ≤ 1048576 * 1048576 := Nat.mul_le_mul hn hn
    show _ ≤ _
    omega
  clear hrow hok
  have hrun : ∀ w, Sem.run Try.prog (binOp BinOp.neq 102 (.func (.func fn) #[] caps) Value.nilFunc) w = .ok (.bool true) w := fun w => by kernel_rfl
  have Hal := hid hal
  clear hal
  go_enter Try.func26, Try.ntmps26
  go_wp2_with fail
  refine hpairs.out.mono ?_
  rintro e w2 ⟨s, m, rfl, hperm, hsorted, hown, hb2⟩
  have hml : m.length ≤ 1048576 * 1048576 := by have := hlen.out; rw [hperm.length_eq] at this; exact this
  have Hok : Hid (PairsOk l m) := ⟨hperm, hsorted⟩
  obtain ⟨ad, c, rfl, _⟩ := own_slice hown
  have Hrow := hid (own_row hown (fun _ _ => rfl) rfl)
  have Hb2 := hid hb2
  clear hperm hsorted hown hb2 hpairs hlen
  go_wp2_with fail
  go_loopw [6, 7, 13] (fun f s i wr => ∃ k : Nat, k ≤ m.length ∧ i = .int .i64 k ∧ ∃ q : Int × Int, f = .int .i64 q.1 ∧ s = .int .i64 q.2 ∧ Hid (firstF al (m.take k) = q ∧ Below w2.heap.size w2 wr)) (fun _ _ i _ => m.length - (intOf i).toNat)
  case atStart => exact ⟨0, Nat.zero_le _, rfl, (-1, -1), rfl, rfl, rfl, Below.refl _ _⟩
  case round =>
    obtain ⟨k, hkn, rfl, q, rfl, rfl, hI⟩ := hrel
    by_cases hlt : k < m.length
    · obtain ⟨b, o, rfl, hb0, g0, g1⟩ := (Hrow.out.below hI.out.2).pr hlt
      have hnx : firstF al (m.take (k + 1)) = firstStep al q m[k] := by
        rw [List.take_add_one, List.getElem?_eq_getElem hlt, Option.toList_some, firstF_snoc, hI.out.1]
      have Hb := hid (hI.out.2.trans ((below_new wr (.cells #[.int .i64 m[k].1, .int .i64 m[k].2] 105)).mono hI.out.2.size))
      obtain ⟨i', j', hij, hjl, hpe⟩ := hmem.out m Hok.out m[k] (List.getElem_mem hlt)
      have hcall := fun W (hW : Below w.heap.size w W) => Hal.out W i' j' hW hij hjl
      rw [hpe] at g0 g1 hnx Hb
      obtain ⟨p1, hp1⟩ : ∃ p1, (i' : Int) = p1 := ⟨_, rfl⟩
      obtain ⟨p2, hp2⟩ : ∃ p2, (j' : Int) = p2 := ⟨_, rfl⟩
      rw [hp1, hp2] at g0 g1 hnx Hb hcall
      obtain ⟨q1, q2⟩ := q
      have Hcall := hid hcall
      unfold firstStep at hnx
      simp only at g0 g1 hnx Hb
      clear hI hpe hp1 hp2 hcall hij hjl
      go_wp2_with fail
      have hW := Hb2.out.trans (Hb.out.mono Hb2.out.size)
      refine (Hcall.out _ hW).mono ?_
      rintro e w5 ⟨rfl, hb5⟩
      have hbx := heap_keep (heap_new wr (.cells #[.int .i64 p1, .int .i64 p2] 105)) hb5
      have x0 := cell_of_heap (i := 0) hbx rfl
      have x1 := cell_of_heap (i := 1) hbx rfl
      have xl := lt_of_block hbx
      have Hb5 := hid (Hb.out.trans (hb5.mono Hb.out.size))
      clear hb5 hbx hW g0 g1 Hcall hrun henter
      by_cases ca : al p1 p2 = true
      · rw [if_pos ca] at hnx
        have Hnx := hid hnx
        rw [ca]
        clear hnx ca
        go_wp2
        exact ⟨⟨k + 1, by omega, by go_num, (q1, q2), rfl, rfl, Hnx.out, Hb5.out⟩, by simp [intOf]; omega⟩
      rw [if_neg ca] at hnx
      have caf : al p1 p2 = false := by simpa using ca
      rw [caf]
      clear ca caf
      by_cases c1 : q2 < 0
      · rw [if_pos (.inl c1)] at hnx
        have Hnx := hid hnx
        clear hnx
        go_wp2_with fail
        go_quiet (fail)
        go_wp2
        exact ⟨⟨k + 1, by omega, by go_num, (p1, p2), rfl, rfl, Hnx.out, below_drewN Hb5.out _⟩, by simp [intOf]; omega⟩
      · by_cases c2 : p2 < q2
        · rw [if_pos (.inr c2)] at hnx
          have Hnx := hid hnx
          clear hnx
          go_wp2_with fail
          go_quiet (fail)
          go_wp2
          exact ⟨⟨k + 1, by omega, by go_num, (p1, p2), rfl, rfl, Hnx.out, below_drewN Hb5.out _⟩, by simp [intOf]; omega⟩
        · rw [if_neg (by omega)] at hnx
          have Hnx := hid hnx
          clear hnx
          go_wp2
          exact ⟨⟨k + 1, by omega, by go_num, (q1, q2), rfl, rfl, Hnx.out, Hb5.out⟩, by simp [intOf]; omega⟩
    · have hke : k = m.length := by omega
      subst hke
      obtain ⟨hf, hb⟩ := hI.out
      rw [List.take_length] at hf
      have Hf := hid hf
      have Hb := hid (Hb2.out.trans (hb.mono Hb2.out.size))
      clear hf hb hI
      go_wp2
      go_ret2
      exact ⟨m, Hok.out, by rw [Hf.out]; rfl, Hb.out⟩
end Go.Proofs.Ytmoignbaphddeaa
namespace Go.Proofs.Ytmoignbaphddeaa
open Go.RowKit

/-- what sweep.Gaps keeps -/
structure GSt where
  next : Int
  full : Bool
  out : List Spn
def gAdd (en : Int) (st : GSt) : GSt := if st.full = false ∧ st.next < en then { st with out := st.out ++ [⟨st.next, en - st.next⟩] } else st
def gVis (total : Int) (st : GSt) (x : Itm) : GSt :=
  if x.last = 18446744073709551615 then { gAdd (min x.lo total) st with full := true } else { gAdd (min x.lo total) st with next := max (gAdd (min x.lo total) st).next (x.last + 1) }
def gFold (total : Int) (l : List Itm) : GSt := l.foldl (gVis total) ⟨0, false, []⟩
def gEnd (total : Int) (l : List Itm) : List Spn := (gAdd total (gFold total l)).out
theorem gAdd_len (en : Int) (st : GSt) : (gAdd en st).out.length ≤ st.out.length + 1 := by
  unfold gAdd; split <;> simp
theorem gAdd_next (en : Int) (st : GSt) : (gAdd en st).next = st.next := by unfold gAdd; split <;> rfl
theorem gAdd_full (en : Int) (st : GSt) : (gAdd en st).full = st.full := by unfold gAdd; split <;> rfl
theorem gVis_len (total : Int) (st : GSt) (x : Itm) : (gVis total st x).out.length ≤ st.out.length + 1 := by
  unfold gVis; split <;> exact gAdd_len _ _
theorem gFold_snoc (total : Int) (l : List Itm) (x : Itm) : gFold total (l ++ [x]) = gVis total (gFold total l) x := by simp [gFold]
theorem gFold_len (total : Int) (l : List Itm) : (gFold total l).out.length ≤ l.length := by
  refine snoc_ind (P := fun l => (gFold total l).out.length ≤ l.length) (Nat.le_refl 0) (fun l x ih => ?_) l
  rw [gFold_snoc, List.length_append]
  have := gVis_len total (gFold total l) x
  simp only [List.length_singleton]
  omega

theorem infoSpn : (Try.prog.info? 75).map (fun i => (i.zero, i.size, i.bytes)) = some (some (.agg #[.int .u64 0, .int .u64 0]), 2, 16) := by kernel_rfl

/-- .. in memory -/
structure GAt (H : Nat) (total : Int) (st : GSt) (s : Value) (W : World) : Prop where
  tb : W.heap[H]? = some (.cells #[.int .u64 total] 22 (0, 0))
  ob : W.heap[H + 1]? = some (.cells #[s] 68 (0, 0))
  own : W.ownsRow H 75 2 s st.out.length (st.out.flatMap encSpn)
  nb : W.heap[H + 2]? = some (.cells #[.int .u64 st.next] 22 (0, 0))
  fb : W.heap[H + 3]? = some (.cells #[.bool st.full] 4 (0, 0))
  ab : W.heap[H + 4]? = some (.cells #[.func (.func 49) #[] #[.pointer (some ⟨H + 3, 0, none⟩), .pointer (some ⟨H + 2, 0, none⟩), .pointer (some ⟨H + 1, 0, none⟩)]] 107 (0, 0))
  nx : 0 ≤ st.next ∧ st.next ≤ 18446744073709551615
theorem GAt.qstep {W W' : World} {H : Nat} {total : Int} {st : GSt} {s : Value} (h : GAt H total st s W) (hq : QStep W W') : GAt H total st s W' :=
  ⟨hq.keep _ _ _ _ h.tb (by decide) (by decide), hq.keep _ _ _ _ h.ob (by decide) (by decide), own_qstep hq h.own (by decide) (by decide), hq.keep _ _ _ _ h.nb (by decide) (by decide), hq.keep _ _ _ _ h.fb (by decide) (by decide), hq.keep _ _ _ _ h.ab (by decide) (by decide), h.nx⟩
theorem GAt.below {W W' : World} {H : Nat} {total : Int} {st : GSt} {s : Value} (h : GAt H total st s W) (hb : Below W.heap.size W W') : GAt H total st s W' := h.qstep (QStep.below hb)

theorem GrS.keptE {S : Nat → Prop} {W W' : World} {e0 : TypeId} (hg : GrS S W W') (hS : ∀ k, S k → ∃ cur e f, W.heap[k]? = some (Obj.cells cur e f) ∧ e ≠ e0) : KeptE e0 W W' := by
  intro g cur f hh
  refine hg.heap hh fun hk => ?_
  obtain ⟨cur', e', f', h1, h2⟩ := hS g hk
  rw [hh] at h1
  simp only [Option.some.injEq, Obj.cells.injEq] at h1
  exact h2 h1.2.1.symm
theorem own_cells {W : World} {base n size : Nat} {e : TypeId} {s : Value} {xs : List Value} (h : W.ownsRow base e size s n xs) {k : Nat} (hk : s.ownBlock = some k) : base ≤ k ∧ ∃ cur f, W.heap[k]? = some (Obj.cells cur e f) := by
  rcases h.2 with ⟨rfl, _⟩ | ⟨g', cap', cur, rfl, hb, hgg, _⟩
  · cases hk
  · simp only [Value.ownBlock, Option.some.injEq] at hk
    subst hk
    exact ⟨hb, _, _, hgg⟩

/-- behind an append and the store of the row -/
theorem GAt.pushed {W W' : World} {H : Nat} {total : Int} {st : GSt} {s s' : Value} {p : Spn} (h : GAt H total st s W) (ho : W'.ownsRow H 75 2 s' (st.out.length + 1) (st.out.flatMap encSpn ++ encSpn p)) (hg : W.grownBy W' s.ownBlock) :
    GAt H total { st with out := st.out ++ [p] } s' (W'.setCell ⟨H + 1, 0, none⟩ s') ∧ GrS (fun k => some k = s.ownBlock ∨ k = H + 1) W (W'.setCell ⟨H + 1, 0, none⟩ s') := by
  have hbox : W'.heap[H + 1]? = some (.cells #[s] 68 (0, 0)) := KeptE.grown (e := 68) h.own hg (by decide) _ _ _ h.ob
  have hne : ∀ k, s'.ownBlock = some k → k ≠ H + 1 := by
    rintro k hk rfl
    obtain ⟨_, cur, f, hc⟩ := own_cells ho hk
    rw [hbox] at hc
    simp only [Option.some.injEq, Obj.cells.injEq] at hc
    exact absurd hc.2.1 (by decide)
  have hset := GrS.set (S := fun k => k = H + 1) W' (H + 1) 0 s' rfl
  have hgs : GrS (fun k => some k = s.ownBlock ∨ k = H + 1) W (W'.setCell ⟨H + 1, 0, none⟩ s') := (GrS.grown hg fun k hk => .inl hk.symm).trans (hset.mono fun k hk => .inr hk)
  have hk : ∀ e0 : TypeId, e0 ≠ 75 → e0 ≠ 68 → KeptE e0 W (W'.setCell ⟨H + 1, 0, none⟩ s') := by
    intro e0 h1 h2
    refine hgs.keptE fun k hk => ?_
    rcases hk with hk | rfl
    · obtain ⟨_, cur, f, hc⟩ := own_cells h.own hk.symm
      exact ⟨cur, _, f, hc, fun e => h1 e.symm⟩
    · exact ⟨_, _, _, h.ob, fun e => h2 e.symm⟩
  refine ⟨⟨hk _ (by decide) (by decide) _ _ _ h.tb, ?_, ?_, hk _ (by decide) (by decide) _ _ _ h.nb, hk _ (by decide) (by decide) _ _ _ h.fb, hk _ (by decide) (by decide) _ _ _ h.ab, h.nx⟩, hgs⟩
  · have := heap_setCell_same W' (H + 1) 0 _ 68 s' hbox
    simpa using this
  · have h2 := hset.row ho hne
    simp only [List.length_append, List.flatMap_append]
    simpa using h2

/-- what the closures do to the rest -/
def GDid (H : Nat) (W W' : World) : Prop := KeptE 110 W W' ∧ KeptE 129 W W' ∧ Below H W W'
theorem GDid.trans {H : Nat} {W W1 W2 : World} (h : GDid H W W1) (k : GDid H W1 W2) : GDid H W W2 := ⟨h.1.trans k.1, h.2.1.trans k.2.1, h.2.2.trans k.2.2⟩
theorem GDid.below {H : Nat} {W W' : World} (hb : Below W.heap.size W W') (hH : H ≤ W.heap.size) : GDid H W W' := ⟨KeptE.below hb, KeptE.below hb, hb.mono hH⟩
theorem GAt.did {W W' : World} {H : Nat} {total : Int} {st : GSt} {s : Value} (h : GAt H total st s W) (hg : GrS (fun k => some k = s.ownBlock ∨ k = H + 1 ∨ k = H + 2 ∨ k = H + 3) W W') : GDid H W W' := by
  have hS : ∀ e0 : TypeId, e0 ≠ 75 → e0 ≠ 68 → e0 ≠ 22 → e0 ≠ 4 → KeptE e0 W W' := by
    intro e0 h1 h2 h3 h4
    refine hg.keptE fun k hk => ?_
    rcases hk with hk | rfl | rfl | rfl
    · obtain ⟨_, cur, f, hc⟩ := own_cells h.own hk.symm
      exact ⟨cur, _, f, hc, fun e => h1 e.symm⟩
    · exact ⟨_, _, _, h.ob, fun e => h2 e.symm⟩
    · exact ⟨_, _, _, h.nb, fun e => h3 e.symm⟩
    · exact ⟨_, _, _, h.fb, fun e => h4 e.symm⟩
  refine ⟨hS _ (by decide) (by decide) (by decide) (by decide), hS _ (by decide) (by decide) (by decide) (by decide), hg.toBelow (fun k hk => ?_) (Nat.le_of_lt (lt_of_block h.tb))⟩
  rcases hk with hk | rfl | rfl | rfl
  · exact (own_cells h.own hk.symm).1
  · omega
  · omega
  · omega

set_option maxHeartbeats 4000000 in
set_option maxRecDepth 20000 in
theorem gaps1_c (w : World) (H : Nat) (total : Int) (st : GSt) (s : Value) (h : GAt H total st s w) (en : Int) (he : 0 ≤ en ∧ en ≤ 18446744073709551615) (hn : (st.out.length + 1) * 16 ≤ 140737488355328) :
    Calls Try.prog 49 #[.int .u64 en, .pointer (some ⟨H + 3, 0, none⟩), .pointer (some ⟨H + 2, 0, none⟩), .pointer (some ⟨H + 1, 0, none⟩)] w fun e w' => (∃ v, e = .returned v) ∧ (∃ s', GAt H total (gAdd en st) s' w') ∧ GDid H w w' := by
  have hHw : H ≤ w.heap.size := Nat.le_of_lt (lt_of_block h.tb)
  obtain ⟨ad, cap, rfl, hcap⟩ := own_slice h.own
  have f0 := cell_of_heap (i := 0) h.fb rfl
  have n0 := cell_of_heap (i := 0) h.nb rfl
  have o0 := cell_of_heap (i := 0) h.ob rfl
  have fl := lt_of_block h.fb
  have nl := lt_of_block h.nb
  have ol := lt_of_block h.ob
  have hnx := h.nx
  have Hh := hid h
  unfold gAdd
  clear h
  obtain ⟨nx, fu, out⟩ := st
  simp only at f0 n0 o0 hnx hn Hh ⊢
  cases fu
  · by_cases hlt : nx < en
    · rw [if_pos ⟨rfl, hlt⟩]
      have hsub : 0 ≤ en - nx ∧ en - nx ≤ 18446744073709551615 := by omega
      go_enter Try.func49, Try.ntmps49
      go_wp2_with (at_builtin; refine stop ?_)
      refine go_on ?_
      refine wp_append_lit rfl _ _ 68 75 rfl (z := .agg #[.int .u64 0, .int .u64 0]) (size := 2) (bytes := 16) Try.underlying68 infoSpn rfl (by decide) w H _ out.length _ (encSpn ⟨nx, en - nx⟩) 1 rfl rfl (by exact Hh.out.own) rfl (by simp [encSpn, Value.oneCell']) (by omega) (by omega) hHw ?_
      intro v' w' hown' hg _
      obtain ⟨ad', c', rfl, _⟩ := own_slice hown'
      have hbx : w'.heap[H + 1]? = some (.cells #[.slice ad out.length cap] 68 (0, 0)) := KeptE.grown (e := 68) Hh.out.own hg (by decide) _ _ _ Hh.out.ob
      have r0 := cell_of_heap (i := 0) hbx rfl
      have r1 := free_of_heap (i := 0) hbx
      have hfin := Hh.out.pushed hown' hg
      have hdid := hid (Hh.out.did (hfin.2.mono fun k hk => by rcases hk with hk | hk <;> simp [hk]))
      have Hfin := hid hfin.1
      clear hown' hg hbx hfin f0 n0 o0 fl nl ol
      go_wp2
      go_end0
      exact ⟨⟨_, rfl⟩, ⟨_, Hfin.out⟩, hdid.out⟩
    · rw [if_neg (fun h => hlt h.2)]
      go_enter Try.func49, Try.ntmps49
      go_wp2
      go_end0
      exact ⟨⟨_, rfl⟩, ⟨_, Hh.out⟩, GDid.below (Below.refl _ _) hHw⟩
  · rw [if_neg (fun h => by cases h.1)]
    go_enter Try.func49, Try.ntmps49
    go_wp2
    go_end0
    exact ⟨⟨_, rfl⟩, ⟨_, Hh.out⟩, GDid.below (Below.refl _ _) hHw⟩
end Go.Proofs.Ytmoignbaphddeaa
namespace Go.Proofs.Ytmoignbaphddeaa
open Go.RowKit

theorem GAt.full {W : World} {H : Nat} {total : Int} {st : GSt} {s : Value} (h : GAt H total st s W) (b : Bool) : GAt H total { st with full := b } s (W.setCell ⟨H + 3, 0, none⟩ (.bool b)) ∧ GDid H W (W.setCell ⟨H + 3, 0, none⟩ (.bool b)) := by
  have hset := GrS.set (S := fun k => k = H + 3) W (H + 3) 0 (.bool b) rfl
  have hd := h.did (hset.mono fun k hk => .inr (.inr (.inr hk)))
  have hne : ∀ k, s.ownBlock = some k → ¬ k = H + 3 := by
    rintro k hk rfl
    obtain ⟨_, cur, f, hc⟩ := own_cells h.own hk
    rw [h.fb] at hc
    simp only [Option.some.injEq, Obj.cells.injEq] at hc
    exact absurd hc.2.1 (by decide)
  refine ⟨⟨hset.heap h.tb (by omega), hset.heap h.ob (by omega), hset.row h.own hne, hset.heap h.nb (by omega), ?_, hset.heap h.ab (by omega), h.nx⟩, hd⟩
  have := heap_setCell_same W (H + 3) 0 _ 4 (.bool b) h.fb
  simpa using this
theorem GAt.nextTo {W : World} {H : Nat} {total : Int} {st : GSt} {s : Value} (h : GAt H total st s W) (n : Int) (hn : 0 ≤ n ∧ n ≤ 18446744073709551615) : GAt H total { st with next := n } s (W.setCell ⟨H + 2, 0, none⟩ (.int .u64 n)) ∧ GDid H W (W.setCell ⟨H + 2, 0, none⟩ (.int .u64 n)) := by
  have hset := GrS.set (S := fun k => k = H + 2) W (H + 2) 0 (.int .u64 n) rfl
  have hd := h.did (hset.mono fun k hk => .inr (.inr (.inl hk)))
  have hne : ∀ k, s.ownBlock = some k → ¬ k = H + 2 := by
    rintro k hk rfl
    obtain ⟨_, cur, f, hc⟩ := own_cells h.own hk
    rw [h.nb] at hc
    simp only [Option.some.injEq, Obj.cells.injEq] at hc
    exact absurd hc.2.1 (by decide)
  refine ⟨⟨hset.heap h.tb (by omega), hset.heap h.ob (by omega), hset.row h.own hne, ?_, hset.heap h.fb (by omega), hset.heap h.ab (by omega), hn⟩, hd⟩
  have := heap_setCell_same W (H + 2) 0 _ 22 (.int .u64 n) h.nb
  simpa using this

set_option maxHeartbeats 4000000 in
set_option maxRecDepth 20000 in
theorem gaps2_c (w : World) (H : Nat) (total : Int) (ht : 0 ≤ total ∧ total ≤ 18446744073709551615) (st : GSt) (h : ∃ s, GAt H total st s w) (x : Itm) (hx : x.ok) (v : Value) (hn : (st.out.length + 1) * 16 ≤ 140737488355328) :
    Calls Try.prog 51 #[itV x, v, .pointer (some ⟨H + 4, 0, none⟩), .pointer (some ⟨H, 0, none⟩), .pointer (some ⟨H + 3, 0, none⟩), .pointer (some ⟨H + 2, 0, none⟩)] w fun e w' => (∃ v, e = .returned v) ∧ (∃ s', GAt H total (gVis total st x) s' w') ∧ GDid H w w' := by
  obtain ⟨s, h⟩ := h
  have hHw : H ≤ w.heap.size := Nat.le_of_lt (lt_of_block h.tb)
  have hx' := hx
  obtain ⟨u0, u1, u2, u3⟩ := hx'
  have hmin : 0 ≤ min x.lo total ∧ min x.lo total ≤ 18446744073709551615 := by omega
  have a0 := cell_of_heap (i := 0) h.ab rfl
  have t0 := cell_of_heap (i := 0) h.tb rfl
  have al := lt_of_block h.ab
  have tl := lt_of_block h.tb
  have hcall := hid (gaps1_c (w.alloc (.cells #[.int .u64 x.lo, .int .u64 x.len, .int .i64 x.idx] 110)) H total st s (h.below (below_new _ _)) (min x.lo total) hmin hn)
  have hdid0 := hid (GDid.below (H := H) (below_new w (.cells #[.int .u64 x.lo, .int .u64 x.len, .int .i64 x.idx] 110)) hHw)
  have hxl := hid hx
  have hnx := h.nx
  obtain ⟨mi, hmi⟩ : ∃ mi, min x.lo total = mi := ⟨_, rfl⟩
  unfold itV gVis
  rw [hmi] at hcall ⊢
  obtain ⟨s1, hs1⟩ : ∃ s1, gAdd mi st = s1 := ⟨_, rfl⟩
  rw [hs1] at hcall ⊢
  have hlast : 0 ≤ x.last ∧ x.last ≤ 18446744073709551615 := by unfold Itm.last; omega
  obtain ⟨yl, hyl⟩ : ∃ yl, x.last = yl := ⟨_, rfl⟩
  have hsp := hid (fun W => spanLast_c W x hx)
  rw [hyl] at hsp hlast ⊢
  obtain ⟨sf, hsf⟩ : ∃ sf, (if yl = 18446744073709551615 then { s1 with full := true } else { s1 with next := max s1.next (yl + 1) } : GSt) = sf := ⟨_, rfl⟩
  rw [hsf]
  have Hsf := hid hsf
  clear h hs1 hyl hx hsf
  go_enter Try.func51, Try.ntmps51
  go_wp2_with fail
  refine hcall.out.mono ?_
  rintro e w2 ⟨⟨v2, rfl⟩, ⟨s2, hg2⟩, hd2⟩
  have hxb := hd2.1 _ _ _ (heap_new w (.cells #[.int .u64 x.lo, .int .u64 x.len, .int .i64 x.idx] 110))
  have x0 := cell_of_heap (i := 0) hxb rfl
  have x1 := cell_of_heap (i := 1) hxb rfl
  have xl := lt_of_block hxb
  have Hg2 := hid hg2
  have Hd2 := hid (hdid0.out.trans hd2)
  clear hg2 hd2 hxb a0 t0 al tl hcall hdid0
  go_wp2_with fail
  refine (hsp.out _).mono ?_
  rintro e w3 ⟨rfl, hb3⟩
  have Hg3 := hid (Hg2.out.below hb3)
  have Hd3 := hid (Hd2.out.trans (GDid.below hb3 (Nat.le_of_lt (lt_of_block Hg2.out.tb))))
  have n0 := cell_of_heap (i := 0) Hg3.out.nb rfl
  have n1 := free_of_heap (i := 0) Hg3.out.nb
  have f0 := cell_of_heap (i := 0) Hg3.out.fb rfl
  have f1 := free_of_heap (i := 0) Hg3.out.fb
  clear x0 x1 xl hb3 hmi
  by_cases hy : yl = 18446744073709551615
  · have hfs := Hsf.out
    rw [if_pos hy] at hfs
    subst hy
    have hfin0 := Hg3.out.full true
    rw [hfs] at hfin0
    have hfin := hid hfin0
    clear hfs hfin0
    clear n0 n1
    go_wp2
    go_end0
    exact ⟨⟨_, rfl⟩, ⟨_, hfin.out.1⟩, Hd3.out.trans hfin.out.2⟩
  · have hfs := Hsf.out
    rw [if_neg hy] at hfs
    have hyb : (yl == 18446744073709551615) = false := by simpa using hy
    have hl2 : 0 ≤ yl + 1 ∧ yl + 1 ≤ 18446744073709551615 := by omega
    have hnx3 := Hg3.out.nx
    have hfin0 := Hg3.out.nextTo (max s1.next (yl + 1)) (by omega)
    rw [hfs] at hfin0
    have hfin := hid hfin0
    clear f0 f1 hnx3 hfs hfin0
    go_wp2
    go_end0
    exact ⟨⟨_, rfl⟩, ⟨_, hfin.out.1⟩, Hd3.out.trans hfin.out.2⟩

theorem gaps_passes {l : List Spn} (hok : ∀ s ∈ l, s.ok) (hn : l.length ≤ 1048576) (H : Nat) (total : Int) (ht : 0 ≤ total ∧ total ≤ 18446744073709551615) :
    Passes (visitT l) H 51 #[.pointer (some ⟨H + 4, 0, none⟩), .pointer (some ⟨H, 0, none⟩), .pointer (some ⟨H + 3, 0, none⟩), .pointer (some ⟨H + 2, 0, none⟩)] (fun tr W => ∃ s, GAt H total (gFold total (tr.map Prod.fst)) s W) := by
  refine ⟨enters_of Try.func51 (by kernel_rfl) rfl, ?_, ?_⟩
  · rintro tr W W' ⟨s, h⟩ hq
    exact ⟨s, h.qstep hq⟩
  · rintro tr W x o ad cap ⟨rest, hT⟩ hI hB hx hoo - hrow
    have hv := visitT_visits hok
    have hlen : (visitT l).length = l.length := by
      have := hv.perm.length_eq
      simpa [itsA_size] using this
    have h1 := gFold_len total (tr.map Prod.fst)
    rw [List.length_map] at h1
    have h2 : tr.length ≤ l.length := by rw [← hlen, ← hT, List.length_append]; omega
    have := gaps2_c W H total ht _ hI x hx (.slice ad o.size cap) (by omega)
    rw [List.map_append, List.map_cons, List.map_nil, gFold_snoc]
    refine Calls.mono this ?_
    rintro e w' ⟨hv, hs, hd⟩
    exact ⟨hv, hs, hd.1, hd.2.1, hd.2.2⟩

set_option maxHeartbeats 4000000 in
set_option maxRecDepth 20000 in
theorem gaps_c (w : World) (total : Int) (ht : 0 ≤ total ∧ total ≤ 18446744073709551615) (d : Option Addr) (cap : Nat) (l : List Spn) (hrow : RowAt 2 encSpn w d l) (hok : ∀ s ∈ l, s.ok) (hn : l.length ≤ 1048576) :
    Calls Try.prog 32 #[.int .u64 total, .slice d l.length cap] w fun e w' => ∃ s, e = .returned s ∧ w'.ownsRow w.heap.size 75 2 s (gEnd total ((visitT l).map Prod.fst)).length ((gEnd total ((visitT l).map Prod.fst)).flatMap encSpn) ∧ Below w.heap.size w w' := by
  have hvis := hid (fun W (cp : Nat) (hr : RowAt 2 encSpn W d l) (hB : w.heap.size ≤ W.heap.size) (hI : ∃ s, GAt w.heap.size total (gFold total (([] : List (Itm × Array Itm)).map Prod.fst)) s W) =>
    visit_c W d cp l hr hok (by omega) 51 #[.pointer (some ⟨w.heap.size + 4, 0, none⟩), .pointer (some ⟨w.heap.size, 0, none⟩), .pointer (some ⟨w.heap.size + 3, 0, none⟩), .pointer (some ⟨w.heap.size + 2, 0, none⟩)] w.heap.size hB _ (gaps_passes hok hn w.heap.size total ht) hI)
  have Hrow := hid hrow
  have hbig : Hid (((gFold total ((visitT l).map Prod.fst)).out.length + 1) * 16 ≤ 140737488355328) := by
    have h1 := gFold_len total ((visitT l).map Prod.fst)
    have hlen : (visitT l).length = l.length := by
      have := (visitT_visits hok).perm.length_eq
      simpa [itsA_size] using this
    rw [List.length_map, hlen] at h1
    show _ ≤ _
    omega
  clear hrow
  go_enter Try.func32, Try.ntmps32
  go_wp2_with fail
  have hbA := hid (((((below_new w (.cells #[.int .u64 total] 22)).alloc (by simp) (.cells #[.slice none 0 0] 68)).alloc (by simp; omega) (.cells #[.int .u64 0] 22)).alloc (by simp; omega) (.cells #[.bool false] 4)).alloc (by simp; omega) (.cells #[.func (.func 49) #[] #[.pointer (some ⟨w.heap.size + 1 + 1 + 1, 0, none⟩), .pointer (some ⟨w.heap.size + 1 + 1, 0, none⟩), .pointer (some ⟨w.heap.size + 1, 0, none⟩)]] 107))
  refine (hvis.out _ _ (Hrow.out.below hbA.out) (by have := hbA.out.size; exact this) ?_).mono ?_
  · refine ⟨.slice none 0 0, ?_, ?_, World.ownsRow_nil _ _ _ _, ?_, ?_, ?_, ?_⟩
    · repeat (first | (refine heap_at ?_; simp; done) | refine heap_alloc' ?_ _)
    · repeat (first | (refine heap_at ?_; simp; done) | refine heap_alloc' ?_ _)
    · repeat (first | (refine heap_at ?_; simp; done) | refine heap_alloc' ?_ _)
    · repeat (first | (refine heap_at ?_; simp; done) | refine heap_alloc' ?_ _)
    · repeat (first | (refine heap_at ?_; simp; done) | refine heap_alloc' ?_ _)
    · exact ⟨Int.le_refl _, by show (0 : Int) ≤ 18446744073709551615; decide⟩
  rintro e w2 ⟨⟨v, rfl⟩, hI, hb2⟩
  obtain ⟨G, hG⟩ : ∃ G, gFold total ((visitT l).map Prod.fst) = G := ⟨_, rfl⟩
  have hge : gEnd total ((visitT l).map Prod.fst) = (gAdd total G).out := by unfold gEnd; rw [hG]
  have hI' : ∃ s, GAt w.heap.size total G s w2 := by rw [← hG]; exact hI
  obtain ⟨s, hg⟩ := hI'
  rw [hG] at hbig
  have Hge := hid hge
  have Hg := hid hg
  have Hb2 := hid (hbA.out.trans hb2)
  have t0 := cell_of_heap (i := 0) hg.tb rfl
  have a0 := cell_of_heap (i := 0) hg.ab rfl
  have al := lt_of_block hg.ab
  have tl := lt_of_block hg.tb
  have hadd := hid (gaps1_c w2 w.heap.size total G s hg total ht hbig.out)
  clear hvis Hrow hI hb2 hG hge hg hbA
  go_wp2_with fail
  refine hadd.out.mono ?_
  rintro e w3 ⟨⟨v3, rfl⟩, ⟨s3, hg3⟩, hd3⟩
  obtain ⟨ad, c, rfl, _⟩ := own_slice hg3.own
  have o0 := cell_of_heap (i := 0) hg3.ob rfl
  have ol := lt_of_block hg3.ob
  have Hown := hid hg3.own
  have Hb3 := hid (Hb2.out.trans hd3.2.2)
  clear hg3 hd3 t0 a0 al tl hadd Hg Hb2
  go_wp2
  go_ret
  exact ⟨_, rfl, by rw [Hge.out]; exact Hown.out, Hb3.out⟩
end Go.Proofs.Ytmoignbaphddeaa
