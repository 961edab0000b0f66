/- contracts of library functions at this program, as the tools of the kit (lay-shelf.mjs, lay-plain.mjs) lay them -/
import Derived.Ground.SlsfProg
import Derived.Shelf.SlSortCmp.InsertionK
import Derived.Shelf.SlSortCmp.SiftDownK
import Derived.Shelf.SlSortCmp.HeapSortK
import Derived.Shelf.SlSortCmp.MedianK
import Derived.Shelf.SlSortCmp.PivotK
import Derived.Shelf.SlSortCmp.ReverseRangeK
import Derived.Shelf.SlSortCmp.PartialInsertionK
import Derived.Shelf.SlSortCmp.PartitionEqualK
import Derived.Shelf.SlSortCmp.PartitionK
import Derived.Shelf.SlSortCmp.PdqK
import Derived.Shelf.SlSortCmp.WholeK
import Derived.Shelf.SlSortCmp.NoneTotal
import Derived.Test.YtlccbejhamkdoaaChecked
namespace Go.Proofs
open Go.Shelf
def Try.laysSlF020_f107_ren : Go.Shelf.Ren := ⟨fun | 20 => 107 | n => n, fun | 24 => 91 | 22 => 24 | 3 => 3 | 25 => 123 | 4 => 4 | 0 => 0 | n => n, fun | n => n⟩
theorem Try.laysSlF020_f107 : Go.Proofs.SlLaysF0.n20 Try.prog Try.laysSlF020_f107_ren := {
  mixed := by kernel_rfl
  f20 := ⟨Try.f107.name, by decide, Try.func107.trans (congrArg some (by kernel_rfl))⟩
  t0 := Try.underlying0
  a0 := Try.isAgg0
  z0 := Try.sizeOf0
  v0 := Try.zeroValue0
  t3 := Try.underlying3
  a3 := Try.isAgg3
  z3 := Try.sizeOf3
  v3 := Try.zeroValue3
  t4 := Try.underlying4
  a4 := Try.isAgg4
  z4 := Try.sizeOf4
  v4 := Try.zeroValue4
  t22 := Try.underlying24
  a22 := Try.isAgg24
  z22 := Try.sizeOf24
  v22 := Try.zeroValue24
  t25 := Try.underlying123
  a25 := Try.isAgg123
  z25 := Try.sizeOf123
  v25 := Try.zeroValue123 }
open Go.RowKit Go.Lib Go.Sort in
theorem Try.insertionSortCmpFunc {α : Type} [Inhabited α] (k : Nat) (aE : ∀ w, (isAgg 91).run Try.prog w = .ok true w) (zE : ∀ w, (Go.sizeOf 91).run Try.prog w = .ok k w) (enc : α → List Value) (hk : ∀ x, (enc x).length = k) (h1 : ∀ x, ∀ v ∈ enc x, v.oneCell' = true) (cf : α → α → Int) (g : Nat) (cb : Array Value) (blk off cap a b : Nat) (d : Array α) (w : World) (eg : ∀ args w, (callFunc g args).run Try.prog w = .ok (.enter g args) w) (hcmp : CmpLays Try.prog g cb enc k cf blk off d.size w) (hH : HoldsK enc k w blk off d) (hblk : blk < w.heap.size) (hab : a ≤ b) (hb : b ≤ d.size) (hsz : d.size < 4611686018427387904) :
    Calls Try.prog 107 #[.slice (some ⟨blk, off, none⟩) d.size cap, .int .i64 a, .int .i64 b, .func (.func g) #[] cb] w fun e w' =>
      e = .returned (.tuple #[]) ∧ ∃ n os, w' = sortWorldK enc k w blk off n (Sort.insertionSort (ltOf cf) d a b) os := AnyQ.insertionSortCmpFunc Try.laysSlF020_f107 k aE zE enc hk h1 cf g cb blk off cap a b d w eg hcmp hH hblk hab hb hsz
def Try.laysSlF046_f120_ren : Go.Shelf.Ren := ⟨fun | 46 => 120 | n => n, fun | 24 => 91 | 22 => 24 | 3 => 3 | 25 => 123 | 4 => 4 | 0 => 0 | n => n, fun | n => n⟩
theorem Try.laysSlF046_f120 : Go.Proofs.SlLaysF0.n46 Try.prog Try.laysSlF046_f120_ren := {
  mixed := by kernel_rfl
  f46 := ⟨Try.f120.name, by decide, Try.func120.trans (congrArg some (by kernel_rfl))⟩
  t0 := Try.underlying0
  a0 := Try.isAgg0
  z0 := Try.sizeOf0
  v0 := Try.zeroValue0
  t3 := Try.underlying3
  a3 := Try.isAgg3
  z3 := Try.sizeOf3
  v3 := Try.zeroValue3
  t4 := Try.underlying4
  a4 := Try.isAgg4
  z4 := Try.sizeOf4
  v4 := Try.zeroValue4
  t22 := Try.underlying24
  a22 := Try.isAgg24
  z22 := Try.sizeOf24
  v22 := Try.zeroValue24
  t25 := Try.underlying123
  a25 := Try.isAgg123
  z25 := Try.sizeOf123
  v25 := Try.zeroValue123 }
open Go.RowKit Go.Lib Go.Sort in
theorem Try.siftDownCmpFunc {α : Type} [Inhabited α] (k : Nat) (aE : ∀ w, (isAgg 91).run Try.prog w = .ok true w) (zE : ∀ w, (Go.sizeOf 91).run Try.prog w = .ok k w) (enc : α → List Value) (cf : α → α → Int) (g : Nat) (cb : Array Value) (blk off cap lo hi first : Nat) (d0 d : Array α) (w0 w : World) (eg : ∀ args w, (callFunc g args).run Try.prog w = .ok (.enter g args) w) (hcmp : CmpLays Try.prog g cb enc k cf blk off d0.size w0) (R : RowK enc k w0 blk off d0) (hs : d0.size = d.size) (S : SWK enc k w0 blk off d w) (hlo : lo ≤ hi) (hb : first + hi ≤ d.size) (hsz : d.size < 4611686018427387904) :
    Calls Try.prog 120 #[.slice (some ⟨blk, off, none⟩) d.size cap, .int .i64 lo, .int .i64 hi, .int .i64 first, .func (.func g) #[] cb] w fun e w' =>
      e = .returned (.tuple #[]) ∧ SWK enc k w0 blk off (siftDown (ltOf cf) hi first lo d) w' := AnyQ.siftDownCmpFunc Try.laysSlF046_f120 k aE zE enc cf g cb blk off cap lo hi first d0 d w0 w eg hcmp R hs S hlo hb hsz
def Try.laysSlF021_f108_ren : Go.Shelf.Ren := ⟨fun | 21 => 108 | 46 => 120 | n => n, fun | 24 => 91 | 22 => 24 | 3 => 3 | 25 => 123 | 4 => 4 | 0 => 0 | n => n, fun | n => n⟩
theorem Try.laysSlF021_f108 : Go.Proofs.SlLaysF0.n21 Try.prog Try.laysSlF021_f108_ren := {
  mixed := by kernel_rfl
  f21 := ⟨Try.f108.name, by decide, Try.func108.trans (congrArg some (by kernel_rfl))⟩
  f46 := ⟨Try.f120.name, by decide, Try.func120.trans (congrArg some (by kernel_rfl))⟩
  t0 := Try.underlying0
  a0 := Try.isAgg0
  z0 := Try.sizeOf0
  v0 := Try.zeroValue0
  t3 := Try.underlying3
  a3 := Try.isAgg3
  z3 := Try.sizeOf3
  v3 := Try.zeroValue3
  t4 := Try.underlying4
  a4 := Try.isAgg4
  z4 := Try.sizeOf4
  v4 := Try.zeroValue4
  t22 := Try.underlying24
  a22 := Try.isAgg24
  z22 := Try.sizeOf24
  v22 := Try.zeroValue24
  t25 := Try.underlying123
  a25 := Try.isAgg123
  z25 := Try.sizeOf123
  v25 := Try.zeroValue123 }
open Go.RowKit Go.Lib Go.Sort in
theorem Try.heapSortCmpFunc {α : Type} [Inhabited α] (k : Nat) (aE : ∀ w, (isAgg 91).run Try.prog w = .ok true w) (zE : ∀ w, (Go.sizeOf 91).run Try.prog w = .ok k w) (enc : α → List Value) (cf : α → α → Int) (g : Nat) (cb : Array Value) (blk off cap a b : Nat) (d0 d : Array α) (w0 w : World) (eg : ∀ args w, (callFunc g args).run Try.prog w = .ok (.enter g args) w) (hcmp : CmpLays Try.prog g cb enc k cf blk off d0.size w0) (R : RowK enc k w0 blk off d0) (hs : d0.size = d.size) (S : SWK enc k w0 blk off d w) (hab : a ≤ b) (hb : b ≤ d.size) (hsz : d.size < 4611686018427387904) :
    Calls Try.prog 108 #[.slice (some ⟨blk, off, none⟩) d.size cap, .int .i64 a, .int .i64 b, .func (.func g) #[] cb] w fun e w' =>
      e = .returned (.tuple #[]) ∧ SWK enc k w0 blk off (heapSort (ltOf cf) d a b) w' := AnyQ.heapSortCmpFunc Try.laysSlF021_f108 k aE zE enc cf g cb blk off cap a b d0 d w0 w eg hcmp R hs S hab hb hsz
def Try.laysSlF057_f125_ren : Go.Shelf.Ren := ⟨fun | 57 => 125 | n => n, fun | 24 => 91 | 22 => 24 | 3 => 3 | 70 => 160 | 25 => 123 | 0 => 0 | 4 => 4 | n => n, fun | n => n⟩
theorem Try.laysSlF057_f125 : Go.Proofs.SlLaysF0.n57 Try.prog Try.laysSlF057_f125_ren := {
  mixed := by kernel_rfl
  f57 := ⟨Try.f125.name, by decide, Try.func125.trans (congrArg some (by kernel_rfl))⟩
  t0 := Try.underlying0
  a0 := Try.isAgg0
  z0 := Try.sizeOf0
  v0 := Try.zeroValue0
  t3 := Try.underlying3
  a3 := Try.isAgg3
  z3 := Try.sizeOf3
  v3 := Try.zeroValue3
  t4 := Try.underlying4
  a4 := Try.isAgg4
  z4 := Try.sizeOf4
  v4 := Try.zeroValue4
  t22 := Try.underlying24
  a22 := Try.isAgg24
  z22 := Try.sizeOf24
  v22 := Try.zeroValue24
  t25 := Try.underlying123
  a25 := Try.isAgg123
  z25 := Try.sizeOf123
  v25 := Try.zeroValue123
  t70 := Try.underlying160
  a70 := Try.isAgg160
  z70 := Try.sizeOf160
  v70 := Try.zeroValue160 }
open Go.RowKit Go.Lib Go.Sort in
theorem Try.order2CmpFunc {α : Type} [Inhabited α] (k : Nat) (aE : ∀ w, (isAgg 91).run Try.prog w = .ok true w) (zE : ∀ w, (Go.sizeOf 91).run Try.prog w = .ok k w) (enc : α → List Value) (cf : α → α → Int) (g : Nat) (cb : Array Value) (blk off cap a b c s : Nat) (d0 d : Array α) (w0 W : World) (eg : ∀ args w, (callFunc g args).run Try.prog w = .ok (.enter g args) w) (hcmp : CmpLays Try.prog g cb enc k cf blk off d0.size w0) (R : RowK enc k w0 blk off d0) (hs : d0.size = d.size) (C : CntK enc k w0 blk off d c s W) (ha : a < d.size) (hb : b < d.size) (hsz : d.size < 4611686018427387904) (hss : s < 4611686018427387904) :
    Calls Try.prog 125 #[.slice (some ⟨blk, off, none⟩) d.size cap, .int .i64 a, .int .i64 b, .pointer (some ⟨c, 0, none⟩), .func (.func g) #[] cb] W fun e w' =>
      e = .returned (.tuple #[.int .i64 (order2 (ltOf cf) d a b s).1, .int .i64 (order2 (ltOf cf) d a b s).2.1]) ∧ CntK enc k w0 blk off d c (order2 (ltOf cf) d a b s).2.2 w' := AnyQ.order2CmpFunc Try.laysSlF057_f125 k aE zE enc cf g cb blk off cap a b c s d0 d w0 W eg hcmp R hs C ha hb hsz hss
def Try.laysSlF050_f124_ren : Go.Shelf.Ren := ⟨fun | 50 => 124 | 57 => 125 | n => n, fun | 24 => 91 | 22 => 24 | 3 => 3 | 70 => 160 | 25 => 123 | 77 => 163 | 0 => 0 | 4 => 4 | n => n, fun | n => n⟩
theorem Try.laysSlF050_f124 : Go.Proofs.SlLaysF0.n50 Try.prog Try.laysSlF050_f124_ren := {
  mixed := by kernel_rfl
  f50 := ⟨Try.f124.name, by decide, Try.func124.trans (congrArg some (by kernel_rfl))⟩
  f57 := ⟨Try.f125.name, by decide, Try.func125.trans (congrArg some (by kernel_rfl))⟩
  t0 := Try.underlying0
  a0 := Try.isAgg0
  z0 := Try.sizeOf0
  v0 := Try.zeroValue0
  t3 := Try.underlying3
  a3 := Try.isAgg3
  z3 := Try.sizeOf3
  v3 := Try.zeroValue3
  t4 := Try.underlying4
  a4 := Try.isAgg4
  z4 := Try.sizeOf4
  v4 := Try.zeroValue4
  t22 := Try.underlying24
  a22 := Try.isAgg24
  z22 := Try.sizeOf24
  v22 := Try.zeroValue24
  t25 := Try.underlying123
  a25 := Try.isAgg123
  z25 := Try.sizeOf123
  v25 := Try.zeroValue123
  t70 := Try.underlying160
  a70 := Try.isAgg160
  z70 := Try.sizeOf160
  v70 := Try.zeroValue160
  t77 := Try.underlying163
  a77 := Try.isAgg163
  z77 := Try.sizeOf163
  v77 := Try.zeroValue163 }
open Go.RowKit Go.Lib Go.Sort in
theorem Try.medianCmpFunc {α : Type} [Inhabited α] (k : Nat) (aE : ∀ w, (isAgg 91).run Try.prog w = .ok true w) (zE : ∀ w, (Go.sizeOf 91).run Try.prog w = .ok k w) (enc : α → List Value) (cf : α → α → Int) (g : Nat) (cb : Array Value) (blk off cap a b c' c s : Nat) (d0 d : Array α) (w0 W : World) (eg : ∀ args w, (callFunc g args).run Try.prog w = .ok (.enter g args) w) (hcmp : CmpLays Try.prog g cb enc k cf blk off d0.size w0) (R : RowK enc k w0 blk off d0) (hs : d0.size = d.size) (C : CntK enc k w0 blk off d c s W) (ha : a < d.size) (hb : b < d.size) (hc : c' < d.size) (hsz : d.size < 4611686018427387904) (hss : s + 3 < 4611686018427387904) :
    Calls Try.prog 124 #[.slice (some ⟨blk, off, none⟩) d.size cap, .int .i64 a, .int .i64 b, .int .i64 c', .pointer (some ⟨c, 0, none⟩), .func (.func g) #[] cb] W fun e w' =>
      e = .returned (.int .i64 (median (ltOf cf) d a b c' s).1) ∧ CntK enc k w0 blk off d c (median (ltOf cf) d a b c' s).2 w' := AnyQ.medianCmpFunc Try.laysSlF050_f124 k aE zE enc cf g cb blk off cap a b c' c s d0 d w0 W eg hcmp R hs C ha hb hc hsz hss
def Try.laysSlF049_f123_ren : Go.Shelf.Ren := ⟨fun | 49 => 123 | 50 => 124 | 57 => 125 | n => n, fun | 24 => 91 | 22 => 24 | 3 => 3 | 70 => 160 | 25 => 123 | 77 => 163 | 0 => 0 | 4 => 4 | n => n, fun | n => n⟩
theorem Try.laysSlF049_f123 : Go.Proofs.SlLaysF0.n49 Try.prog Try.laysSlF049_f123_ren := {
  mixed := by kernel_rfl
  f49 := ⟨Try.f123.name, by decide, Try.func123.trans (congrArg some (by kernel_rfl))⟩
  f50 := ⟨Try.f124.name, by decide, Try.func124.trans (congrArg some (by kernel_rfl))⟩
  f57 := ⟨Try.f125.name, by decide, Try.func125.trans (congrArg some (by kernel_rfl))⟩
  t0 := Try.underlying0
  a0 := Try.isAgg0
  z0 := Try.sizeOf0
  v0 := Try.zeroValue0
  t3 := Try.underlying3
  a3 := Try.isAgg3
  z3 := Try.sizeOf3
  v3 := Try.zeroValue3
  t4 := Try.underlying4
  a4 := Try.isAgg4
  z4 := Try.sizeOf4
  v4 := Try.zeroValue4
  t22 := Try.underlying24
  a22 := Try.isAgg24
  z22 := Try.sizeOf24
  v22 := Try.zeroValue24
  t25 := Try.underlying123
  a25 := Try.isAgg123
  z25 := Try.sizeOf123
  v25 := Try.zeroValue123
  t70 := Try.underlying160
  a70 := Try.isAgg160
  z70 := Try.sizeOf160
  v70 := Try.zeroValue160
  t77 := Try.underlying163
  a77 := Try.isAgg163
  z77 := Try.sizeOf163
  v77 := Try.zeroValue163 }
open Go.RowKit Go.Lib Go.Sort in
theorem Try.medianAdjacentCmpFunc {α : Type} [Inhabited α] (k : Nat) (aE : ∀ w, (isAgg 91).run Try.prog w = .ok true w) (zE : ∀ w, (Go.sizeOf 91).run Try.prog w = .ok k w) (enc : α → List Value) (cf : α → α → Int) (g : Nat) (cb : Array Value) (blk off cap a c s : Nat) (d0 d : Array α) (w0 W : World) (eg : ∀ args w, (callFunc g args).run Try.prog w = .ok (.enter g args) w) (hcmp : CmpLays Try.prog g cb enc k cf blk off d0.size w0) (R : RowK enc k w0 blk off d0) (hs : d0.size = d.size) (C : CntK enc k w0 blk off d c s W) (ha1 : 1 ≤ a) (ha2 : a + 1 < d.size) (hsz : d.size < 4611686018427387904) (hss : s + 3 < 4611686018427387904) :
    Calls Try.prog 123 #[.slice (some ⟨blk, off, none⟩) d.size cap, .int .i64 a, .pointer (some ⟨c, 0, none⟩), .func (.func g) #[] cb] W fun e w' =>
      e = .returned (.int .i64 (medianAdjacent (ltOf cf) d a s).1) ∧ CntK enc k w0 blk off d c (medianAdjacent (ltOf cf) d a s).2 w' := AnyQ.medianAdjacentCmpFunc Try.laysSlF049_f123 k aE zE enc cf g cb blk off cap a c s d0 d w0 W eg hcmp R hs C ha1 ha2 hsz hss
def Try.laysSlF023_f110_ren : Go.Shelf.Ren := ⟨fun | 23 => 110 | 49 => 123 | 50 => 124 | 57 => 125 | n => n, fun | 24 => 91 | 22 => 24 | 3 => 3 | 25 => 123 | 45 => 146 | 0 => 0 | 4 => 4 | 70 => 160 | 77 => 163 | n => n, fun | n => n⟩
theorem Try.laysSlF023_f110 : Go.Proofs.SlLaysF0.n23 Try.prog Try.laysSlF023_f110_ren := {
  mixed := by kernel_rfl
  f23 := ⟨Try.f110.name, by decide, Try.func110.trans (congrArg some (by kernel_rfl))⟩
  f49 := ⟨Try.f123.name, by decide, Try.func123.trans (congrArg some (by kernel_rfl))⟩
  f50 := ⟨Try.f124.name, by decide, Try.func124.trans (congrArg some (by kernel_rfl))⟩
  f57 := ⟨Try.f125.name, by decide, Try.func125.trans (congrArg some (by kernel_rfl))⟩
  t0 := Try.underlying0
  a0 := Try.isAgg0
  z0 := Try.sizeOf0
  v0 := Try.zeroValue0
  t3 := Try.underlying3
  a3 := Try.isAgg3
  z3 := Try.sizeOf3
  v3 := Try.zeroValue3
  t4 := Try.underlying4
  a4 := Try.isAgg4
  z4 := Try.sizeOf4
  v4 := Try.zeroValue4
  t22 := Try.underlying24
  a22 := Try.isAgg24
  z22 := Try.sizeOf24
  v22 := Try.zeroValue24
  t25 := Try.underlying123
  a25 := Try.isAgg123
  z25 := Try.sizeOf123
  v25 := Try.zeroValue123
  t45 := Try.underlying146
  a45 := Try.isAgg146
  z45 := Try.sizeOf146
  v45 := Try.zeroValue146
  t70 := Try.underlying160
  a70 := Try.isAgg160
  z70 := Try.sizeOf160
  v70 := Try.zeroValue160
  t77 := Try.underlying163
  a77 := Try.isAgg163
  z77 := Try.sizeOf163
  v77 := Try.zeroValue163 }
open Go.RowKit Go.Lib Go.Sort in
theorem Try.choosePivotCmpFunc {α : Type} [Inhabited α] (k : Nat) (aE : ∀ w, (isAgg 91).run Try.prog w = .ok true w) (zE : ∀ w, (Go.sizeOf 91).run Try.prog w = .ok k w) (enc : α → List Value) (cf : α → α → Int) (g : Nat) (cb : Array Value) (blk off cap a b : Nat) (d0 d : Array α) (w0 W : World) (eg : ∀ args w, (callFunc g args).run Try.prog w = .ok (.enter g args) w) (hcmp : CmpLays Try.prog g cb enc k cf blk off d0.size w0) (R : RowK enc k w0 blk off d0) (hs : d0.size = d.size) (S : SWK enc k w0 blk off d W) (hab : a < b) (hb : b ≤ d.size) (hsz : d.size < 4611686018427387904) :
    Calls Try.prog 110 #[.slice (some ⟨blk, off, none⟩) d.size cap, .int .i64 a, .int .i64 b, .func (.func g) #[] cb] W fun e w' =>
      e = .returned (.tuple #[.int .i64 (choosePivot (ltOf cf) d a b).1, .int .i64 (hintCode (choosePivot (ltOf cf) d a b).2)]) ∧ SWK enc k w0 blk off d w' := AnyQ.choosePivotCmpFunc Try.laysSlF023_f110 k aE zE enc cf g cb blk off cap a b d0 d w0 W eg hcmp R hs S hab hb hsz
def Try.laysSlF024_f111_ren : Go.Shelf.Ren := ⟨fun | 24 => 111 | n => n, fun | 24 => 91 | 22 => 24 | 3 => 3 | 25 => 123 | 4 => 4 | 0 => 0 | n => n, fun | n => n⟩
theorem Try.laysSlF024_f111 : Go.Proofs.SlLaysF0.n24 Try.prog Try.laysSlF024_f111_ren := {
  mixed := by kernel_rfl
  f24 := ⟨Try.f111.name, by decide, Try.func111.trans (congrArg some (by kernel_rfl))⟩
  t0 := Try.underlying0
  a0 := Try.isAgg0
  z0 := Try.sizeOf0
  v0 := Try.zeroValue0
  t3 := Try.underlying3
  a3 := Try.isAgg3
  z3 := Try.sizeOf3
  v3 := Try.zeroValue3
  t4 := Try.underlying4
  a4 := Try.isAgg4
  z4 := Try.sizeOf4
  v4 := Try.zeroValue4
  t22 := Try.underlying24
  a22 := Try.isAgg24
  z22 := Try.sizeOf24
  v22 := Try.zeroValue24
  t25 := Try.underlying123
  a25 := Try.isAgg123
  z25 := Try.sizeOf123
  v25 := Try.zeroValue123 }
open Go.RowKit Go.Lib Go.Sort in
theorem Try.reverseRangeCmpFunc {α : Type} [Inhabited α] (k : Nat) (aE : ∀ w, (isAgg 91).run Try.prog w = .ok true w) (zE : ∀ w, (Go.sizeOf 91).run Try.prog w = .ok k w) (enc : α → List Value) (g : Nat) (cb : Array Value) (blk off cap a b : Nat) (d0 d : Array α) (w0 w : World) (R : RowK enc k w0 blk off d0) (hs : d0.size = d.size) (S : SWK enc k w0 blk off d w) (hab : a ≤ b) (hb : b ≤ d.size) (hsz : d.size < 4611686018427387904) :
    Calls Try.prog 111 #[.slice (some ⟨blk, off, none⟩) d.size cap, .int .i64 a, .int .i64 b, .func (.func g) #[] cb] w fun e w' => e = .returned (.tuple #[]) ∧ SWK enc k w0 blk off (reverseRange d a b) w' := AnyQ.reverseRangeCmpFunc Try.laysSlF024_f111 k aE zE enc g cb blk off cap a b d0 d w0 w R hs S hab hb hsz
def Try.laysSlF025_f112_ren : Go.Shelf.Ren := ⟨fun | 25 => 112 | n => n, fun | 24 => 91 | 22 => 24 | 3 => 3 | 25 => 123 | 4 => 4 | 0 => 0 | n => n, fun | n => n⟩
theorem Try.laysSlF025_f112 : Go.Proofs.SlLaysF0.n25 Try.prog Try.laysSlF025_f112_ren := {
  mixed := by kernel_rfl
  f25 := ⟨Try.f112.name, by decide, Try.func112.trans (congrArg some (by kernel_rfl))⟩
  t0 := Try.underlying0
  a0 := Try.isAgg0
  z0 := Try.sizeOf0
  v0 := Try.zeroValue0
  t3 := Try.underlying3
  a3 := Try.isAgg3
  z3 := Try.sizeOf3
  v3 := Try.zeroValue3
  t4 := Try.underlying4
  a4 := Try.isAgg4
  z4 := Try.sizeOf4
  v4 := Try.zeroValue4
  t22 := Try.underlying24
  a22 := Try.isAgg24
  z22 := Try.sizeOf24
  v22 := Try.zeroValue24
  t25 := Try.underlying123
  a25 := Try.isAgg123
  z25 := Try.sizeOf123
  v25 := Try.zeroValue123 }
open Go.RowKit Go.Lib Go.Sort in
theorem Try.partialInsertionSortCmpFunc {α : Type} [Inhabited α] (k : Nat) (aE : ∀ w, (isAgg 91).run Try.prog w = .ok true w) (zE : ∀ w, (Go.sizeOf 91).run Try.prog w = .ok k w) (enc : α → List Value) (cf : α → α → Int) (g : Nat) (cb : Array Value) (blk off cap a b : Nat) (d0 d : Array α) (w0 w : World) (eg : ∀ args w, (callFunc g args).run Try.prog w = .ok (.enter g args) w) (hcmp : CmpLays Try.prog g cb enc k cf blk off d0.size w0) (R : RowK enc k w0 blk off d0) (hs : d0.size = d.size) (S : SWK enc k w0 blk off d w) (hab : a < b) (hb : b ≤ d.size) (hsz : d.size < 4611686018427387904) :
    Calls Try.prog 112 #[.slice (some ⟨blk, off, none⟩) d.size cap, .int .i64 a, .int .i64 b, .func (.func g) #[] cb] w fun e w' =>
      e = .returned (.bool (Sort.partialInsertionSort (ltOf cf) d a b).2) ∧ SWK enc k w0 blk off (Sort.partialInsertionSort (ltOf cf) d a b).1 w' := AnyQ.partialInsertionSortCmpFunc Try.laysSlF025_f112 k aE zE enc cf g cb blk off cap a b d0 d w0 w eg hcmp R hs S hab hb hsz
def Try.laysSlF026_f113_ren : Go.Shelf.Ren := ⟨fun | 26 => 113 | n => n, fun | 24 => 91 | 22 => 24 | 3 => 3 | 25 => 123 | 0 => 0 | 4 => 4 | n => n, fun | n => n⟩
theorem Try.laysSlF026_f113 : Go.Proofs.SlLaysF0.n26 Try.prog Try.laysSlF026_f113_ren := {
  mixed := by kernel_rfl
  f26 := ⟨Try.f113.name, by decide, Try.func113.trans (congrArg some (by kernel_rfl))⟩
  t0 := Try.underlying0
  a0 := Try.isAgg0
  z0 := Try.sizeOf0
  v0 := Try.zeroValue0
  t3 := Try.underlying3
  a3 := Try.isAgg3
  z3 := Try.sizeOf3
  v3 := Try.zeroValue3
  t4 := Try.underlying4
  a4 := Try.isAgg4
  z4 := Try.sizeOf4
  v4 := Try.zeroValue4
  t22 := Try.underlying24
  a22 := Try.isAgg24
  z22 := Try.sizeOf24
  v22 := Try.zeroValue24
  t25 := Try.underlying123
  a25 := Try.isAgg123
  z25 := Try.sizeOf123
  v25 := Try.zeroValue123 }
open Go.RowKit Go.Lib Go.Sort in
theorem Try.partitionEqualCmpFunc {α : Type} [Inhabited α] (k : Nat) (aE : ∀ w, (isAgg 91).run Try.prog w = .ok true w) (zE : ∀ w, (Go.sizeOf 91).run Try.prog w = .ok k w) (enc : α → List Value) (cf : α → α → Int) (g : Nat) (cb : Array Value) (blk off cap a b pivot : Nat) (d0 d : Array α) (w0 w : World) (eg : ∀ args w, (callFunc g args).run Try.prog w = .ok (.enter g args) w) (hcmp : CmpLays Try.prog g cb enc k cf blk off d0.size w0) (R : RowK enc k w0 blk off d0) (hs : d0.size = d.size) (S : SWK enc k w0 blk off d w) (hap : a ≤ pivot) (hpb : pivot < b) (hb : b ≤ d.size) (hsz : d.size < 4611686018427387904) :
    Calls Try.prog 113 #[.slice (some ⟨blk, off, none⟩) d.size cap, .int .i64 a, .int .i64 b, .int .i64 pivot, .func (.func g) #[] cb] w fun e w' =>
      e = .returned (.int .i64 (Sort.partitionEqual (ltOf cf) d a b pivot).1) ∧ SWK enc k w0 blk off (Sort.partitionEqual (ltOf cf) d a b pivot).2 w' := AnyQ.partitionEqualCmpFunc Try.laysSlF026_f113 k aE zE enc cf g cb blk off cap a b pivot d0 d w0 w eg hcmp R hs S hap hpb hb hsz
def Try.laysSlF027_f114_ren : Go.Shelf.Ren := ⟨fun | 27 => 114 | n => n, fun | 24 => 91 | 22 => 24 | 3 => 3 | 25 => 123 | 4 => 4 | 0 => 0 | n => n, fun | n => n⟩
theorem Try.laysSlF027_f114 : Go.Proofs.SlLaysF0.n27 Try.prog Try.laysSlF027_f114_ren := {
  mixed := by kernel_rfl
  f27 := ⟨Try.f114.name, by decide, Try.func114.trans (congrArg some (by kernel_rfl))⟩
  t0 := Try.underlying0
  a0 := Try.isAgg0
  z0 := Try.sizeOf0
  v0 := Try.zeroValue0
  t3 := Try.underlying3
  a3 := Try.isAgg3
  z3 := Try.sizeOf3
  v3 := Try.zeroValue3
  t4 := Try.underlying4
  a4 := Try.isAgg4
  z4 := Try.sizeOf4
  v4 := Try.zeroValue4
  t22 := Try.underlying24
  a22 := Try.isAgg24
  z22 := Try.sizeOf24
  v22 := Try.zeroValue24
  t25 := Try.underlying123
  a25 := Try.isAgg123
  z25 := Try.sizeOf123
  v25 := Try.zeroValue123 }
open Go.RowKit Go.Lib Go.Sort in
theorem Try.partitionCmpFunc {α : Type} [Inhabited α] (k : Nat) (aE : ∀ w, (isAgg 91).run Try.prog w = .ok true w) (zE : ∀ w, (Go.sizeOf 91).run Try.prog w = .ok k w) (enc : α → List Value) (cf : α → α → Int) (g : Nat) (cb : Array Value) (blk off cap a b pivot : Nat) (d0 d : Array α) (w0 w : World) (eg : ∀ args w, (callFunc g args).run Try.prog w = .ok (.enter g args) w) (hcmp : CmpLays Try.prog g cb enc k cf blk off d0.size w0) (R : RowK enc k w0 blk off d0) (hs : d0.size = d.size) (S : SWK enc k w0 blk off d w) (hap : a ≤ pivot) (hpb : pivot < b) (hb : b ≤ d.size) (hsz : d.size < 4611686018427387904) :
    Calls Try.prog 114 #[.slice (some ⟨blk, off, none⟩) d.size cap, .int .i64 a, .int .i64 b, .int .i64 pivot, .func (.func g) #[] cb] w fun e w' =>
      e = .returned (.tuple #[.int .i64 (Sort.partition (ltOf cf) d a b pivot).1, .bool (Sort.partition (ltOf cf) d a b pivot).2.1]) ∧ SWK enc k w0 blk off (Sort.partition (ltOf cf) d a b pivot).2.2 w' := AnyQ.partitionCmpFunc Try.laysSlF027_f114 k aE zE enc cf g cb blk off cap a b pivot d0 d w0 w eg hcmp R hs S hap hpb hb hsz
open Go.RowKit Go.Lib Go.Sort in
theorem Try.insertionSortCmpFunc_w {α : Type} [Inhabited α] (k : Nat) (aE : ∀ w, (isAgg 91).run Try.prog w = .ok true w) (zE : ∀ w, (Go.sizeOf 91).run Try.prog w = .ok k w) (enc : α → List Value) (cf : α → α → Int) (g : Nat) (cb : Array Value) (blk off cap a b : Nat) (d0 d : Array α) (w0 w : World) (eg : ∀ args w, (callFunc g args).run Try.prog w = .ok (.enter g args) w) (hcmp : CmpLays Try.prog g cb enc k cf blk off d0.size w0) (R : RowK enc k w0 blk off d0) (hs : d0.size = d.size) (S : SWK enc k w0 blk off d w) (hO : SWO (ltOf cf)) (hab : a ≤ b) (hb : b ≤ d.size) (hsz : d.size < 4611686018427387904) :
    Calls Try.prog 107 #[.slice (some ⟨blk, off, none⟩) d.size cap, .int .i64 a, .int .i64 b, .func (.func g) #[] cb] w fun e w' => e = .returned (.tuple #[]) ∧ SWK enc k w0 blk off (Sort.insertionSort (ltOf cf) d a b) w' := AnyQ.insertionSortCmpFunc_w Try.laysSlF020_f107 k aE zE enc cf g cb blk off cap a b d0 d w0 w eg hcmp R hs S hO hab hb hsz
def Try.laysSlF014_f97_ren : Go.Shelf.Ren := ⟨fun | 14 => 97 | 20 => 107 | 21 => 108 | 22 => 109 | 23 => 110 | 24 => 111 | 25 => 112 | 26 => 113 | 27 => 114 | 46 => 120 | 47 => 121 | 48 => 122 | 49 => 123 | 50 => 124 | 15 => 98 | 57 => 125 | 28 => 115 | 29 => 116 | n => n, fun | 24 => 91 | 22 => 24 | 3 => 3 | 25 => 123 | 4 => 4 | 0 => 0 | 46 => 147 | 45 => 146 | 50 => 117 | 66 => 157 | 39 => 138 | 55 => 22 | 70 => 160 | 76 => 162 | 77 => 163 | 53 => 38 | 5 => 5 | 9 => 9 | n => n, fun | n => n⟩
theorem Try.laysSlF014_f97 : Go.Proofs.SlLaysF0.n14 Try.prog Try.laysSlF014_f97_ren := {
  mixed := by kernel_rfl
  f14 := ⟨Try.f97.name, by decide, Try.func97.trans (congrArg some (by kernel_rfl))⟩
  f15 := Try.func98.trans (congrArg some (by kernel_rfl))
  f20 := ⟨Try.f107.name, by decide, Try.func107.trans (congrArg some (by kernel_rfl))⟩
  f21 := ⟨Try.f108.name, by decide, Try.func108.trans (congrArg some (by kernel_rfl))⟩
  f22 := ⟨Try.f109.name, by decide, Try.func109.trans (congrArg some (by kernel_rfl))⟩
  f23 := ⟨Try.f110.name, by decide, Try.func110.trans (congrArg some (by kernel_rfl))⟩
  f24 := ⟨Try.f111.name, by decide, Try.func111.trans (congrArg some (by kernel_rfl))⟩
  f25 := ⟨Try.f112.name, by decide, Try.func112.trans (congrArg some (by kernel_rfl))⟩
  f26 := ⟨Try.f113.name, by decide, Try.func113.trans (congrArg some (by kernel_rfl))⟩
  f27 := ⟨Try.f114.name, by decide, Try.func114.trans (congrArg some (by kernel_rfl))⟩
  f28 := Try.func115.trans (congrArg some (by kernel_rfl))
  f29 := Try.func116.trans (congrArg some (by kernel_rfl))
  f46 := ⟨Try.f120.name, by decide, Try.func120.trans (congrArg some (by kernel_rfl))⟩
  f47 := Try.func121.trans (congrArg some (by kernel_rfl))
  f48 := Try.func122.trans (congrArg some (by kernel_rfl))
  f49 := ⟨Try.f123.name, by decide, Try.func123.trans (congrArg some (by kernel_rfl))⟩
  f50 := ⟨Try.f124.name, by decide, Try.func124.trans (congrArg some (by kernel_rfl))⟩
  f57 := ⟨Try.f125.name, by decide, Try.func125.trans (congrArg some (by kernel_rfl))⟩
  t0 := Try.underlying0
  a0 := Try.isAgg0
  z0 := Try.sizeOf0
  v0 := Try.zeroValue0
  t3 := Try.underlying3
  a3 := Try.isAgg3
  z3 := Try.sizeOf3
  v3 := Try.zeroValue3
  t4 := Try.underlying4
  a4 := Try.isAgg4
  z4 := Try.sizeOf4
  v4 := Try.zeroValue4
  t5 := Try.underlying5
  a5 := Try.isAgg5
  z5 := Try.sizeOf5
  v5 := Try.zeroValue5
  t9 := Try.underlying9
  a9 := Try.isAgg9
  z9 := Try.sizeOf9
  v9 := Try.zeroValue9
  t22 := Try.underlying24
  a22 := Try.isAgg24
  z22 := Try.sizeOf24
  v22 := Try.zeroValue24
  t25 := Try.underlying123
  a25 := Try.isAgg123
  z25 := Try.sizeOf123
  v25 := Try.zeroValue123
  t39 := Try.underlying138
  a39 := Try.isAgg138
  z39 := Try.sizeOf138
  v39 := Try.zeroValue138
  t45 := Try.underlying146
  a45 := Try.isAgg146
  z45 := Try.sizeOf146
  v45 := Try.zeroValue146
  t46 := Try.underlying147
  a46 := Try.isAgg147
  z46 := Try.sizeOf147
  v46 := Try.zeroValue147
  t50 := Try.underlying117
  a50 := Try.isAgg117
  z50 := Try.sizeOf117
  v50 := Try.zeroValue117
  t53 := Try.underlying38
  a53 := Try.isAgg38
  z53 := Try.sizeOf38
  v53 := Try.zeroValue38
  t55 := Try.underlying22
  a55 := Try.isAgg22
  z55 := Try.sizeOf22
  v55 := Try.zeroValue22
  t66 := Try.underlying157
  a66 := Try.isAgg157
  z66 := Try.sizeOf157
  v66 := Try.zeroValue157
  t70 := Try.underlying160
  a70 := Try.isAgg160
  z70 := Try.sizeOf160
  v70 := Try.zeroValue160
  t76 := Try.underlying162
  a76 := Try.isAgg162
  z76 := Try.sizeOf162
  v76 := Try.zeroValue162
  t77 := Try.underlying163
  a77 := Try.isAgg163
  z77 := Try.sizeOf163
  v77 := Try.zeroValue163 }
open Go.RowKit Go.Lib Go.Sort in
theorem Try.pdqsortCmpFunc_all {α : Type} [Inhabited α] (k : Nat) (aE : ∀ w, (isAgg 91).run Try.prog w = .ok true w) (zE : ∀ w, (Go.sizeOf 91).run Try.prog w = .ok k w) (enc : α → List Value) (cf : α → α → Int) (g : Nat) (cb : Array Value) (hO : SWO (ltOf cf)) (blk off cap : Nat) (d0 : Array α) (w0 : World) (eg : ∀ args w, (callFunc g args).run Try.prog w = .ok (.enter g args) w) (hcmp : CmpLays Try.prog g cb enc k cf blk off d0.size w0) (R : RowK enc k w0 blk off d0) :
    ∀ (N a b limit : Nat) (d : Array α) (w : World), b - a < N → d0.size = d.size → SWK enc k w0 blk off d w → a ≤ b → b ≤ d.size → d.size < 4611686018427387904 → limit < 4611686018427387904 → Below (ltOf cf) a b d →
    Calls Try.prog 97 #[.slice (some ⟨blk, off, none⟩) d.size cap, .int .i64 a, .int .i64 b, .int .i64 limit, .func (.func g) #[] cb] w fun e w' => e = .returned (.tuple #[]) ∧ SWK enc k w0 blk off (pdq (ltOf cf) d a b limit true true) w' := AnyQ.pdqsortCmpFunc_all Try.laysSlF014_f97 k aE zE enc cf g cb hO blk off cap d0 w0 eg hcmp R
def Try.laysSlF06_f82_ren : Go.Shelf.Ren := ⟨fun | 6 => 82 | 15 => 98 | 14 => 97 | 28 => 115 | 29 => 116 | 20 => 107 | 21 => 108 | 22 => 109 | 23 => 110 | 24 => 111 | 25 => 112 | 26 => 113 | 27 => 114 | 46 => 120 | 47 => 121 | 48 => 122 | 49 => 123 | 50 => 124 | 57 => 125 | n => n, fun | 22 => 24 | 24 => 91 | 25 => 123 | 3 => 3 | 39 => 138 | 0 => 0 | 53 => 38 | 55 => 22 | 4 => 4 | 46 => 147 | 45 => 146 | 50 => 117 | 5 => 5 | 9 => 9 | 66 => 157 | 70 => 160 | 76 => 162 | 77 => 163 | n => n, fun | n => n⟩
theorem Try.laysSlF06_f82 : Go.Proofs.SlLaysF0.n6 Try.prog Try.laysSlF06_f82_ren := {
  mixed := by kernel_rfl
  f6 := ⟨Try.f82.name, by decide, Try.func82.trans (congrArg some (by kernel_rfl))⟩
  f14 := ⟨Try.f97.name, by decide, Try.func97.trans (congrArg some (by kernel_rfl))⟩
  f15 := Try.func98.trans (congrArg some (by kernel_rfl))
  f20 := ⟨Try.f107.name, by decide, Try.func107.trans (congrArg some (by kernel_rfl))⟩
  f21 := ⟨Try.f108.name, by decide, Try.func108.trans (congrArg some (by kernel_rfl))⟩
  f22 := ⟨Try.f109.name, by decide, Try.func109.trans (congrArg some (by kernel_rfl))⟩
  f23 := ⟨Try.f110.name, by decide, Try.func110.trans (congrArg some (by kernel_rfl))⟩
  f24 := ⟨Try.f111.name, by decide, Try.func111.trans (congrArg some (by kernel_rfl))⟩
  f25 := ⟨Try.f112.name, by decide, Try.func112.trans (congrArg some (by kernel_rfl))⟩
  f26 := ⟨Try.f113.name, by decide, Try.func113.trans (congrArg some (by kernel_rfl))⟩
  f27 := ⟨Try.f114.name, by decide, Try.func114.trans (congrArg some (by kernel_rfl))⟩
  f28 := Try.func115.trans (congrArg some (by kernel_rfl))
  f29 := Try.func116.trans (congrArg some (by kernel_rfl))
  f46 := ⟨Try.f120.name, by decide, Try.func120.trans (congrArg some (by kernel_rfl))⟩
  f47 := Try.func121.trans (congrArg some (by kernel_rfl))
  f48 := Try.func122.trans (congrArg some (by kernel_rfl))
  f49 := ⟨Try.f123.name, by decide, Try.func123.trans (congrArg some (by kernel_rfl))⟩
  f50 := ⟨Try.f124.name, by decide, Try.func124.trans (congrArg some (by kernel_rfl))⟩
  f57 := ⟨Try.f125.name, by decide, Try.func125.trans (congrArg some (by kernel_rfl))⟩
  t0 := Try.underlying0
  a0 := Try.isAgg0
  z0 := Try.sizeOf0
  v0 := Try.zeroValue0
  t3 := Try.underlying3
  a3 := Try.isAgg3
  z3 := Try.sizeOf3
  v3 := Try.zeroValue3
  t4 := Try.underlying4
  a4 := Try.isAgg4
  z4 := Try.sizeOf4
  v4 := Try.zeroValue4
  t5 := Try.underlying5
  a5 := Try.isAgg5
  z5 := Try.sizeOf5
  v5 := Try.zeroValue5
  t9 := Try.underlying9
  a9 := Try.isAgg9
  z9 := Try.sizeOf9
  v9 := Try.zeroValue9
  t22 := Try.underlying24
  a22 := Try.isAgg24
  z22 := Try.sizeOf24
  v22 := Try.zeroValue24
  t25 := Try.underlying123
  a25 := Try.isAgg123
  z25 := Try.sizeOf123
  v25 := Try.zeroValue123
  t39 := Try.underlying138
  a39 := Try.isAgg138
  z39 := Try.sizeOf138
  v39 := Try.zeroValue138
  t45 := Try.underlying146
  a45 := Try.isAgg146
  z45 := Try.sizeOf146
  v45 := Try.zeroValue146
  t46 := Try.underlying147
  a46 := Try.isAgg147
  z46 := Try.sizeOf147
  v46 := Try.zeroValue147
  t50 := Try.underlying117
  a50 := Try.isAgg117
  z50 := Try.sizeOf117
  v50 := Try.zeroValue117
  t53 := Try.underlying38
  a53 := Try.isAgg38
  z53 := Try.sizeOf38
  v53 := Try.zeroValue38
  t55 := Try.underlying22
  a55 := Try.isAgg22
  z55 := Try.sizeOf22
  v55 := Try.zeroValue22
  t66 := Try.underlying157
  a66 := Try.isAgg157
  z66 := Try.sizeOf157
  v66 := Try.zeroValue157
  t70 := Try.underlying160
  a70 := Try.isAgg160
  z70 := Try.sizeOf160
  v70 := Try.zeroValue160
  t76 := Try.underlying162
  a76 := Try.isAgg162
  z76 := Try.sizeOf162
  v76 := Try.zeroValue162
  t77 := Try.underlying163
  a77 := Try.isAgg163
  z77 := Try.sizeOf163
  v77 := Try.zeroValue163 }
open Go.RowKit Go.Lib Go.Sort in
theorem Try.slices_SortFunc_eq {α : Type} [Inhabited α] (k : Nat) (aE : ∀ w, (isAgg 91).run Try.prog w = .ok true w) (zE : ∀ w, (Go.sizeOf 91).run Try.prog w = .ok k w) (enc : α → List Value) (hk : ∀ x, (enc x).length = k) (h1 : ∀ x, ∀ v ∈ enc x, v.oneCell' = true) (cf : α → α → Int) (hO : SWO (ltOf cf)) (g : Nat) (cb : Array Value) (blk off cap : Nat) (d : Array α) (w : World) (eg : ∀ args w, (callFunc g args).run Try.prog w = .ok (.enter g args) w) (hcmp : CmpLays Try.prog g cb enc k cf blk off d.size w) (hH : HoldsK enc k w blk off d) (hblk : blk < w.heap.size) (hsz : d.size < 4611686018427387904) :
    Calls Try.prog 82 #[.slice (some ⟨blk, off, none⟩) d.size cap, .func (.func g) #[] cb] w fun e w' =>
      e = .returned (.tuple #[]) ∧ ∃ n os, w' = sortWorldK enc k w blk off n (pdq (ltOf cf) d 0 d.size (Lib.bitLen d.size) true true) os := AnyQ.slices_SortFunc_eq Try.laysSlF06_f82 k aE zE enc hk h1 cf hO g cb blk off cap d w eg hcmp hH hblk hsz
open Go.RowKit Go.Lib Go.Sort in
theorem Try.slices_SortFunc {α : Type} [Inhabited α] (k : Nat) (aE : ∀ w, (isAgg 91).run Try.prog w = .ok true w) (zE : ∀ w, (Go.sizeOf 91).run Try.prog w = .ok k w) (enc : α → List Value) (hk : ∀ x, (enc x).length = k) (h1 : ∀ x, ∀ v ∈ enc x, v.oneCell' = true) (cf : α → α → Int) (hO : SWO (ltOf cf)) (g : Nat) (cb : Array Value) (blk off cap : Nat) (d : Array α) (w : World) (eg : ∀ args w, (callFunc g args).run Try.prog w = .ok (.enter g args) w) (hcmp : CmpLays Try.prog g cb enc k cf blk off d.size w) (hH : HoldsK enc k w blk off d) (hblk : blk < w.heap.size) (hsz : d.size < 4611686018427387904) :
    Calls Try.prog 82 #[.slice (some ⟨blk, off, none⟩) d.size cap, .func (.func g) #[] cb] w fun e w' =>
      e = .returned (.tuple #[]) ∧ ∃ d' n os, PermIn 0 d.size d d' ∧ SortedIn (ltOf cf) 0 d.size d' ∧ w' = sortWorldK enc k w blk off n d' os := AnyQ.slices_SortFunc Try.laysSlF06_f82 k aE zE enc hk h1 cf hO g cb blk off cap d w eg hcmp hH hblk hsz
open Go.RowKit Go.Lib Go.Sort in
theorem Try.insertionSortCmpFunc_none {α : Type} [Inhabited α] (p : Option Addr) (cap : Nat) (fv : Value) (w : World) :
    Calls Try.prog 107 #[.slice p 0 cap, .int .i64 0, .int .i64 0, fv] w fun e w' => e = .returned (.tuple #[]) ∧ w' = w := AnyF.insertionSortCmpFunc_none Try.laysSlF020_f107 p cap fv w
open Go.RowKit Go.Lib Go.Sort in
theorem Try.pdqsortCmpFunc_none {α : Type} [Inhabited α] (p : Option Addr) (cap : Nat) (lim : Int) (fv : Value) (w : World) :
    Calls Try.prog 97 #[.slice p 0 cap, .int .i64 0, .int .i64 0, .int .i64 lim, fv] w fun e w' => e = .returned (.tuple #[]) ∧ w' = w := AnyF.pdqsortCmpFunc_none Try.laysSlF014_f97 p cap lim fv w
open Go.RowKit Go.Lib Go.Sort in
theorem Try.slices_SortFunc_none {α : Type} [Inhabited α] (p : Option Addr) (cap : Nat) (fv : Value) (w : World) :
    Calls Try.prog 82 #[.slice p 0 cap, fv] w fun e w' => e = .returned (.tuple #[]) ∧ w' = w := AnyF.slices_SortFunc_none Try.laysSlF06_f82 p cap fv w
open Go.RowKit Go.Lib Go.Sort in
theorem Try.slices_SortFunc_total {α : Type} [Inhabited α] (k : Nat) (aE : ∀ w, (isAgg 91).run Try.prog w = .ok true w) (zE : ∀ w, (Go.sizeOf 91).run Try.prog w = .ok k w) (enc : α → List Value) (hk : ∀ x, (enc x).length = k) (h1 : ∀ x, ∀ v ∈ enc x, v.oneCell' = true) (cf : α → α → Int) (hO : SWO (ltOf cf)) (g : Nat) (cb : Array Value) (blk off cap : Nat) (d : Array α) (w : World) (eg : ∀ args w, (callFunc g args).run Try.prog w = .ok (.enter g args) w) (hcmp : CmpLays Try.prog g cb enc k cf blk off d.size w) (hH : HoldsK enc k w blk off d) (hblk : blk < w.heap.size) (hsz : d.size < 4611686018427387904) (hT : ∀ x y, (ltOf cf) x y = false → (ltOf cf) y x = false → x = y) :
    Calls Try.prog 82 #[.slice (some ⟨blk, off, none⟩) d.size cap, .func (.func g) #[] cb] w fun e w' =>
      e = .returned (.tuple #[]) ∧ ∃ n os, w' = sortWorldK enc k w blk off n (d.toList.mergeSort fun x y => !(ltOf cf) y x).toArray os := AnyQ.slices_SortFunc_total Try.laysSlF06_f82 k aE zE enc hk h1 cf hO g cb blk off cap d w eg hcmp hH hblk hsz hT
end Go.Proofs
