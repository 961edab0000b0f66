/- contracts of library functions at this program, as the tools of the kit (lay-shelf.mjs, lay-plain.mjs) lay them -/
import Derived.Ground.SlgnProg
import Derived.Shelf.SlicesQ.Reverse
import Derived.Test.YtlccbejhamkdoaaChecked
namespace Go.Proofs
open Go.Shelf
def Try.laysSlE035_f11_ren : Go.Shelf.Ren := ⟨fun | 35 => 11 | n => n, fun | 22 => 23 | 23 => 36 | 3 => 3 | 4 => 4 | 0 => 0 | n => n, fun | n => n⟩
theorem Try.laysSlE035_f11 : Go.Proofs.SlLaysE0.n35 Try.prog Try.laysSlE035_f11_ren := {
  mixed := by kernel_rfl
  f35 := ⟨Try.f11.name, by decide, Try.func11.trans (congrArg some (by kernel_rfl))⟩
  t0 := Try.underlying0
  a0 := Try.isAgg0
  z0 := Try.sizeOf0
  v0 := Try.zeroValue0
  t3 := Try.underlying3
  a3 := Try.isAgg3
  z3 := Try.sizeOf3
  v3 := Try.zeroValue3
  t4 := Try.underlying4
  a4 := Try.isAgg4
  z4 := Try.sizeOf4
  v4 := Try.zeroValue4
  t22 := Try.underlying23
  a22 := Try.isAgg23
  z22 := Try.sizeOf23
  v22 := Try.zeroValue23 }
open Go.RowKit Go.Lib Go.Sort in
theorem Try.slices_Reverse_f11 {α : Type} [Inhabited α] (k : Nat) (aE : ∀ w, (isAgg 36).run Try.prog w = .ok true w) (zE : ∀ w, (Go.sizeOf 36).run Try.prog w = .ok k w) (enc : α → List Value) (hk : ∀ x, (enc x).length = k) (h1 : ∀ x, ∀ v ∈ enc x, v.oneCell' = true) (blk off cap : Nat) (d : Array α) (w : World) (hH : HoldsK enc k w blk off d) (hsz : d.size ≤ 9223372036854775807) :
    Calls Try.prog 11 #[.slice (some ⟨blk, off, none⟩) d.size cap] w fun e w' => e = .returned (.tuple #[]) ∧ ∃ n, w' = putRowK enc k (Sort.ahead w n) blk off d.reverse := AnyQ.slices_Reverse Try.laysSlE035_f11 k aE zE enc hk h1 blk off cap d w hH hsz
def Try.laysSlE035_f12_ren : Go.Shelf.Ren := ⟨fun | 35 => 12 | n => n, fun | 22 => 26 | 23 => 40 | 3 => 3 | 4 => 4 | 0 => 0 | n => n, fun | n => n⟩
theorem Try.laysSlE035_f12 : Go.Proofs.SlLaysE0.n35 Try.prog Try.laysSlE035_f12_ren := {
  mixed := by kernel_rfl
  f35 := ⟨Try.f12.name, by decide, Try.func12.trans (congrArg some (by kernel_rfl))⟩
  t0 := Try.underlying0
  a0 := Try.isAgg0
  z0 := Try.sizeOf0
  v0 := Try.zeroValue0
  t3 := Try.underlying3
  a3 := Try.isAgg3
  z3 := Try.sizeOf3
  v3 := Try.zeroValue3
  t4 := Try.underlying4
  a4 := Try.isAgg4
  z4 := Try.sizeOf4
  v4 := Try.zeroValue4
  t22 := Try.underlying26
  a22 := Try.isAgg26
  z22 := Try.sizeOf26
  v22 := Try.zeroValue26 }
open Go.RowKit Go.Lib Go.Sort in
theorem Try.slices_Reverse_f12 {α : Type} [Inhabited α] (k : Nat) (aE : ∀ w, (isAgg 40).run Try.prog w = .ok true w) (zE : ∀ w, (Go.sizeOf 40).run Try.prog w = .ok k w) (enc : α → List Value) (hk : ∀ x, (enc x).length = k) (h1 : ∀ x, ∀ v ∈ enc x, v.oneCell' = true) (blk off cap : Nat) (d : Array α) (w : World) (hH : HoldsK enc k w blk off d) (hsz : d.size ≤ 9223372036854775807) :
    Calls Try.prog 12 #[.slice (some ⟨blk, off, none⟩) d.size cap] w fun e w' => e = .returned (.tuple #[]) ∧ ∃ n, w' = putRowK enc k (Sort.ahead w n) blk off d.reverse := AnyQ.slices_Reverse Try.laysSlE035_f12 k aE zE enc hk h1 blk off cap d w hH hsz
def Try.laysSlE035_f13_ren : Go.Shelf.Ren := ⟨fun | 35 => 13 | n => n, fun | 22 => 27 | 23 => 44 | 3 => 3 | 4 => 4 | 0 => 0 | n => n, fun | n => n⟩
theorem Try.laysSlE035_f13 : Go.Proofs.SlLaysE0.n35 Try.prog Try.laysSlE035_f13_ren := {
  mixed := by kernel_rfl
  f35 := ⟨Try.f13.name, by decide, Try.func13.trans (congrArg some (by kernel_rfl))⟩
  t0 := Try.underlying0
  a0 := Try.isAgg0
  z0 := Try.sizeOf0
  v0 := Try.zeroValue0
  t3 := Try.underlying3
  a3 := Try.isAgg3
  z3 := Try.sizeOf3
  v3 := Try.zeroValue3
  t4 := Try.underlying4
  a4 := Try.isAgg4
  z4 := Try.sizeOf4
  v4 := Try.zeroValue4
  t22 := Try.underlying27
  a22 := Try.isAgg27
  z22 := Try.sizeOf27
  v22 := Try.zeroValue27 }
open Go.RowKit Go.Lib Go.Sort in
theorem Try.slices_Reverse_f13 {α : Type} [Inhabited α] (k : Nat) (aE : ∀ w, (isAgg 44).run Try.prog w = .ok true w) (zE : ∀ w, (Go.sizeOf 44).run Try.prog w = .ok k w) (enc : α → List Value) (hk : ∀ x, (enc x).length = k) (h1 : ∀ x, ∀ v ∈ enc x, v.oneCell' = true) (blk off cap : Nat) (d : Array α) (w : World) (hH : HoldsK enc k w blk off d) (hsz : d.size ≤ 9223372036854775807) :
    Calls Try.prog 13 #[.slice (some ⟨blk, off, none⟩) d.size cap] w fun e w' => e = .returned (.tuple #[]) ∧ ∃ n, w' = putRowK enc k (Sort.ahead w n) blk off d.reverse := AnyQ.slices_Reverse Try.laysSlE035_f13 k aE zE enc hk h1 blk off cap d w hH hsz
open Go.RowKit Go.Lib Go.Sort in
theorem Try.slices_Reverse_empty_f11 {α : Type} [Inhabited α] (a : Option Addr) (cap : Nat) (w : World) :
    Calls Try.prog 11 #[.slice a 0 cap] w fun e w' => e = .returned (.tuple #[]) ∧ w' = w := AnyQ.slices_Reverse_empty Try.laysSlE035_f11 a cap w
open Go.RowKit Go.Lib Go.Sort in
theorem Try.slices_Reverse_empty_f12 {α : Type} [Inhabited α] (a : Option Addr) (cap : Nat) (w : World) :
    Calls Try.prog 12 #[.slice a 0 cap] w fun e w' => e = .returned (.tuple #[]) ∧ w' = w := AnyQ.slices_Reverse_empty Try.laysSlE035_f12 a cap w
open Go.RowKit Go.Lib Go.Sort in
theorem Try.slices_Reverse_empty_f13 {α : Type} [Inhabited α] (a : Option Addr) (cap : Nat) (w : World) :
    Calls Try.prog 13 #[.slice a 0 cap] w fun e w' => e = .returned (.tuple #[]) ∧ w' = w := AnyQ.slices_Reverse_empty Try.laysSlE035_f13 a cap w
end Go.Proofs
