/- Facts of the library at this program that the tool did not lay (IndexFunc, ContainsFunc); what the world holds besides; Itoa, Atoi, Split as the proofs use them. -/
import Derived.Test.YtkdeikiloanllaaGreatDoorCM
import Derived.Test.YtkdeikiloanllaaGreatDoorSh
import Derived.Shelf.SlicesE.IndexFunc
import Derived.Shelf.SlicesQ.IndexFunc
import Derived.Lib.AppendIntMem
import Derived.Deep.RegionWith
import Derived.Deep.QuietTactic
import Derived.BigQuiet
set_option linter.unusedVariables false
set_option linter.unusedSimpArgs false
namespace Go.Proofs
open Go.Shelf
def Tryz.rixB : Go.Shelf.Ren := ⟨fun | 6 => 86 | 8 => 69 | n => n, fun | 0 => 0 | 3 => 3 | 4 => 4 | 22 => 22 | 23 => 5 | 25 => 111 | n => n, fun | n => n⟩
theorem Tryz.lixB : Go.Proofs.SlLaysH.n8 Tryz.prog Tryz.rixB := {
  mixed := by kernel_rfl
  f6 := ⟨Tryz.f86.name, by decide, Tryz.func86.trans (congrArg some (by kernel_rfl))⟩
  f8 := ⟨Tryz.f69.name, by decide, Tryz.func69.trans (congrArg some (by kernel_rfl))⟩
  t0 := Tryz.underlying0
  a0 := Tryz.isAgg0
  z0 := Tryz.sizeOf0
  v0 := Tryz.zeroValue0
  t3 := Tryz.underlying3
  a3 := Tryz.isAgg3
  z3 := Tryz.sizeOf3
  v3 := Tryz.zeroValue3
  t4 := Tryz.underlying4
  a4 := Tryz.isAgg4
  z4 := Tryz.sizeOf4
  v4 := Tryz.zeroValue4
  t22 := Tryz.underlying22
  a22 := Tryz.isAgg22
  z22 := Tryz.sizeOf22
  v22 := Tryz.zeroValue22
  a23 := Tryz.isAgg5
  z23 := Tryz.sizeOf5
  t25 := Tryz.underlying111
  a25 := Tryz.isAgg111
  z25 := Tryz.sizeOf111
  v25 := Tryz.zeroValue111 }
def Tryz.rixR : Go.Shelf.Ren := ⟨fun | 6 => 49 | 8 => 21 | n => n, fun | 0 => 0 | 3 => 3 | 4 => 4 | 22 => 51 | 23 => 53 | 25 => 71 | n => n, fun | n => n⟩
theorem Tryz.lixR : Go.Proofs.SlLaysH0.n8 Tryz.prog Tryz.rixR := {
  mixed := by kernel_rfl
  f6 := ⟨Tryz.f49.name, by decide, Tryz.func49.trans (congrArg some (by kernel_rfl))⟩
  f8 := ⟨Tryz.f21.name, by decide, Tryz.func21.trans (congrArg some (by kernel_rfl))⟩
  t0 := Tryz.underlying0
  a0 := Tryz.isAgg0
  z0 := Tryz.sizeOf0
  v0 := Tryz.zeroValue0
  t3 := Tryz.underlying3
  a3 := Tryz.isAgg3
  z3 := Tryz.sizeOf3
  v3 := Tryz.zeroValue3
  t4 := Tryz.underlying4
  a4 := Tryz.isAgg4
  z4 := Tryz.sizeOf4
  v4 := Tryz.zeroValue4
  t22 := Tryz.underlying51
  a22 := Tryz.isAgg51
  z22 := Tryz.sizeOf51
  v22 := Tryz.zeroValue51
  t25 := Tryz.underlying71
  a25 := Tryz.isAgg71
  z25 := Tryz.sizeOf71
  v25 := Tryz.zeroValue71 }
def Tryz.rixS : Go.Shelf.Ren := ⟨fun | 6 => 44 | n => n, fun | 0 => 0 | 3 => 3 | 4 => 4 | 22 => 44 | 23 => 48 | 25 => 87 | n => n, fun | n => n⟩
theorem Tryz.lixS : Go.Proofs.SlLaysH0.n6 Tryz.prog Tryz.rixS := {
  mixed := by kernel_rfl
  f6 := ⟨Tryz.f44.name, by decide, Tryz.func44.trans (congrArg some (by kernel_rfl))⟩
  t0 := Tryz.underlying0
  a0 := Tryz.isAgg0
  z0 := Tryz.sizeOf0
  v0 := Tryz.zeroValue0
  t3 := Tryz.underlying3
  a3 := Tryz.isAgg3
  z3 := Tryz.sizeOf3
  v3 := Tryz.zeroValue3
  t4 := Tryz.underlying4
  a4 := Tryz.isAgg4
  z4 := Tryz.sizeOf4
  v4 := Tryz.zeroValue4
  t22 := Tryz.underlying44
  a22 := Tryz.isAgg44
  z22 := Tryz.sizeOf44
  v22 := Tryz.zeroValue44
  t25 := Tryz.underlying87
  a25 := Tryz.isAgg87
  z25 := Tryz.sizeOf87
  v25 := Tryz.zeroValue87 }
end Go.Proofs
namespace Go.V
open Go.RowKit Go.Proofs Go.Sort

/-- What the proofs need of the package's variables, now and later: the table of tens; MaxLen is a number. -/
def EnvB (B : Nat) (w : World) : Prop := B ≤ w.heap.size ∧ ∀ w', Below B w w' → Lib.TabIs Tryz.prog w' "internal/strconv.uint64pow10" .u64 Lib.pow10Tab ∧ ∃ m, w'.cell? ⟨0, 0, none⟩ = some (.int .i64 m)
theorem EnvB.step {B : Nat} {w w' : World} (h : EnvB B w) (hb : Below B w w') : EnvB B w' := ⟨Nat.le_trans h.1 hb.size, fun w2 h2 => h.2 w2 (hb.trans h2)⟩
theorem EnvB.frm {B : Nat} {S : Nat → Prop} {w w' : World} (h : EnvB B w) (hf : Frm S w w') (hS : ∀ k, k < w.heap.size → S k → B ≤ k) : EnvB B w' :=
  h.step ⟨hf.os, hf.tape, hf.output, hf.size, fun k hk => hf.block k (Nat.lt_of_lt_of_le hk h.1) (fun hs => absurd (hS k (Nat.lt_of_lt_of_le hk h.1) hs) (by omega))⟩
theorem frm_grow {S : Nat → Prop} {w : World} (k : Nat) (os : Array Obj) : Frm S w (grow (w.drewN k) os) :=
  ⟨rfl, rfl, rfl, by show w.heap.size ≤ (w.heap ++ os).size; rw [Array.size_append]; omega, fun i hi _ => by show (w.heap ++ os)[i]? = w.heap[i]?; rw [Array.getElem?_append_left hi]⟩

theorem bytesBelow (w : World) (e : TypeId) (s : ByteArray) : Below w.heap.size w (Lib.bytesWorld w e s) :=
  ⟨rfl, rfl, rfl, by rw [Lib.bytesWorld_size]; omega, fun k hk => Lib.bytesWorld_at_old w e s k hk⟩
theorem Itoa_any {B : Nat} {w : World} (hE : EnvB B w) {n : Nat} (h : n < 1000) :
    Calls Tryz.prog 14 #[.int .i64 (n : Int)] w fun e w' => e = .returned (.string (txt (dec n))) ∧ Frm None' w w' :=
  (Tryz.strconv_Itoa (n : Int) (by omega) (by omega) w (hE.2 w (Below.refl _ _)).1).mono (by
    rintro e w' ⟨rfl, k, os, rfl⟩
    exact ⟨by rw [itoa_dec h]; rfl, frm_grow k os⟩)
theorem Split_any {B : Nat} {w : World} (hE : EnvB B w) (c : UInt8) (l : List UInt8) (hl : l.length < 4294967281) :
    Calls Tryz.prog 18 #[.string (txt l), .string ⟨#[c]⟩] w fun e w' => e = .returned (.slice (some ⟨w.heap.size, 0, none⟩) (pieces c l).length (pieces c l).length) ∧ w' = w.alloc (.cells ((pieces c l).map fun p => Value.string (txt p)).toArray 9 (0, 0)) := by
  obtain ⟨m, hm⟩ := (hE.2 w (Below.refl _ _)).2
  refine (Tryz.strings_Split (txt l) ⟨#[c]⟩ m w (by rw [size_txt]; exact hl) hm (Nat.le_refl 1)).mono ?_
  rintro e w' ⟨rfl, rfl⟩
  obtain ⟨h1, h2⟩ := splitB_pieces c l
  rw [h1, h2, List.map_map]
  exact ⟨rfl, rfl⟩
theorem Atoi_any {w : World} {l : List UInt8} {n : Int} (hl : l.length ≤ 18) (h : Lib.atoi l = some n) :
    Calls Tryz.prog 67 #[.string (txt l)] w fun e w' => e = .returned (.tuple #[.int .i64 n, .nilIface]) ∧ Frm None' w w' :=
  (Tryz.strconv_Atoi (txt l) n (by rw [size_txt]; exact hl) h w).mono (by
    rintro e w' ⟨rfl, t, rfl⟩
    exact ⟨rfl, Frm.of_below (bytesBelow _ _ _)⟩)
end Go.V
