/- Reading a number. -/
import Derived.Test.YtkdeikiloanllaaGreatDoorCJ
set_option linter.unusedVariables false
set_option linter.unusedSimpArgs false
namespace Go.V
open Go.RowKit Go.Proofs
set_option maxRecDepth 20000 in
theorem number_any {B : Nat} {w : World} (hE : EnvB B w) {n : Nat} (h : n < 300) :
    Calls Tryz.prog 48 #[.string (txt (dec n))] w fun e w' => e = .returned (.tuple #[.int .i64 (n : Int), .bool true]) ∧ Frm None' w w' := by
  obtain ⟨h1, h2, h3, h4, h5⟩ := dec_facts ⟨n, h⟩
  simp only at h1 h2
  have HA := fun W => hid (Atoi_any (w := W) (l := dec n) (n := (n : Int)) (by omega) h1)
  have HI := fun W (f : Frm None' w W) => hid (Itoa_any (hE.none f) (n := n) (by omega))
  have hz : (txt (dec n)).size ≤ 15 := by rw [size_txt]; omega
  have h0 : ¬ (n : Int) < 0 := by omega
  clear h1 h2 h3 h4 h5 hE
  generalize txt (dec n) = s at *
  go_enter Tryz.func48, Tryz.ntmps48
  go_wp2_with (first
    | (go_at_call 67; refine (HA _).out.mono ?_; rintro e w2 ⟨rfl, f2⟩; have HI2 := HI _ f2; have F2 := hid f2; clear f2 HI HA)
    | (go_at_call 14; refine HI2.out.mono ?_; rintro e w3 ⟨rfl, f3⟩; have F3 := hid f3; clear f3 HI2))
  go_ret2
  exact ⟨rfl, F2.out.trans F3.out (fun _ _ q => q)⟩
end Go.V
