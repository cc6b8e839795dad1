/- The law's known example: the walk. -/
import Derived.Test.YtkdeikiloanllaaGreatDoorDF
set_option linter.unusedVariables false
set_option linter.unusedSimpArgs false
namespace Go.V
open Go.RowKit Go.Proofs
attribute [local go_sem ↓] Go.wp_at_zero Go.wp_at_succ
theorem RulesRd_nil {S S' : Nat → Prop} {w W : World} {v : Value} (h : RulesRd S w v []) : RulesRd S' W v [] := by
  obtain ⟨vs, h1, _⟩ := h
  obtain ⟨a, c, e, h2, h3, _, h5⟩ := h1.form
  exact ⟨vs, ⟨h1.len, a, c, e, h2, h3, fun hp => absurd hp (by simp), h5⟩, fun i hi => absurd hi (by simp)⟩
theorem RightZero2 {w : World} :
    Calls Tryz.prog 8 #[.agg #[.int .i64 0, .int .i64 0, .int .i64 0, .int .u64 0, .slice none 0 0, .int .i64 0, .int .i64 0, .int .i64 0, .int .i64 0, .int .i64 0, .int .i64 0, .int .i64 0, .int .i64 0, .int .i64 0]] w fun e w' => e = .returned (.bool false) ∧ Frm None' w w' := RightZero
set_option maxRecDepth 20000 in
set_option maxHeartbeats 4000000 in
theorem known_any {B : Nat} {w : World} (hE : EnvB B w) :
    Calls Tryz.prog 6 #[] w fun e w' => e = .returned (.bool true) ∧ Frm None' w w' := by
  have HE := hid hE
  have hsz : (txt (cfgText [] [])).size ≤ 1000 := by rw [size_txt]; exact cfgText_len [] []
  obtain ⟨s, hs⟩ : ∃ s, s = txt (cfgText [] []) := ⟨_, rfl⟩
  have HP := fun (W : World) (S : Nat → Prop) (a : Option Addr) (c : Nat) (h1 : EnvB B W) (h2 : RulesRd S W (.slice a 0 c) []) => hid (Print_nil h1 h2)
  have HX := fun (W : World) (h1 : EnvB B W) => hid (Parse_ex2 h1 hs)
  rw [← hs] at hsz HP
  have Hs := hid hs
  clear hE hs
  go_enter Tryz.func6, Tryz.ntmps6
  go_wp2_with (first
    | (go_at_call 5; ((with_reducible refine Conf_nil.mono ?_); rintro e w1 ⟨a, c, rfl, r1, f1⟩; have R1 := hid r1; have F1 := hid f1; clear r1 f1))
    | (go_at_call 4; ((refine (HP _ _ _ _ (HE.out.none (F1.out.alloc _)) (R1.out.frm ((Frm.refl None' w1).alloc _) (fun _ _ q => q))).out.mono ?_); rintro e w2 ⟨rfl, f2⟩; have b2 := f2.heap (heap_alloc_at (w := w1)) (fun q => q); have B2 := hid b2; have F2 := hid ((F1.out.alloc _).trans f2 (fun _ _ q => q)); clear b2 f2))
    | (go_at_call 7; ((with_reducible refine (HX _ (HE.out.none F2.out)).out.mono ?_); rintro e w3 ⟨g, o, c1, g2, o2, c2, rfl, r3, f3⟩; have R3 := hid r3; have F3 := hid (F2.out.trans f3 (fun _ _ q => q)); have B3 := hid (f3.heap B2.out (fun q => q)); clear r3 f3))
    | (go_at_call 7; ((with_reducible refine (Parse_none (HE.out.none (F3.out.alloc _))).mono ?_); rintro e w4 ⟨rfl, f4⟩; have C4 := hid (f4.heap (heap_alloc_at (w := w3)) (fun q => q)); have B4 := hid (f4.heap ((heap_alloc_lt (lt_of_heap B3.out)).trans B3.out) (fun q => q)); have R4 := hid (R3.out.frm0 (((Frm.refl None' w3).alloc _).trans f4 (fun _ _ q => q))); have F4 := hid ((F3.out.alloc _).trans f4 (fun _ _ q => q)); clear f4))
    | (go_at_call 7; ((with_reducible refine (Parse_x (HE.out.none (F4.out.alloc _))).mono ?_); rintro e w5 ⟨rfl, f5⟩; have hc5 := f5.heap ((heap_alloc_lt (lt_of_heap C4.out)).trans C4.out) (fun q => q); have hb5 := f5.heap ((heap_alloc_lt (lt_of_heap B4.out)).trans B4.out) (fun q => q); have R5 := hid (R4.out.frm0 (((Frm.refl None' w4).alloc _).trans f5 (fun _ _ q => q))); have F5 := hid ((F4.out.alloc _).trans f5 (fun _ _ q => q)); have x1 := cell_of hb5; have x4 := cell_of hc5; have z1 := lt_of_heap hb5; have z4 := lt_of_heap hc5; have q0 := R5.out.row; have qa0 := R5.out.a0; have qa1 := R5.out.a1; have qa2 := R5.out.a2; have qa3 := R5.out.a3; have qb0 := R5.out.b0; have qb1 := R5.out.b1; have qb2 := R5.out.b2; have qb3 := R5.out.b3; have zl1 := R5.out.lt.1; have zl2 := R5.out.lt.2; clear f5 hc5 hb5))
    | (go_at_call 8; ((with_reducible refine (Right_ex (RulesRd_nil (S' := fun _ => True) R1.out)).mono ?_); rintro e w6 ⟨rfl, f6⟩; have F6 := hid ((F5.out.alloc _).trans f6 (fun _ _ q => q)); clear f6))
    | (go_at_call 8; ((with_reducible refine RightZero2.mono ?_); rintro e w7 ⟨rfl, f7⟩; have F7 := hid (F6.out.trans f7 (fun _ _ q => q)); clear f7)))
  go_ret
  exact ⟨rfl, F7.out⟩
end Go.V
