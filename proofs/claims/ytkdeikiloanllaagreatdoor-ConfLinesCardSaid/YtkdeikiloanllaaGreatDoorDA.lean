/- The law's choices: names, rules. -/
import Derived.Test.YtkdeikiloanllaaGreatDoorC9
import Derived.Laws.Rows
import Derived.WalkSpells
set_option linter.unusedVariables false
set_option linter.unusedSimpArgs false
namespace Go.V
open Go.RowKit Go.Proofs
attribute [local go_sem ↓] Go.wp_at_zero Go.wp_at_succ
theorem name_eq : ∀ c : Fin 256, (⟨#[115, 118, 99, 45, 97, 47, 98, 46, 99, 95, 100, 126, 33, 71, 69, 84]⟩ : ByteArray).extract (c.val % 8) (c.val % 8 + 1 + c.val / 8 % 8) = txt (nameOf c.val) := by decide +kernel
theorem Name_any {w : World} {c : Nat} (hc : c < 256) :
    Calls Tryz.prog 60 #[.int .u8 (c : Int)] w fun e w' => e = .returned (.string (txt (nameOf c))) ∧ w' = w := by
  have h := hid (name_eq ⟨c, hc⟩)
  go_enter Tryz.func60, Tryz.ntmps60
  go_wp2
  go_ret
  exact ⟨by rw [← h.out]; rfl, rfl⟩
theorem mod5 (a : Nat) : a % 5 = 0 ∨ a % 5 = 1 ∨ a % 5 = 2 ∨ a % 5 = 3 ∨ a % 5 = 4 := by omega
set_option maxRecDepth 20000 in
set_option maxHeartbeats 1000000 in
theorem Rule_any {w : World} {a b : Nat} (ha : a < 256) (hb : b < 256) :
    Calls Tryz.prog 42 #[.int .u8 (a : Int), .int .u8 (b : Int)] w fun e w' => e = .returned (.agg (ruleOf a b).cells.toArray) ∧ Frm None' w w' := by
  rcases mod5 a with h | h | h | h | h
  · have e : (ruleOf a b).cells.toArray = #[.int .u8 1, .int .i64 (b : Int), .string ⟨#[]⟩, .string ⟨#[]⟩] := by unfold ruleOf; rw [if_pos h]; rfl
    rw [e]
    have h' : (a : Int) % 5 = 0 := by omega
    clear h e
    go_enter Tryz.func42, Tryz.ntmps42
    go_wp2
    refine bodyPost_ret (v := .agg #[.int .u8 1, .int .i64 (b : Int), .string ⟨#[]⟩, .string ⟨#[]⟩]) ?_ rfl ⟨rfl, (Frm.refl _ _).alloc _⟩
    exact results_cell_row (fn := Tryz.f42) (p := 4) (ty := 53) rfl _ _ w.heap.size _ _ _ _ rfl heap_alloc_at Tryz.underlying53 rfl (by kernel_rfl)
  · have e : (ruleOf a b).cells.toArray = #[.int .u8 2, .int .i64 0, .string ⟨#[]⟩, .string ⟨#[]⟩] := by unfold ruleOf; rw [if_neg (by omega), if_pos h]; rfl
    rw [e]
    have h' : (a : Int) % 5 = 1 := by omega
    clear h e
    go_enter Tryz.func42, Tryz.ntmps42
    go_wp2
    refine bodyPost_ret (v := .agg #[.int .u8 2, .int .i64 0, .string ⟨#[]⟩, .string ⟨#[]⟩]) ?_ rfl ⟨rfl, (Frm.refl _ _).alloc _⟩
    exact results_cell_row (fn := Tryz.f42) (p := 4) (ty := 53) rfl _ _ w.heap.size _ _ _ _ rfl heap_alloc_at Tryz.underlying53 rfl (by kernel_rfl)
  · have e : (ruleOf a b).cells.toArray = #[.int .u8 3, .int .i64 0, .string ⟨#[97]⟩, .string (txt (nameOf b))] := by unfold ruleOf; rw [if_neg (by omega), if_neg (by omega), if_pos h]; rfl
    rw [e]
    have h' : (a : Int) % 5 = 2 := by omega
    clear h e
    have HN := fun W => hid (Name_any (w := W) hb)
    generalize txt (nameOf b) = nb at *
    go_enter Tryz.func42, Tryz.ntmps42
    go_wp2_with (first | (go_at_call 60; ((with_reducible refine (HN _).out.mono ?_); rintro e w2 ⟨rfl, h2⟩; subst w2)))
    refine bodyPost_ret (v := .agg #[.int .u8 3, .int .i64 0, .string ⟨#[97]⟩, .string (nb)]) ?_ rfl ⟨rfl, (Frm.refl _ _).alloc _⟩
    exact results_cell_row (fn := Tryz.f42) (p := 4) (ty := 53) rfl _ _ w.heap.size _ _ _ _ rfl heap_alloc_at Tryz.underlying53 rfl (by kernel_rfl)
  · have e : (ruleOf a b).cells.toArray = #[.int .u8 4, .int .i64 ((b : Int) % 6), .string ⟨#[]⟩, .string ⟨#[]⟩] := by unfold ruleOf; rw [if_neg (by omega), if_neg (by omega), if_neg (by omega), if_pos h]; rfl
    rw [e]
    have h' : (a : Int) % 5 = 3 := by omega
    clear h e
    go_enter Tryz.func42, Tryz.ntmps42
    go_wp2
    refine bodyPost_ret (v := .agg #[.int .u8 4, .int .i64 ((b : Int) % 6), .string ⟨#[]⟩, .string ⟨#[]⟩]) ?_ rfl ⟨rfl, (Frm.refl _ _).alloc _⟩
    exact results_cell_row (fn := Tryz.f42) (p := 4) (ty := 53) rfl _ _ w.heap.size _ _ _ _ rfl heap_alloc_at Tryz.underlying53 rfl (by kernel_rfl)
  · have e : (ruleOf a b).cells.toArray = #[.int .u8 5, .int .i64 ((b : Int) * 281474976710656), .string ⟨#[]⟩, .string ⟨#[]⟩] := by unfold ruleOf; rw [if_neg (by omega), if_neg (by omega), if_neg (by omega), if_neg (by omega)]; rfl
    rw [e]
    have h' : (a : Int) % 5 = 4 := by omega
    clear h e
    go_enter Tryz.func42, Tryz.ntmps42
    go_wp2
    refine bodyPost_ret (v := .agg #[.int .u8 5, .int .i64 ((b : Int) * 281474976710656), .string ⟨#[]⟩, .string ⟨#[]⟩]) ?_ rfl ⟨rfl, (Frm.refl _ _).alloc _⟩
    exact results_cell_row (fn := Tryz.f42) (p := 4) (ty := 53) rfl _ _ w.heap.size _ _ _ _ rfl heap_alloc_at Tryz.underlying53 rfl (by kernel_rfl)
end Go.V
