/- Reading a rule: has. -/
import Derived.Test.YtkdeikiloanllaaGreatDoorCB
import Derived.Deep.RegionHeld3
import Derived.Deep.DrawnRows
set_option linter.unusedVariables false
set_option linter.unusedSimpArgs false
namespace Go.V
open Go.RowKit Go.Proofs
attribute [local go_sem ↓] Go.wp_at_zero Go.wp_at_succ
theorem Frm.at_ {W w1 : World} (f : Frm None' W w1) {b : Nat} (h : b < W.heap.size) : (∀ o, w1.cell? ⟨b, o, none⟩ = W.cell? ⟨b, o, none⟩) ∧ (∀ o, w1.frozen? ⟨b, o, none⟩ = W.frozen? ⟨b, o, none⟩) :=
  ⟨fun o => f.below.cell (p := ⟨b, o, none⟩) h, fun o => f.below.frozen (p := ⟨b, o, none⟩) h⟩
set_option maxRecDepth 20000 in
set_option maxHeartbeats 2000000 in
/-- "has K V" -/
theorem rule_has {w : World} {S : Nat → Prop} {v : Value} {k l : List UInt8} (hk : isWord k = true) (hl : isWord l = true) (hR : RdW S w v [[104, 97, 115], k, l]) :
    Calls Tryz.prog 65 #[v] w fun e w' => e = .returned (.tuple #[.agg #[.int .u8 3, .int .i64 0, .string (txt k), .string (txt l)], .bool true]) ∧ Frm None' w w' := by
  have hK := fun W => hid (word_any (w := W) hk)
  have hL := fun W => hid (word_any (w := W) hl)
  obtain ⟨g, o, c, e1, _, hlt, hc, hcell⟩ := hR.cells (by simp)
  have c0 := hcell 0 _ rfl
  have c1 := hcell 1 _ rfl
  have c2 := hcell 2 _ rfl
  have hc9 := hR.slice
  clear hR hcell hk hl
  rw [Nat.add_zero] at c0
  change w.cell? _ = some (.string ⟨#[104, 97, 115]⟩) at c0
  change w.cell? _ = some (.string (txt k)) at c1
  change w.cell? ⟨g, o + 1 + 1, none⟩ = some (.string (txt l)) at c2
  have hlen : ([[104, 97, 115], k, l] : List (List UInt8)).length = 3 := rfl
  rw [hlen] at e1 hc hc9
  have hmax : c ≤ 9223372036854775807 := by obtain ⟨a', c', e2, h2, h3⟩ := hc9; rw [e1] at e2; injection e2 with _ _ e4; omega
  generalize hkk : txt k = kk at hK c1
  generalize hll : txt l = ll at hL c2
  have HK := hid hkk
  have HLL := hid hll
  clear hkk hll
  subst e1
  clear hc9 hlen
  have mixed : Tryz.prog.follows .mixedOrders = true := by kernel_rfl
  have n1 := World.new_ne w _ c1
  have n2 := World.new_ne w _ c2
  go_enter Tryz.func65, Tryz.ntmps65
  go_wp2
  go_quiet (fail)
  go_wp2
  go_region_held3 (fun w' => w'.cell? ⟨g, o + 1, none⟩ = some (.string kk) ∧ w'.cell? ⟨g, o + 1 + 1, none⟩ = some (.string ll)) (go_keep) (first
    | (go_at_call 50; with_reducible refine (hK _).out.mono ?_; rintro e w1 ⟨rfl, f1⟩; obtain ⟨q1, q2⟩ := f1.at_ (b := g) (by first | omega | (simp; omega)); obtain ⟨q3, q4⟩ := f1.at_ (b := w.heap.size) (by first | omega | simp); have z1 : w.heap.size < w1.heap.size := (by have := f1.size; first | omega | (simp at this; omega)); have F1 := hid f1; clear f1)
    | (go_at_call 50; with_reducible refine (hL _).out.mono ?_; rintro e w2 ⟨rfl, f2⟩; obtain ⟨q5, q6⟩ := f2.at_ (b := g) (by first | omega | (simp; omega)); obtain ⟨q7, q8⟩ := f2.at_ (b := w.heap.size) (by first | omega | (simp; omega)); have z2 : w.heap.size < w2.heap.size := (by have := f2.size; first | omega | (simp at this; omega)); have F2 := hid f2; clear f2))
  all_goals go_wp2
  all_goals (try simp only [Exit.inBlock, Exit.then])
  all_goals refine bodyPost_ret (v := .tuple #[.agg #[.int .u8 3, .int .i64 0, .string kk, .string ll], .bool true]) ?_ rfl ⟨rfl, ?_⟩
  all_goals first
    | (rw [results_cell_tmp rfl]; go_simp; done)
    | (repeat' (refine Frm.setCell ?_ _ _ (fun q => absurd q (Nat.lt_irrefl _)))
       refine Frm.trans ?_ F2.out (fun _ _ q => q)
       refine Frm.trans ?_ F1.out (fun _ _ q => q)
       exact ((Frm.refl _ _).alloc _).drewN _)
end Go.V
