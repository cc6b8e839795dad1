/- Reading a rule. -/
import Derived.Test.YtkdeikiloanllaaGreatDoorCA
import Derived.Laws.ResultCell
set_option linter.unusedVariables false
set_option linter.unusedSimpArgs false
namespace Go.V
open Go.RowKit Go.Proofs
set_option maxRecDepth 20000 in
set_option maxHeartbeats 2000000 in
/-- "slow N" -/
theorem rule_slow {B : Nat} {w : World} {S : Nat → Prop} {v : Value} (hE : EnvB B w) {n : Nat} (h : n < 300) (hR : RdW S w v [[115, 108, 111, 119], dec n]) :
    Calls Tryz.prog 65 #[v] w fun e w' => e = .returned (.tuple #[.agg #[.int .u8 1, .int .i64 (n : Int), .string ⟨#[]⟩, .string ⟨#[]⟩], .bool true]) ∧ Frm None' w w' := by
  have HN := fun W (f : Frm None' w W) => hid (number_any (hE.none f) h)
  have HR := hid hR
  obtain ⟨g, o, c, e1, _, hlt, hc, hcell⟩ := hR.cells (by simp)
  have c0 := hcell 0 _ rfl
  have c1 := hcell 1 _ rfl
  have hc9 := hR.slice
  clear hR hcell hE
  rw [Nat.add_zero] at c0
  change w.cell? _ = some (.string ⟨#[115, 108, 111, 119]⟩) at c0
  change w.cell? _ = some (.string (txt (dec n))) at c1
  generalize txt (dec n) = s at HN c1
  have hlen : ([[115, 108, 111, 119], dec n] : List (List UInt8)).length = 2 := rfl
  rw [hlen] at e1 hc hc9
  have hmax : c ≤ 9223372036854775807 := by obtain ⟨a', c', e2, h2, h3⟩ := hc9; rw [e1] at e2; injection e2 with _ _ e4; omega
  subst e1
  clear hc9 hlen HR
  have mixed : Tryz.prog.follows .mixedOrders = true := by kernel_rfl
  go_enter Tryz.func65, Tryz.ntmps65
  go_wp2
  go_quiet (fail)
  go_wp2_with (first
    | (go_at_call 48; refine (HN _ ((((Frm.refl None' w).alloc _).drewN _).setCell _ _ (fun q => absurd q (Nat.lt_irrefl _)))).out.mono ?_; rintro e w2 ⟨rfl, f2⟩; have bx := f2.heap (heap_setCell_at (by exact heap_alloc_at (w := w)) 0 (.int .u8 1)) (fun q => q); have F2 := hid ((((Frm.refl None' w).alloc (.cells #[.int .u8 0, .int .i64 0, .string ⟨#[]⟩, .string ⟨#[]⟩] 53)).setCell ⟨w.heap.size, 0, none⟩ (.int .u8 1) (fun q => absurd q (Nat.lt_irrefl _))).trans (Frm.mk f2.os f2.tape f2.output f2.size f2.block) (fun _ _ q => q)); clear f2 HN; have cc := cell_of bx; have ff := free_of bx; clear bx))
  (try simp only [Exit.inBlock, Exit.then])
  refine bodyPost_ret (v := .tuple #[.agg #[.int .u8 1, .int .i64 (n : Int), .string ⟨#[]⟩, .string ⟨#[]⟩], .bool true]) ?_ rfl ⟨rfl, ?_⟩
  · rw [results_cell_tmp rfl]
    go_simp
  · repeat' (refine Frm.setCell ?_ _ _ (fun q => absurd q (Nat.lt_irrefl _)))
    exact F2.out
set_option maxRecDepth 20000 in
set_option maxHeartbeats 2000000 in
/-- "many N" -/
theorem rule_many {B : Nat} {w : World} {S : Nat → Prop} {v : Value} (hE : EnvB B w) {n : Nat} (h : n < 300) (hR : RdW S w v [[109, 97, 110, 121], dec n]) :
    Calls Tryz.prog 65 #[v] w fun e w' => e = .returned (.tuple #[.agg #[.int .u8 4, .int .i64 (n : Int), .string ⟨#[]⟩, .string ⟨#[]⟩], .bool true]) ∧ Frm None' w w' := by
  have HN := fun W (f : Frm None' w W) => hid (number_any (hE.none f) h)
  have HR := hid hR
  obtain ⟨g, o, c, e1, _, hlt, hc, hcell⟩ := hR.cells (by simp)
  have c0 := hcell 0 _ rfl
  have c1 := hcell 1 _ rfl
  have hc9 := hR.slice
  clear hR hcell hE
  rw [Nat.add_zero] at c0
  change w.cell? _ = some (.string ⟨#[109, 97, 110, 121]⟩) at c0
  change w.cell? _ = some (.string (txt (dec n))) at c1
  generalize txt (dec n) = s at HN c1
  have hlen : ([[109, 97, 110, 121], dec n] : List (List UInt8)).length = 2 := rfl
  rw [hlen] at e1 hc hc9
  have hmax : c ≤ 9223372036854775807 := by obtain ⟨a', c', e2, h2, h3⟩ := hc9; rw [e1] at e2; injection e2 with _ _ e4; omega
  subst e1
  clear hc9 hlen HR
  have mixed : Tryz.prog.follows .mixedOrders = true := by kernel_rfl
  go_enter Tryz.func65, Tryz.ntmps65
  go_wp2
  go_quiet (fail)
  go_wp2_with (first
    | (go_at_call 48; refine (HN _ ((((Frm.refl None' w).alloc _).drewN _).setCell _ _ (fun q => absurd q (Nat.lt_irrefl _)))).out.mono ?_; rintro e w2 ⟨rfl, f2⟩; have bx := f2.heap (heap_setCell_at (by exact heap_alloc_at (w := w)) 0 (.int .u8 4)) (fun q => q); have F2 := hid ((((Frm.refl None' w).alloc (.cells #[.int .u8 0, .int .i64 0, .string ⟨#[]⟩, .string ⟨#[]⟩] 53)).setCell ⟨w.heap.size, 0, none⟩ (.int .u8 4) (fun q => absurd q (Nat.lt_irrefl _))).trans (Frm.mk f2.os f2.tape f2.output f2.size f2.block) (fun _ _ q => q)); clear f2 HN; have cc := cell_of bx; have ff := free_of bx; clear bx))
  (try simp only [Exit.inBlock, Exit.then])
  refine bodyPost_ret (v := .tuple #[.agg #[.int .u8 4, .int .i64 (n : Int), .string ⟨#[]⟩, .string ⟨#[]⟩], .bool true]) ?_ rfl ⟨rfl, ?_⟩
  · rw [results_cell_tmp rfl]
    go_simp
  · repeat' (refine Frm.setCell ?_ _ _ (fun q => absurd q (Nat.lt_irrefl _)))
    exact F2.out
set_option maxRecDepth 20000 in
set_option maxHeartbeats 2000000 in
/-- "bad" -/
theorem rule_bad {w : World} {S : Nat → Prop} {v : Value} (hR : RdW S w v [[98, 97, 100]]) :
    Calls Tryz.prog 65 #[v] w fun e w' => e = .returned (.tuple #[.agg #[.int .u8 2, .int .i64 0, .string ⟨#[]⟩, .string ⟨#[]⟩], .bool true]) ∧ Frm None' w w' := by
  obtain ⟨g, o, c, e1, _, hlt, hc, hcell⟩ := hR.cells (by simp)
  have c0 := hcell 0 _ rfl
  have hc9 := hR.slice
  clear hR hcell
  rw [Nat.add_zero] at c0
  change w.cell? _ = some (.string ⟨#[98, 97, 100]⟩) at c0
  have hlen : ([[98, 97, 100]] : List (List UInt8)).length = 1 := rfl
  rw [hlen] at e1 hc hc9
  have hmax : c ≤ 9223372036854775807 := by obtain ⟨a', c', e2, h2, h3⟩ := hc9; rw [e1] at e2; injection e2 with _ _ e4; omega
  subst e1
  clear hc9 hlen
  have mixed : Tryz.prog.follows .mixedOrders = true := by kernel_rfl
  go_enter Tryz.func65, Tryz.ntmps65
  go_wp2
  go_quiet (fail)
  go_wp2
  all_goals (try simp only [Exit.inBlock, Exit.then])
  all_goals refine bodyPost_ret (v := .tuple #[.agg #[.int .u8 2, .int .i64 0, .string ⟨#[]⟩, .string ⟨#[]⟩], .bool true]) ?_ rfl ⟨rfl, ?_⟩
  all_goals first
    | (rw [results_cell_tmp rfl]; go_simp; done)
    | (repeat' (refine Frm.setCell ?_ _ _ (fun q => absurd q (Nat.lt_irrefl _)))
       exact ((Frm.refl _ _).alloc _).drewN _)
set_option maxRecDepth 20000 in
set_option maxHeartbeats 2000000 in
/-- "share T" -/
theorem rule_share {w : World} {S : Nat → Prop} {v : Value} {t : List UInt8} {T : Nat} (h0 : t ≠ []) (hl : t.length ≤ 14) (hx : t.all (fun c => decide (0 ≤ Lib.indexByte hexd c)) = true) (hT : parseGo 0 0 t = T) (hT2 : T < 72057594037927936) (hR : RdW S w v [[115, 104, 97, 114, 101], t]) :
    Calls Tryz.prog 65 #[v] w fun e w' => e = .returned (.tuple #[.agg #[.int .u8 5, .int .i64 (T : Int), .string ⟨#[]⟩, .string ⟨#[]⟩], .bool true]) ∧ Frm None' w w' := by
  have HN := fun W => hid (PParse_any (w := W) h0 hl hx)
  rw [hT] at HN
  have hw1 : IntKind.i64.wrap (T : Int) = (T : Int) := by
    have : ∀ n : Nat, n < 9223372036854775808 → IntKind.i64.wrap (n : Int) = (n : Int) := by
      intro n hn
      simp [IntKind.wrap, IntKind.bits, IntKind.signed]
      omega
    exact this T (by omega)
  clear hT2
  obtain ⟨g, o, c, e1, _, hlt, hc, hcell⟩ := hR.cells (by simp)
  have c0 := hcell 0 _ rfl
  have c1 := hcell 1 _ rfl
  have hc9 := hR.slice
  clear hR hcell
  rw [Nat.add_zero] at c0
  change w.cell? _ = some (.string ⟨#[115, 104, 97, 114, 101]⟩) at c0
  change w.cell? _ = some (.string (txt t)) at c1
  have hlen : ([[115, 104, 97, 114, 101], t] : List (List UInt8)).length = 2 := rfl
  rw [hlen] at e1 hc hc9
  have hmax : c ≤ 9223372036854775807 := by obtain ⟨a', c', e2, h2, h3⟩ := hc9; rw [e1] at e2; injection e2 with _ _ e4; omega
  generalize txt t = s at HN c1
  subst e1
  clear hc9 hlen h0 hl hx
  have mixed : Tryz.prog.follows .mixedOrders = true := by kernel_rfl
  go_enter Tryz.func65, Tryz.ntmps65
  go_wp2
  go_quiet (fail)
  go_wp2_with (first
    | (go_at_call 47; refine (HN _).out.mono ?_; rintro e w2 ⟨rfl, rfl⟩))
  all_goals (try simp only [Exit.inBlock, Exit.then])
  all_goals refine bodyPost_ret (v := .tuple #[.agg #[.int .u8 5, .int .i64 (T : Int), .string ⟨#[]⟩, .string ⟨#[]⟩], .bool true]) ?_ rfl ⟨rfl, ?_⟩
  all_goals first
    | (rw [results_cell_tmp rfl]; go_simp; done)
    | (repeat' (refine Frm.setCell ?_ _ _ (fun q => absurd q (Nat.lt_irrefl _)))
       exact ((Frm.refl _ _).alloc _).drewN _)
set_option maxRecDepth 20000 in
set_option maxHeartbeats 2000000 in
/-- "nothing ..": no rule -/
theorem rule_nothing {w : World} {S : Nat → Prop} {v : Value} {rest : List (List UInt8)} (hR : RdW S w v ([110, 111, 116, 104, 105, 110, 103] :: rest)) :
    Calls Tryz.prog 65 #[v] w fun e w' => e = .returned (.tuple #[.agg #[.int .u8 0, .int .i64 0, .string ⟨#[]⟩, .string ⟨#[]⟩], .bool false]) ∧ Frm None' w w' := by
  obtain ⟨g, o, c, e1, _, hlt, hc, hcell⟩ := hR.cells (by simp)
  have c0 := hcell 0 _ rfl
  have hc9 := hR.slice
  clear hR hcell
  rw [Nat.add_zero] at c0
  change w.cell? _ = some (.string ⟨#[110, 111, 116, 104, 105, 110, 103]⟩) at c0
  obtain ⟨n, hn⟩ : ∃ n, n = rest.length := ⟨_, rfl⟩
  have hlen : ([110, 111, 116, 104, 105, 110, 103] :: rest : List (List UInt8)).length = n + 1 := by rw [hn]; rfl
  rw [hlen] at e1 hc hc9
  have hmax : c ≤ 9223372036854775807 := by obtain ⟨a', c', e2, h2, h3⟩ := hc9; rw [e1] at e2; injection e2 with _ _ e4; omega
  subst e1
  clear hc9 hlen hn
  have mixed : Tryz.prog.follows .mixedOrders = true := by kernel_rfl
  have hn0 : ¬ ((n + 1 : Nat) : Int) = 0 := by omega
  go_enter Tryz.func65, Tryz.ntmps65
  go_wp2
  go_quiet (fail)
  go_wp2
  all_goals (try simp only [Exit.inBlock, Exit.then])
  all_goals refine bodyPost_ret (v := .tuple #[.agg #[.int .u8 0, .int .i64 0, .string ⟨#[]⟩, .string ⟨#[]⟩], .bool false]) ?_ rfl ⟨rfl, ?_⟩
  all_goals first
    | (rw [results_cell_tmp rfl]; go_simp; done)
    | (repeat' (refine Frm.setCell ?_ _ _ (fun q => absurd q (Nat.lt_irrefl _)))
       exact ((Frm.refl _ _).alloc _).drewN _)
end Go.V
