/- conf.Right. -/
import Derived.Test.YtkdeikiloanllaaGreatDoorC3
import Derived.Laws.EntriesVeiled
set_option linter.unusedVariables false
set_option linter.unusedSimpArgs false
namespace Go.V
open Go.RowKit Go.Proofs

/-- a configuration's numbers by their settings -/
def num (ns : List Nat) (i : Nat) : Value := .int .i64 (ns.getD i 0 : Nat)
def confCells (ns : List Nat) (T : Nat) (v : Value) : List Value := [num ns 0, num ns 1, num ns 2, .int .u64 (T : Int), v, num ns 3, num ns 4, num ns 5, num ns 6, num ns 7, num ns 8, num ns 9, num ns 10, num ns 11]
theorem confCells_at (ns : List Nat) (T : Nat) (v : Value) {i : Nat} (hi : i < 12) : (confCells ns T v)[setOff i]? = some (num ns i) := by
  match i, hi with
  | 0, _ => rfl
  | 1, _ => rfl
  | 2, _ => rfl
  | 3, _ => rfl
  | 4, _ => rfl
  | 5, _ => rfl
  | 6, _ => rfl
  | 7, _ => rfl
  | 8, _ => rfl
  | 9, _ => rfl
  | 10, _ => rfl
  | 11, _ => rfl
theorem setAll_at {i : Nat} (hi : i < 12) (j : Nat) (hj : j < 4) : setAllCells[i * 4 + j]? = (setCells i)[j]? := by
  match i, hi, j, hj with
  | 0, _, 0, _ => rfl
  | 0, _, 1, _ => rfl
  | 0, _, 2, _ => rfl
  | 0, _, 3, _ => rfl
  | 1, _, 0, _ => rfl
  | 1, _, 1, _ => rfl
  | 1, _, 2, _ => rfl
  | 1, _, 3, _ => rfl
  | 2, _, 0, _ => rfl
  | 2, _, 1, _ => rfl
  | 2, _, 2, _ => rfl
  | 2, _, 3, _ => rfl
  | 3, _, 0, _ => rfl
  | 3, _, 1, _ => rfl
  | 3, _, 2, _ => rfl
  | 3, _, 3, _ => rfl
  | 4, _, 0, _ => rfl
  | 4, _, 1, _ => rfl
  | 4, _, 2, _ => rfl
  | 4, _, 3, _ => rfl
  | 5, _, 0, _ => rfl
  | 5, _, 1, _ => rfl
  | 5, _, 2, _ => rfl
  | 5, _, 3, _ => rfl
  | 6, _, 0, _ => rfl
  | 6, _, 1, _ => rfl
  | 6, _, 2, _ => rfl
  | 6, _, 3, _ => rfl
  | 7, _, 0, _ => rfl
  | 7, _, 1, _ => rfl
  | 7, _, 2, _ => rfl
  | 7, _, 3, _ => rfl
  | 8, _, 0, _ => rfl
  | 8, _, 1, _ => rfl
  | 8, _, 2, _ => rfl
  | 8, _, 3, _ => rfl
  | 9, _, 0, _ => rfl
  | 9, _, 1, _ => rfl
  | 9, _, 2, _ => rfl
  | 9, _, 3, _ => rfl
  | 10, _, 0, _ => rfl
  | 10, _, 1, _ => rfl
  | 10, _, 2, _ => rfl
  | 10, _, 3, _ => rfl
  | 11, _, 0, _ => rfl
  | 11, _, 1, _ => rfl
  | 11, _, 2, _ => rfl
  | 11, _, 3, _ => rfl
theorem enters_set {i : Nat} (hi : i < 12) : ∀ args w, (callFunc (setFn.getD i 0) args).run Tryz.prog w = .ok (.enter (setFn.getD i 0) args) w := by
  match i, hi with
  | 0, _ => exact enters_of Tryz.func25 (by kernel_rfl) rfl
  | 1, _ => exact enters_of Tryz.func26 (by kernel_rfl) rfl
  | 2, _ => exact enters_of Tryz.func27 (by kernel_rfl) rfl
  | 3, _ => exact enters_of Tryz.func28 (by kernel_rfl) rfl
  | 4, _ => exact enters_of Tryz.func29 (by kernel_rfl) rfl
  | 5, _ => exact enters_of Tryz.func30 (by kernel_rfl) rfl
  | 6, _ => exact enters_of Tryz.func31 (by kernel_rfl) rfl
  | 7, _ => exact enters_of Tryz.func32 (by kernel_rfl) rfl
  | 8, _ => exact enters_of Tryz.func33 (by kernel_rfl) rfl
  | 9, _ => exact enters_of Tryz.func34 (by kernel_rfl) rfl
  | 10, _ => exact enters_of Tryz.func35 (by kernel_rfl) rfl
  | 11, _ => exact enters_of Tryz.func36 (by kernel_rfl) rfl
def confOk (ns : List Nat) (T : Nat) (rows : List (List PR)) : Prop :=
  (∀ i, i < 12 → setLo.getD i 0 ≤ ns.getD i 0 ∧ ns.getD i 0 ≤ setHi.getD i 0) ∧ T < 72057594037927936 ∧ ns.getD 10 0 ≤ ns.getD 11 0 ∧ rowsOk rows ∧ sumRows rows ≤ 20
set_option maxRecDepth 20000 in
theorem Right_any {w : World} {S : Nat → Prop} {ns : List Nat} {T : Nat} {v : Value} {rows : List (List PR)} (hR : RulesRd S w v rows) (hok : confOk ns T rows) :
    Calls Tryz.prog 8 #[.agg (confCells ns T v).toArray] w fun e w' => e = .returned (.bool true) ∧ Frm None' w w' := by
  have H := hid hR
  have Hok := hid hok
  obtain ⟨a, c, rfl, _⟩ := hR.slice
  clear hR hok
  have hT : ((T : Int) < 72057594037927936) := by have := Hok.out.2.1; omega
  have hb : ((ns.getD 10 0 : Nat) : Int) ≤ ((ns.getD 11 0 : Nat) : Int) := by have := Hok.out.2.2.1; omega
  have HT := hid hT
  have HB := hid hb
  clear hT hb
  show Calls _ _ #[.agg #[num ns 0, num ns 1, num ns 2, .int .u64 (T : Int), _, num ns 3, num ns 4, num ns 5, num ns 6, num ns 7, num ns 8, num ns 9, num ns 10, num ns 11]] _ _
  go_enter Tryz.func8, Tryz.ntmps8
  generalize hW : (72057594037927936 : Int) = WH
  rw [hW] at HT
  clear hW
  have hS := fun (w1 : World) (e1 : w1 = (w.alloc (.cells (confCells ns T (.slice a rows.length c)).toArray 30)).alloc (.cells setAllCells.toArray 48)) =>
    (show Hid (w1.heap[w.heap.size + 1]? = some (.cells setAllCells.toArray 48 (0, 0)) ∧ w1.heap[w.heap.size]? = some (.cells (confCells ns T (.slice a rows.length c)).toArray 30 (0, 0)) ∧ Frm None' w w1) from by
      refine hid ⟨?_, ?_, ?_⟩
      · rw [e1, show w.heap.size + 1 = (w.alloc (.cells (confCells ns T (.slice a rows.length c)).toArray 30)).heap.size from by simp]; exact heap_alloc_at
      · rw [e1, heap_alloc_lt (by simp)]; exact heap_alloc_at
      · rw [e1]; exact ((Frm.refl _ _).alloc _).alloc _)
  go_wp2_with (first | (go_at_call 9; refine (settings_any _).mono ?_; rintro e w1 ⟨rfl, e1⟩; have HS := hS w1 e1; clear e1 hS))
  go_loopw [9] (fun i wr => ∃ k : Nat, k ≤ 12 ∧ i = .int .i64 k ∧ Frm None' w1 wr) (fun i _ => 12 - (RowKit.intOf i).toNat)
  case atStart => exact ⟨0, by omega, rfl, Frm.refl _ _⟩
  case round =>
    obtain ⟨k, hk, rfl, hf⟩ := hrel
    have hsb := hf.heap HS.out.1 (fun q => q)
    have hcb := hf.heap HS.out.2.1 (fun q => q)
    have Hf := hid hf
    clear hf
    by_cases hlt : k < 12
    · have d := fun j (hj : j < 4) => (cell_of hsb (k * 4 + j)).trans (by rw [List.getElem?_toArray, setAll_at hlt j hj])
      have d0 := d 0 (by omega)
      have d1 := d 1 (by omega)
      have d2 := d 2 (by omega)
      have d3 := d 3 (by omega)
      have f0 := (cell_of hcb (0 + setOff k)).trans (by rw [List.getElem?_toArray, Nat.zero_add, confCells_at ns T _ hlt])
      obtain ⟨hlo, hhi⟩ := Hok.out.1 k hlt
      have hset := fun W b o => hid (set_of hlt b o W)
      have eg := enters_set hlt
      clear d hsb hcb
      simp only [setCells, num] at d0 d1 d2 d3 f0
      generalize txt (setNm.getD k []) = nm at d0 d1 d2 d3
      generalize setFn.getD k 0 = fn at d0 d1 d2 d3 hset eg
      generalize setLo.getD k 0 = lo at d0 d1 d2 d3 hlo
      generalize setHi.getD k 0 = hi at d0 d1 d2 d3 hhi
      generalize setOff k = off at hset f0
      generalize ns.getD k 0 = n at f0 hlo hhi
      simp at d0 d1 d2 d3
      have z1 : ¬ (n : Int) < (lo : Int) := by omega
      have z2 : ¬ (n : Int) > (hi : Int) := by omega
      clear hlo hhi
      have hs1 : w.heap.size + 1 < wr.heap.size := lt_of_heap (Hf.out.heap HS.out.1 (fun q => q))
      have hs0 : w.heap.size < wr.heap.size := by omega
      rw [Nat.zero_add] at f0
      go_wp2_with (first | (go_at_fn fn; refine (hset _ _ _).out.mono ?_; rintro e w2 ⟨rfl, rfl⟩))
      go_roundw
      case rel => exact ⟨k + 1, by omega, by go_num, Hf.out.alloc _⟩
      case measure => simp [RowKit.intOf]; omega
    · have hk12 : k = 12 := by omega
      subst hk12
      have cc := fun i => cell_of hcb i
      have c3 := cc 3
      have c4 := cc 4
      have c12 := cc 12
      have c13 := cc 13
      clear cc hsb hcb
      simp only [confCells, num, List.getElem?_toArray, List.getElem?_cons_succ, List.getElem?_cons_zero] at c3 c4 c12 c13
      have hR2 := (H.out.frm (HS.out.2.2.trans Hf.out (fun _ _ q => q)) (fun _ _ q => q))
      have HC1 := hid (pRight_any hR2 Hok.out.2.2.2.1 Hok.out.2.2.2.2)
      have HC2 := fun W (f : Frm None' wr W) => hid (ContainsRows (w := W) (hR2.frm f (fun _ _ q => q)) Hok.out.2.2.2.1)
      clear hR2
      have hT := HT.out
      have hb := HB.out
      generalize ns.getD 10 0 = n10 at c12 hb
      generalize ns.getD 11 0 = n11 at c13 hb
      clear hk hlt
      go_wp2_with (first
        | (go_at_call 23; with_reducible refine HC1.out.mono ?_; rintro e w2 ⟨rfl, f2⟩; have HC3 := HC2 _ f2; have F2 := hid f2; clear f2 HC1 HC2; have b4 := (F2.out.heap (Hf.out.heap HS.out.2.1 (fun q => q)) (fun q => q)); have c5 := cell_of b4 4; clear b4; simp only [confCells, List.getElem?_toArray, List.getElem?_cons_succ, List.getElem?_cons_zero] at c5)
        | (go_at_call 24; with_reducible refine HC3.out.mono ?_; rintro e w3 ⟨rfl, f3⟩; have F3 := hid f3; clear f3))
      go_ret
      exact ⟨rfl, HS.out.2.2.trans (Hf.out.trans (F2.out.trans F3.out (fun _ _ q => q)) (fun _ _ q => q)) (fun _ _ q => q)⟩
set_option maxRecDepth 20000 in
/-- a configuration of zeros is not right -/
theorem RightZero {w : World} :
    Calls Tryz.prog 8 #[.agg (confCells [] 0 (.slice none 0 0)).toArray] w fun e w' => e = .returned (.bool false) ∧ Frm None' w w' := by
  show Calls _ _ #[.agg #[.int .i64 0, .int .i64 0, .int .i64 0, .int .u64 0, .slice none 0 0, .int .i64 0, .int .i64 0, .int .i64 0, .int .i64 0, .int .i64 0, .int .i64 0, .int .i64 0, .int .i64 0, .int .i64 0]] _ _
  go_enter Tryz.func8, Tryz.ntmps8
  generalize hW : (72057594037927936 : Int) = WH
  clear hW
  have hS := fun (w1 : World) (e1 : w1 = (w.alloc (.cells (confCells [] 0 (.slice none 0 0)).toArray 30)).alloc (.cells setAllCells.toArray 48)) =>
    (show Hid (w1.heap[w.heap.size + 1]? = some (.cells setAllCells.toArray 48 (0, 0)) ∧ w1.heap[w.heap.size]? = some (.cells (confCells [] 0 (.slice none 0 0)).toArray 30 (0, 0)) ∧ Frm None' w w1) from by
      refine hid ⟨?_, ?_, ?_⟩
      · rw [e1, show w.heap.size + 1 = (w.alloc (.cells (confCells [] 0 (.slice none 0 0)).toArray 30)).heap.size from by simp]; exact heap_alloc_at
      · rw [e1, heap_alloc_lt (by simp)]; exact heap_alloc_at
      · rw [e1]; exact ((Frm.refl _ _).alloc _).alloc _)
  go_wp2_with (first | (go_at_call 9; refine (settings_any _).mono ?_; rintro e w1 ⟨rfl, e1⟩; have HS := hS w1 e1; clear e1 hS))
  go_loopw [9] (fun i wr => i = .int .i64 ((0 : Nat) : Int) ∧ Frm None' w1 wr) (fun i _ => 0)
  case atStart => exact ⟨rfl, Frm.refl _ _⟩
  case round =>
    obtain ⟨rfl, hf⟩ := hrel
    have hsb := hf.heap HS.out.1 (fun q => q)
    have hcb := hf.heap HS.out.2.1 (fun q => q)
    have Hf := hid hf
    clear hf
    have d := fun j (hj : j < 4) => (cell_of hsb (0 * 4 + j)).trans (by rw [List.getElem?_toArray, setAll_at (i := 0) (by omega) j hj])
    have d0 := d 0 (by omega)
    have d1 := d 1 (by omega)
    have d2 := d 2 (by omega)
    have d3 := d 3 (by omega)
    have f0 := (cell_of hcb (0 + setOff 0)).trans (by rw [List.getElem?_toArray, Nat.zero_add, confCells_at [] 0 _ (i := 0) (by omega)])
    have hset := fun W b o => hid (set_of (i := 0) (by omega) b o W)
    have eg := enters_set (i := 0) (by omega)
    have hs1 : w.heap.size + 1 < wr.heap.size := lt_of_heap hsb
    have hs0 : w.heap.size < wr.heap.size := by omega
    clear d hsb hcb
    have hn : (num [] 0) = .int .i64 0 := rfl
    rw [hn] at f0
    simp only [setCells] at d0 d1 d2 d3
    generalize txt (setNm.getD 0 []) = nm at d0 d1 d2 d3
    generalize setFn.getD 0 0 = fn at d0 d1 d2 d3 hset eg
    generalize setHi.getD 0 0 = hi at d0 d1 d2 d3
    generalize setOff 0 = off at hset f0
    simp [setLo] at d0 d1 d2 d3
    rw [Nat.zero_add] at f0
    go_wp2_with (first | (go_at_fn fn; refine (hset _ _ _).out.mono ?_; rintro e w2 ⟨rfl, rfl⟩))
    go_ret
    exact ⟨rfl, HS.out.2.2.trans (Hf.out.alloc _) (fun _ _ q => q)⟩
end Go.V
