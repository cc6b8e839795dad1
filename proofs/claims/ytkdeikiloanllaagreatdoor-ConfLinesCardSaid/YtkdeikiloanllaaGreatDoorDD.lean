/- The law's choices: a configuration. -/
import Derived.Test.YtkdeikiloanllaaGreatDoorDC
import Derived.Test.YtkdeikiloanllaaGreatDoorCZ
import Derived.Deep.CutBlock
set_option linter.unusedVariables false
set_option linter.unusedSimpArgs false
namespace Go.V
open Go.RowKit Go.Proofs
attribute [local go_sem ↓] Go.wp_at_zero Go.wp_at_succ

/-- the choices' array when k bytes are laid -/
def dCells (l : List UInt8) (k : Nat) : List Value := (List.range 13).map fun j => Value.int .u8 ((if j < k then dAt l j else 0 : Nat) : Int)
theorem dCells_zero (l : List UInt8) : dCells l 0 = [.int .u8 0, .int .u8 0, .int .u8 0, .int .u8 0, .int .u8 0, .int .u8 0, .int .u8 0, .int .u8 0, .int .u8 0, .int .u8 0, .int .u8 0, .int .u8 0, .int .u8 0] := rfl
theorem dCells_step (l : List UInt8) (k : Nat) (h : k < 13) : (dCells l k).toArray.setIfInBounds k (.int .u8 (dAt l k : Int)) = (dCells l (k + 1)).toArray := by
  apply Array.ext'
  rw [Array.toList_setIfInBounds]
  apply List.ext_getElem?
  intro j
  rw [List.getElem?_set]
  simp only [dCells, List.getElem?_map, List.length_map, List.length_range]
  by_cases hj : j < 13
  · rw [List.getElem?_range hj]
    by_cases e : k = j
    · subst e
      simp [h]
    · rw [if_neg e]
      have e2 : (j < k + 1) ↔ (j < k) := by omega
      simp [e2]
  · rw [List.getElem?_eq_none (by simp; omega)]
    by_cases e : k = j
    · omega
    · rw [if_neg e]; rfl
theorem dCells_at (l : List UInt8) (k j : Nat) (h : j < 13) : (dCells l k)[j]? = some (.int .u8 ((if j < k then dAt l j else 0 : Nat) : Int)) := by
  simp [dCells, List.getElem?_range h]
theorem dCells_all (l : List UInt8) (k : Nat) (hk : k = min l.length 13) : dCells l k = dCells l 13 := by
  unfold dCells
  apply List.map_congr_left
  intro j hj
  simp at hj
  by_cases h : j < k
  · rw [if_pos h, if_pos hj]
  · rw [if_neg h, if_pos hj]
    have : dAt l j = 0 := by
      unfold dAt
      rw [List.getD_eq_getElem?_getD, List.getElem?_eq_none (by omega)]; rfl
    rw [this]
theorem nrm0 (x m : Nat) (hx : x < 256) : IntKind.i64.wrap ((x : Int).tmod (m : Int)) = ((x % m : Nat) : Int) := by
  have e : (x : Int).tmod (m : Int) = ((x % m : Nat) : Int) := by rw [Int.tmod_eq_emod_of_nonneg (by omega)]; rfl
  have := Nat.mod_le x m
  rw [e, IntWalk.i64_in _ (by omega)]
theorem nrm1 (x m : Nat) (hx : x < 256) : IntKind.i64.wrap (1 + IntKind.i64.wrap ((x : Int).tmod (m : Int))) = ((1 + x % m : Nat) : Int) := by
  have := Nat.mod_le x m
  rw [nrm0 x m hx, IntWalk.i64_in _ (by omega)]
  omega
theorem nrm2 (x : Nat) (hx : x < 256) : IntKind.i64.wrap (1 + IntKind.i64.wrap (x : Int)) = ((1 + x : Nat) : Int) := by
  rw [IntWalk.i64_in (x : Int) (by omega), IntWalk.i64_in _ (by omega)]
  omega
theorem nrm3 (x : Nat) (hx : x < 256) : IntKind.u64.wrap (IntKind.u64.wrap (x : Int) * 281474976710656) = ((top x : Nat) : Int) := by
  have h1 : ∀ n : Nat, n < 18446744073709551616 → IntKind.u64.wrap (n : Int) = (n : Int) := by
    intro n hn
    simp [IntKind.wrap, IntKind.bits, IntKind.signed]
    omega
  rw [h1 x (by omega), show (x : Int) * 281474976710656 = ((top x : Nat) : Int) from by unfold top; omega, h1 (top x) (by unfold top; omega)]
theorem nrm4 (x y : Nat) (hx : x < 256) (hy : y < 256) : IntKind.i64.wrap (1 + (x : Int) % 5 + IntKind.i64.wrap ((y : Int).tmod 9)) = ((1 + x % 5 + y % 9 : Nat) : Int) := by
  have := nrm0 y 9 hy
  rw [show ((9 : Nat) : Int) = 9 from rfl] at this
  rw [this, IntWalk.i64_in _ (by omega)]
  omega
theorem conf_eq {l : List UInt8} {v a0 a1 a2 a3 a4 a5 a6 a7 a8 a9 a10 a11 a12 a13 : Value} (h0 : a0 = num (nsOf l) 0) (h1 : a1 = num (nsOf l) 1) (h2 : a2 = num (nsOf l) 2) (h3 : a3 = .int .u64 ((top (dAt l 3) : Nat) : Int)) (h4 : a4 = v) (h5 : a5 = num (nsOf l) 3) (h6 : a6 = num (nsOf l) 4) (h7 : a7 = num (nsOf l) 5) (h8 : a8 = num (nsOf l) 6) (h9 : a9 = num (nsOf l) 7) (h10 : a10 = num (nsOf l) 8) (h11 : a11 = num (nsOf l) 9) (h12 : a12 = num (nsOf l) 10) (h13 : a13 = num (nsOf l) 11) :
    #[a0, a1, a2, a3, a4, a5, a6, a7, a8, a9, a10, a11, a12, a13] = (confCells (nsOf l) (top (dAt l 3)) v).toArray := by
  subst h0 h1 h2 h3 h4 h5 h6 h7 h8 h9 h10 h11 h12 h13
  rfl
theorem num_of {l : List UInt8} {i : Nat} {x : Int} (h : x = (((nsOf l).getD i 0 : Nat) : Int)) : Value.int .i64 x = num (nsOf l) i := by rw [h]; rfl
theorem RulesRd.mono' {S S' : Nat → Prop} {w : World} {v : Value} {rows : List (List PR)} (h : RulesRd S w v rows) (hs : ∀ k, S k → S' k) : RulesRd S' w v rows := by
  obtain ⟨vs, h1, h2⟩ := h
  exact ⟨vs, h1.mono (fun k hk _ => hs k hk), fun i hi => by obtain ⟨u, q1, q2⟩ := h2 i hi; exact ⟨u, q1, q2.mono (fun k hk _ => hs k hk)⟩⟩
def CPost (w : World) (l r : List UInt8) (e : Ending) (w' : World) : Prop := ∃ v, e = .returned (.agg (confCells (nsOf l) (top (dAt l 3)) v).toArray) ∧ RulesRd (fun k => w.heap.size ≤ k) w' v (rowsOf r) ∧ Frm None' w w'
structure CRel (w wr : World) (l : List UInt8) (k : Nat) : Prop where
  d : wr.heap[w.heap.size + 1]? = some (.cells (dCells l k).toArray 61 (0, 0))
  out : wr.heap[w.heap.size]? = some (.cells #[.int .i64 0, .int .i64 0, .int .i64 0, .int .u64 0, .slice none 0 0, .int .i64 0, .int .i64 0, .int .i64 0, .int .i64 0, .int .i64 0, .int .i64 0, .int .i64 0, .int .i64 0, .int .i64 0] 30 (0, 0))
  frm : Frm None' w wr
theorem crel_zero (w : World) (l : List UInt8) : CRel w ((w.alloc (.cells #[.int .i64 0, .int .i64 0, .int .i64 0, .int .u64 0, .slice none 0 0, .int .i64 0, .int .i64 0, .int .i64 0, .int .i64 0, .int .i64 0, .int .i64 0, .int .i64 0, .int .i64 0, .int .i64 0] 30)).alloc (.cells #[.int .u8 0, .int .u8 0, .int .u8 0, .int .u8 0, .int .u8 0, .int .u8 0, .int .u8 0, .int .u8 0, .int .u8 0, .int .u8 0, .int .u8 0, .int .u8 0, .int .u8 0] 61)) l 0 := by
  have e1 : (w.alloc (.cells #[.int .i64 0, .int .i64 0, .int .i64 0, .int .u64 0, .slice none 0 0, .int .i64 0, .int .i64 0, .int .i64 0, .int .i64 0, .int .i64 0, .int .i64 0, .int .i64 0, .int .i64 0, .int .i64 0] 30)).heap.size = w.heap.size + 1 := by simp
  refine ⟨?_, ?_, ((Frm.refl _ _).alloc _).alloc _⟩
  · rw [← e1, dCells_zero]; exact heap_alloc_at
  · rw [heap_alloc_lt (by rw [e1]; omega)]; exact heap_alloc_at
theorem conf_end {w wc w4 : World} {l : List UInt8} {v : Value} {rows : List (List PR)} (hl : CRel w wc l 13) (hr : RulesRd (fun k => wc.drew.heap.size ≤ k) w4 v rows) (hf : Frm None' wc.drew w4) (a0 a1 a2 a3 a4 a5 a6 a7 a8 a9 a10 a11 a12 a13 : Value) :
    RulesRd (fun k => w.heap.size ≤ k) ((((((((((((((w4.setCell ⟨w.heap.size, 0, none⟩ a0).setCell ⟨w.heap.size, 1, none⟩ a1).setCell ⟨w.heap.size, 2, none⟩ a2).setCell ⟨w.heap.size, 3, none⟩ a3).setCell ⟨w.heap.size, 4, none⟩ a4).setCell ⟨w.heap.size, 5, none⟩ a5).setCell ⟨w.heap.size, 6, none⟩ a6).setCell ⟨w.heap.size, 7, none⟩ a7).setCell ⟨w.heap.size, 8, none⟩ a8).setCell ⟨w.heap.size, 9, none⟩ a9).setCell ⟨w.heap.size, 10, none⟩ a10).setCell ⟨w.heap.size, 11, none⟩ a11).setCell ⟨w.heap.size, 12, none⟩ a12).setCell ⟨w.heap.size, 13, none⟩ a13) v rows ∧ Frm None' w ((((((((((((((w4.setCell ⟨w.heap.size, 0, none⟩ a0).setCell ⟨w.heap.size, 1, none⟩ a1).setCell ⟨w.heap.size, 2, none⟩ a2).setCell ⟨w.heap.size, 3, none⟩ a3).setCell ⟨w.heap.size, 4, none⟩ a4).setCell ⟨w.heap.size, 5, none⟩ a5).setCell ⟨w.heap.size, 6, none⟩ a6).setCell ⟨w.heap.size, 7, none⟩ a7).setCell ⟨w.heap.size, 8, none⟩ a8).setCell ⟨w.heap.size, 9, none⟩ a9).setCell ⟨w.heap.size, 10, none⟩ a10).setCell ⟨w.heap.size, 11, none⟩ a11).setCell ⟨w.heap.size, 12, none⟩ a12).setCell ⟨w.heap.size, 13, none⟩ a13) := by
  have hb := lt_of_heap hl.out
  have f1 : Frm (fun j => j = w.heap.size) w4 ((((((((((((((w4.setCell ⟨w.heap.size, 0, none⟩ a0).setCell ⟨w.heap.size, 1, none⟩ a1).setCell ⟨w.heap.size, 2, none⟩ a2).setCell ⟨w.heap.size, 3, none⟩ a3).setCell ⟨w.heap.size, 4, none⟩ a4).setCell ⟨w.heap.size, 5, none⟩ a5).setCell ⟨w.heap.size, 6, none⟩ a6).setCell ⟨w.heap.size, 7, none⟩ a7).setCell ⟨w.heap.size, 8, none⟩ a8).setCell ⟨w.heap.size, 9, none⟩ a9).setCell ⟨w.heap.size, 10, none⟩ a10).setCell ⟨w.heap.size, 11, none⟩ a11).setCell ⟨w.heap.size, 12, none⟩ a12).setCell ⟨w.heap.size, 13, none⟩ a13) := by
    repeat' (refine Frm.setCell ?_ _ _ (fun _ => rfl))
    exact Frm.refl _ _
  constructor
  · refine (RulesRd.frm hr f1 (fun j hj q => ?_)).mono' (fun j hj => ?_)
    · have : wc.drew.heap.size = wc.heap.size := rfl
      omega
    · have : wc.drew.heap.size = wc.heap.size := rfl
      have := hl.frm.size
      omega
  · exact (hl.frm.drew.trans hf (fun _ _ q => q)).trans f1 (fun i hi q => by omega)
set_option maxRecDepth 20000 in
set_option maxHeartbeats 4000000 in
theorem Conf_any {w : World} {S S2 : Nat → Prop} {v1 v2 : Value} {l r : List UInt8} (h1 : RdB S w v1 l) (h2 : RdB S2 w v2 r) :
    Calls Tryz.prog 5 #[v1, v2] w (CPost w l r) := by
  have H1 := hid h1
  obtain ⟨a, c, rfl, hc1, hc2⟩ := h1.slice
  obtain ⟨L, hL⟩ : ∃ L, L = l.length := ⟨_, rfl⟩
  rw [← hL] at hc1 ⊢
  have HL := hid hL
  have HR := fun (W : World) (f : Frm None' w W) => hid (Rules_any (w := W) (h2.frm f (fun _ _ q => q)))
  obtain ⟨n, hn⟩ : ∃ n, n = min L 13 := ⟨_, rfl⟩
  have hn13 : n ≤ 13 := by omega
  have hnL : n ≤ L := by omega
  have hne : n = L ∨ n = 13 := by omega
  have Hn := hid hn
  clear h1 h2 hL hn
  go_enter Tryz.func5, Tryz.ntmps5
  go_upto_block 0 with (fail)
  go_cut [6] (fun i wx => (∃ k : Nat, i = .int .i64 k) ∧ CRel w wx l 13)
  case first =>
    go_wp2_with fail
    go_loopw [6] (fun i wr => ∃ k : Nat, k ≤ n ∧ i = .int .i64 k ∧ CRel w wr l k) (fun i _ => 13 - (RowKit.intOf i).toNat)
    case atStart => exact ⟨0, by omega, rfl, crel_zero w l⟩
    case round =>
      obtain ⟨k, hk, rfl, hr⟩ := hrel
      have HRl := hid hr
      clear hr
      by_cases hlt : k < n
      · obtain ⟨g, o, c2, e2, _, hlt2, _, hcc⟩ := (H1.out.frm HRl.out.frm (fun _ _ q => q)).cells (by rw [← HL.out]; omega)
        injection e2 with e2 e3 e4
        clear e3 e4
        subst e2
        have b0 := hcc k _ (cells8_get l k (by rw [← HL.out]; omega))
        have hd : (l[k]'(by rw [← HL.out]; omega)).toNat = dAt l k := by unfold dAt; rw [List.getD_eq_getElem?_getD, List.getElem?_eq_getElem (by rw [← HL.out]; omega)]; rfl
        rw [hd] at b0
        have hdl := dAt_lt l k
        have hstep := dCells_step l k (by omega)
        have Hs := hid hstep
        generalize dAt l k = x at *
        have xd := cell_of HRl.out.d k
        rw [List.getElem?_toArray, dCells_at l k k (by omega), if_neg (Nat.lt_irrefl _)] at xd
        have yd := free_of HRl.out.d k
        have zd := lt_of_heap HRl.out.d
        have i1 : (k : Int) < (L : Int) := by omega
        have i2 : (k : Int) < 13 := by omega
        have i3 : (0 : Int) ≤ (k : Int) := by omega
        clear hstep hcc hd
        go_wp2
        go_roundw
        case rel =>
          refine ⟨k + 1, by omega, by go_num, ?_, ?_, HRl.out.frm.setCell _ _ (fun q => absurd q (by simp))⟩
          · have h := heap_setCell_at HRl.out.d k (.int .u8 (x : Int))
            rw [Hs.out] at h
            exact h
          · rw [heap_setCell_ne (by simp)]; exact HRl.out.out
        case measure => simp [RowKit.intOf]; omega
      · have hkn : k = n := by omega
        have hall := dCells_all l k (by rw [hkn, Hn.out, HL.out])
        have hd := HRl.out.d
        rw [hall] at hd
        have HD := hid hd
        have hex : ¬ (k : Int) < (L : Int) ∨ ((k : Int) < (L : Int) ∧ ¬ (k : Int) < 13) := by omega
        clear hkn hall hd hne hlt
        rcases hex with hex | ⟨hex1, hex2⟩
        · go_wp2
          go_meet
          exact ⟨⟨k, rfl⟩, HD.out, HRl.out.out, HRl.out.frm⟩
        · go_wp2
          go_meet
          exact ⟨⟨k, rfl⟩, HD.out, HRl.out.out, HRl.out.frm⟩
  case rest =>
    obtain ⟨⟨k, rfl⟩, hcr⟩ := hcut
    have HRl := hid hcr
    have xs := fun j (hj : j < 13) => (cell_of hcr.d j).trans (by rw [List.getElem?_toArray, dCells_at l 13 j hj, if_pos hj])
    clear hcr
    have c0 := xs 0 (by omega)
    have l0 := dAt_lt l 0
    have c1 := xs 1 (by omega)
    have l1 := dAt_lt l 1
    have c2 := xs 2 (by omega)
    have l2 := dAt_lt l 2
    have c3 := xs 3 (by omega)
    have l3 := dAt_lt l 3
    have c4 := xs 4 (by omega)
    have l4 := dAt_lt l 4
    have c5 := xs 5 (by omega)
    have l5 := dAt_lt l 5
    have c6 := xs 6 (by omega)
    have l6 := dAt_lt l 6
    have c7 := xs 7 (by omega)
    have l7 := dAt_lt l 7
    have c8 := xs 8 (by omega)
    have l8 := dAt_lt l 8
    have c9 := xs 9 (by omega)
    have l9 := dAt_lt l 9
    have c10 := xs 10 (by omega)
    have l10 := dAt_lt l 10
    have c11 := xs 11 (by omega)
    have l11 := dAt_lt l 11
    have c12 := xs 12 (by omega)
    have l12 := dAt_lt l 12
    clear xs
    obtain ⟨x0, h0⟩ : ∃ x, x = dAt l 0 := ⟨_, rfl⟩
    rw [← h0] at c0 l0
    obtain ⟨x1, h1⟩ : ∃ x, x = dAt l 1 := ⟨_, rfl⟩
    rw [← h1] at c1 l1
    obtain ⟨x2, h2⟩ : ∃ x, x = dAt l 2 := ⟨_, rfl⟩
    rw [← h2] at c2 l2
    obtain ⟨x3, h3⟩ : ∃ x, x = dAt l 3 := ⟨_, rfl⟩
    rw [← h3] at c3 l3
    obtain ⟨x4, h4⟩ : ∃ x, x = dAt l 4 := ⟨_, rfl⟩
    rw [← h4] at c4 l4
    obtain ⟨x5, h5⟩ : ∃ x, x = dAt l 5 := ⟨_, rfl⟩
    rw [← h5] at c5 l5
    obtain ⟨x6, h6⟩ : ∃ x, x = dAt l 6 := ⟨_, rfl⟩
    rw [← h6] at c6 l6
    obtain ⟨x7, h7⟩ : ∃ x, x = dAt l 7 := ⟨_, rfl⟩
    rw [← h7] at c7 l7
    obtain ⟨x8, h8⟩ : ∃ x, x = dAt l 8 := ⟨_, rfl⟩
    rw [← h8] at c8 l8
    obtain ⟨x9, h9⟩ : ∃ x, x = dAt l 9 := ⟨_, rfl⟩
    rw [← h9] at c9 l9
    obtain ⟨x10, h10⟩ : ∃ x, x = dAt l 10 := ⟨_, rfl⟩
    rw [← h10] at c10 l10
    obtain ⟨x11, h11⟩ : ∃ x, x = dAt l 11 := ⟨_, rfl⟩
    rw [← h11] at c11 l11
    obtain ⟨x12, h12⟩ : ∃ x, x = dAt l 12 := ⟨_, rfl⟩
    rw [← h12] at c12 l12
    have HX := hid (And.intro h0 (And.intro h1 (And.intro h2 (And.intro h3 (And.intro h4 (And.intro h5 (And.intro h6 (And.intro h7 (And.intro h8 (And.intro h9 (And.intro h10 (And.intro h11 h12))))))))))))
    clear h0 h1 h2 h3 h4 h5 h6 h7 h8 h9 h10 h11 h12
    have HRr := fun (W : World) (f : Frm None' wc W) => HR W (HRl.out.frm.trans f (fun _ _ q => q))
    have xb := cell_of HRl.out.out
    have yb := free_of HRl.out.out
    have zb := lt_of_heap HRl.out.out
    have zd := lt_of_heap HRl.out.d
    clear HR
    go_wp2
    go_region_held3 (fun w' => w'.cell? ⟨w.heap.size + 1, 0, none⟩ = some (.int .u8 (x0 : Int)) ∧ w'.cell? ⟨w.heap.size + 1, 1, none⟩ = some (.int .u8 (x1 : Int)) ∧ w'.cell? ⟨w.heap.size + 1, 2, none⟩ = some (.int .u8 (x2 : Int)) ∧ w'.cell? ⟨w.heap.size + 1, 3, none⟩ = some (.int .u8 (x3 : Int)) ∧ w'.cell? ⟨w.heap.size + 1, 4, none⟩ = some (.int .u8 (x4 : Int)) ∧ w'.cell? ⟨w.heap.size + 1, 5, none⟩ = some (.int .u8 (x5 : Int)) ∧ w'.cell? ⟨w.heap.size + 1, 6, none⟩ = some (.int .u8 (x6 : Int)) ∧ w'.cell? ⟨w.heap.size + 1, 7, none⟩ = some (.int .u8 (x7 : Int)) ∧ w'.cell? ⟨w.heap.size + 1, 8, none⟩ = some (.int .u8 (x8 : Int)) ∧ w'.cell? ⟨w.heap.size + 1, 9, none⟩ = some (.int .u8 (x9 : Int)) ∧ w'.cell? ⟨w.heap.size + 1, 10, none⟩ = some (.int .u8 (x10 : Int)) ∧ w'.cell? ⟨w.heap.size + 1, 11, none⟩ = some (.int .u8 (x11 : Int)) ∧ w'.cell? ⟨w.heap.size + 1, 12, none⟩ = some (.int .u8 (x12 : Int))) (go_keep) (first
      | (go_at_call 17; ((refine (HRr _ (by first | exact (Frm.refl None' wc).drew | exact Frm.refl None' wc)).out.mono ?_); rintro e w4 ⟨ov, rfl, r4, f4⟩; obtain ⟨av, cv, rfl, _⟩ := r4.slice; obtain ⟨q1, q2⟩ := f4.at_ (b := w.heap.size + 1) (by first | omega | (simp; omega)); obtain ⟨q3, q4⟩ := f4.at_ (b := w.heap.size) (by first | omega | (simp; omega)); have z4 := f4.size; (try simp at z4); have R4 := hid r4; have F4 := hid f4; clear r4 f4)))
    all_goals
      go_wp2
      have hcf := conf_eq (l := l) (v := .slice av (rowsOf r).length cv)
        (num_of ((nrm1 x0 12 l0).trans (by rw [HX.out.1]; rfl)))
        (num_of ((nrm1 x1 8 l1).trans (by rw [HX.out.2.1]; rfl)))
        (num_of ((nrm1 x2 5 l2).trans (by rw [HX.out.2.2.1]; rfl)))
        (congrArg (Value.int .u64) ((nrm3 x3 l3).trans (by rw [HX.out.2.2.2.1])))
        rfl
        (num_of ((nrm1 x4 4 l4).trans (by rw [HX.out.2.2.2.2.1]; rfl)))
        (num_of ((nrm1 x5 12 l5).trans (by rw [HX.out.2.2.2.2.2.1]; rfl)))
        (num_of ((nrm1 x6 5 l6).trans (by rw [HX.out.2.2.2.2.2.2.1]; rfl)))
        (num_of ((nrm0 x7 6 l7).trans (by rw [HX.out.2.2.2.2.2.2.2.1]; rfl)))
        (num_of ((nrm1 x8 6 l8).trans (by rw [HX.out.2.2.2.2.2.2.2.2.1]; rfl)))
        (num_of ((nrm2 x9 l9).trans (by rw [HX.out.2.2.2.2.2.2.2.2.2.1]; rfl)))
        (num_of ((nrm1 x10 4 l10).trans (by rw [HX.out.2.2.2.2.2.2.2.2.2.2.1]; rfl)))
        (num_of (show 1 + (x11 : Int) % 5 = _ from by rw [HX.out.2.2.2.2.2.2.2.2.2.2.2.1]; rfl))
        (num_of ((nrm4 x11 x12 l11 l12).trans (by rw [HX.out.2.2.2.2.2.2.2.2.2.2.2.1, HX.out.2.2.2.2.2.2.2.2.2.2.2.2]; rfl)))
      have hb4 := F4.out.heap HRl.out.out (fun q => q)
      refine bodyPost_ret (v := .agg (confCells (nsOf l) (top (dAt l 3)) (.slice av (rowsOf r).length cv)).toArray) ?_ rfl ?_
      · rw [← hcf]
        exact results_cell_row (fn := Tryz.f5) (p := 4) (ty := 30) rfl _ _ w.heap.size _ _ _ _ rfl (heap_set14 hb4 rfl _ _ _ _ _ _ _ _ _ _ _ _ _ _) Tryz.underlying30 rfl (by kernel_rfl)
      · obtain ⟨e1, e2⟩ := conf_end HRl.out R4.out F4.out _ _ _ _ _ _ _ _ _ _ _ _ _ _
        exact ⟨_, rfl, e1, e2⟩
end Go.V
