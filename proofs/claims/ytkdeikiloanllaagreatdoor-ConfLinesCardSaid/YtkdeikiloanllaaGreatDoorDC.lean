/- The law's choices: rows of rules. -/
import Derived.Test.YtkdeikiloanllaaGreatDoorDB
import Derived.Deep.DeepCutAuto
import Derived.Deep.RegionLaw
import Derived.IntWalk
set_option linter.unusedVariables false
set_option linter.unusedSimpArgs false
namespace Go.V
open Go.RowKit Go.Proofs
attribute [local go_sem ↓] Go.wp_at_zero Go.wp_at_succ

theorem heap_set4 {w : World} {b : Nat} {cs : Array Value} {T : TypeId} (h : w.heap[b]? = some (.cells cs T (0, 0))) (hs : cs.toList.length = 4) (a0 a1 a2 a3 : Value) :
    ((((w.setCell ⟨b, 0, none⟩ a0).setCell ⟨b, 1, none⟩ a1).setCell ⟨b, 2, none⟩ a2).setCell ⟨b, 3, none⟩ a3).heap[b]? = some (.cells #[a0, a1, a2, a3] T (0, 0)) := by
  have h2 := heap_setCells_at [a0, a1, a2, a3] 0 w cs h
  have e : setAll cs 0 [a0, a1, a2, a3] = #[a0, a1, a2, a3] := by
    apply Array.ext'
    rw [setAll_list _ _ _ (by rw [← Array.length_toList, hs]; simp)]
    rw [List.drop_of_length_le (by rw [hs]; simp)]
    simp
  rw [e] at h2
  exact h2
theorem src_row2 (W : World) (o : Obj) (u : Value) (h : u.oneCell' = true) :
    Src Tryz.prog 1 28 (.slice (some ⟨W.heap.size + 1, 0, none⟩) 1 1) 1 [u] ((W.alloc o).alloc (.cells #[u] 51)) := by
  have := src_row (W.alloc o) u h
  rw [show (W.alloc o).heap.size = W.heap.size + 1 from by simp] at this
  exact this
theorem row_new {W : World} {B : Nat} {r : PR} {cs : Array Value} (h : W.heap[B]? = some (.cells cs 53 (0, 0))) (hc : r.cells = cs.toList) : Row (fun k => k = B) W 53 4 (.slice (some ⟨B, 0, none⟩) 1 1) 1 r.cells := by
  refine ⟨rfl, .inr ⟨B, 0, 1, cs, rfl, rfl, h, Nat.le_refl _, by simp [maxLen], ?_, ?_⟩⟩
  · rw [← Array.length_toList, ← hc]; exact Nat.le_refl _
  · rw [← hc]; rfl
theorem last_at (rows : List (List PR)) (h : 0 < rows.length) : rows[rows.length - 1] = rows.getLastD [] := by
  rcases List.eq_nil_or_concat rows with e | ⟨a, z, e⟩
  · subst e; simp at h
  · rw [List.concat_eq_append] at e
    subst e
    simp
theorem src_ruleB {W : World} {B : Nat} {r : PR} {cs : Array Value} (h : W.heap[B]? = some (.cells cs 53 (0, 0))) (hc : r.cells = cs.toList) : Src Tryz.prog 4 51 (.slice (some ⟨B, 0, none⟩) 1 1) 1 r.cells W :=
  Src.ofSlice W Tryz.underlying51 _ 1 1 r.cells rfl (fun j u hu => by rw [Addr.add_lit, cell_of h]; rw [hc] at hu; simpa using hu) (cells_one r)
theorem Frm.at2 {S : Nat → Prop} {W w1 : World} (f : Frm S W w1) {b : Nat} (h : b < W.heap.size) (hn : ¬ S b) : (∀ o, w1.cell? ⟨b, o, none⟩ = W.cell? ⟨b, o, none⟩) ∧ (∀ o, w1.frozen? ⟨b, o, none⟩ = W.frozen? ⟨b, o, none⟩) :=
  ⟨fun o => World.cell?_of_block (a := ⟨b, o, none⟩) (f.block b h hn), fun o => by simp only [World.frozen?, f.block b h hn]⟩
/-- what a round makes first: a rule, in a block of its own -/
structure RCut (wr wx : World) (s5 : Value) (r : PR) : Prop where
  at_ : ∃ g, s5 = .pointer (some ⟨g, 0, none⟩) ∧ wr.heap.size ≤ g ∧ wx.heap[g]? = some (.cells r.cells.toArray 53 (0, 0))
  frm : Frm None' wr wx
def RRel (w wr : World) (ov : Value) (rows : List (List PR)) : Prop := (∃ vs, ROwn (New' w.heap.size) wr ov vs rows) ∧ Frm None' w wr
set_option maxRecDepth 20000 in
set_option maxHeartbeats 4000000 in
theorem Rules_any {w : World} {S : Nat → Prop} {v : Value} {l : List UInt8} (hR : RdB S w v l) :
    Calls Tryz.prog 17 #[v] w fun e w' => ∃ ov, e = .returned ov ∧ RulesRd (fun k => w.heap.size ≤ k) w' ov (rowsOf l) ∧ Frm None' w w' := by
  have hRl : RdB (fun k => k < w.heap.size) w v l := hR.mono (fun _ _ q => q)
  have H := hid hRl
  obtain ⟨a, c, rfl, hc1, hc2⟩ := hR.slice
  obtain ⟨n, hn⟩ : ∃ n, n = min 6 (l.length / 3) := ⟨_, rfl⟩
  have hn1 : n ≤ 6 := by omega
  have hn2 : 3 * n ≤ l.length := by omega
  have hn3 : n = 6 ∨ l.length < 3 * n + 3 := by omega
  have Hn := hid hn
  obtain ⟨ir, hir⟩ := inf_rule
  obtain ⟨iw, hiw⟩ := inf_row
  have HIr := hid hir
  have HIw := hid hiw
  obtain ⟨L, hL⟩ : ∃ L, L = l.length := ⟨_, rfl⟩
  rw [← hL] at hc1 hn2 hn3 ⊢
  have HL := hid hL
  clear hR hRl hn hir hiw hL
  go_enter Tryz.func17, Tryz.ntmps17
  go_wp2
  go_loopw [3, 4] (fun ov i wr => ∃ k : Nat, k ≤ n ∧ i = .int .i64 (3 * k : Nat) ∧ RRel w wr ov (rowsAt l k)) (fun _ i _ => 30 - (RowKit.intOf i).toNat)
  case atStart => exact ⟨0, by omega, rfl, ⟨[], ROwn.nil _ _⟩, Frm.refl _ _⟩
  case round =>
    obtain ⟨k, hk, rfl, ⟨vs, ho⟩, hf⟩ := hrel
    have Hf := hid hf
    have Ho := hid ho
    by_cases hlt : k < n
    · have hrd : RdB (fun k => k < w.heap.size) wr _ l := H.out.frm hf (fun _ _ q => q)
      obtain ⟨g, o, c2, e2, _, hlt2, _, hcc⟩ := hrd.cells (by rw [← HL.out]; omega)
      injection e2 with e2 e3 e4
      clear e3 e4
      subst e2
      obtain ⟨p, hp⟩ : ∃ p, p = 3 * k := ⟨_, rfl⟩
      have hget : ∀ j (h : j < l.length), l[j] = l.getD j 0 := fun j h => by simp [List.getD, h]
      have b0 := hcc p _ (cells8_get l p (by rw [← HL.out]; omega))
      have b1 := hcc (p + 1) _ (cells8_get l (p + 1) (by rw [← HL.out]; omega))
      have b2 := hcc (p + 2) _ (cells8_get l (p + 2) (by rw [← HL.out]; omega))
      rw [hget] at b0 b1 b2
      obtain ⟨x0, hx0⟩ : ∃ x, x = (l.getD p 0).toNat := ⟨_, rfl⟩
      obtain ⟨x1, hx1⟩ : ∃ x, x = (l.getD (p + 1) 0).toNat := ⟨_, rfl⟩
      obtain ⟨x2, hx2⟩ : ∃ x, x = (l.getD (p + 2) 0).toNat := ⟨_, rfl⟩
      rw [← hx0] at b0
      rw [← hx1] at b1
      rw [← hx2] at b2
      have hstep : rowsAt l (k + 1) = rowStep (rowsAt l k) (ruleOf x0 x1) x2 := by rw [hx0, hx1, hx2, hp]; rfl
      have l0 : x0 < 256 := by rw [hx0]; exact toNat_lt _
      have l1 : x1 < 256 := by rw [hx1]; exact toNat_lt _
      have l2 : x2 < 256 := by rw [hx2]; exact toNat_lt _
      have hp1 : p + 2 < L := by omega
      have hp2 : p < 18 := by omega
      rw [← hp]
      have Hp := hid hp
      have Hstep := hid hstep
      have HRu := fun W => hid (Rule_any (w := W) l0 l1)
      have n0 := World.new_ne wr _ b0
      have n1 := World.new_ne wr _ b1
      have hgr : g < wr.heap.size := hlt2
      have i1 : (p : Int) + 2 < (L : Int) := by omega
      have i2 : (p : Int) < 18 := by omega
      obtain ⟨kd, ra, ky, vl, hcs⟩ : ∃ K A Y V, (ruleOf x0 x1).cells = [.int .u8 K, .int .i64 A, .string Y, .string V] := ⟨_, _, _, _, rfl⟩
      rw [hcs] at HRu
      have Hcs := hid hcs
      clear hp hstep hx0 hx1 hx2 hget hcc hf ho hcs
      go_upto_region 5 with (fail)
      go_cut [5] (fun s5 wx => RCut wr wx s5 (ruleOf x0 x1))
      case first =>
        have w1 : IntKind.i64.wrap ((p : Int) + 1) = (p : Int) + 1 := IntWalk.i64_in _ (by omega)
        have w2 : (0 : Int) ≤ (p : Int) + 1 := by omega
        have w3 : ((p : Int) + 1).toNat = p + 1 := by omega
        have w4 : (p : Int) + 1 < (L : Int) := by omega
        have w5 : (p : Int) < (L : Int) := by omega
        go_region_held3 (fun w' => w'.cell? ⟨g, o + p, none⟩ = some (.int .u8 (x0 : Int)) ∧ w'.cell? ⟨g, o + (p + 1), none⟩ = some (.int .u8 (x1 : Int))) (go_keep) (first
          | (go_at_call 42; ((with_reducible refine (HRu _).out.mono ?_); rintro e w2 ⟨rfl, f2⟩; obtain ⟨q1, q2⟩ := f2.at_ (b := g) (by first | omega | (simp; omega)); have q34 := fun (h : wr.heap.size < _) => f2.at_ (b := wr.heap.size) h; simp at q34; have z2 : wr.heap.size ≤ w2.heap.size := (by have := f2.size; first | omega | (simp at this; omega)); have z3 := f2.size; (try simp at z3); have F2 := hid f2; clear f2)))
        · go_wp2
          go_meet
          refine ⟨⟨w2.heap.size, rfl, z2, by rw [Hcs.out]; exact heap_alloc_at⟩, ?_⟩
          refine (((Frm.refl None' wr).drew).trans F2.out (fun _ _ q => q)).alloc _
        · go_wp2
          go_meet
          refine ⟨⟨wr.heap.size, rfl, Nat.le_refl _, ?_⟩, ?_⟩
          · rw [Hcs.out]
            exact heap_set4 (F2.out.heap (o := .cells #[.int .u8 0, .int .i64 0, .string ⟨#[]⟩, .string ⟨#[]⟩] 53 (0, 0)) (by exact heap_alloc_at) (fun q => q)) rfl _ _ _ _
          · repeat' (refine Frm.setCell ?_ _ _ (fun q => absurd q (Nat.lt_irrefl _)))
            exact (((Frm.refl None' wr).alloc _).drew).trans F2.out (fun _ _ q => q)
      case rest =>
        obtain ⟨⟨gr, rfl, hgr2, hbr⟩, fwc⟩ := hcut
        rw [Hcs.out] at hbr
        have Hbr := hid hbr
        have xr := cell_of hbr
        have zr := lt_of_heap hbr
        have Fwc := hid fwc
        have b2' := (fwc.below.cell (p := ⟨g, o + (p + 2), none⟩) hgr).trans b2
        have ho := Ho.out.frm0 fwc
        have hrl := ho.row.slice
        clear b0 b1 n0 n1 HRu b2 hbr fwc
        have w1 : IntKind.i64.wrap ((p : Int) + 2) = (p : Int) + 2 := IntWalk.i64_in _ (by omega)
        have w3 : ((p : Int) + 2).toNat = p + 2 := by omega
        obtain ⟨ao, co, rfl⟩ := hrl
        have HO := hid ho
        clear ho
        generalize hrows : rowsAt l k = rows at *
        have Hrows := hid hrows
        clear hrows
        have hml : rows.length ≤ 6 := by have := (rowsAt_ok l k).2.2; rw [Hrows.out] at this; omega
        by_cases hc3 : x2 % 3 = 0 ∧ rows ≠ []
        · obtain ⟨h3, hne⟩ := hc3
          have hpos : 0 < rows.length := List.length_pos_iff.2 hne
          obtain ⟨m, hm⟩ : ∃ m, m = rows.length - 1 := ⟨_, rfl⟩
          obtain ⟨u, ku, hu, hku, hur⟩ := HO.out.at_ (rows.length - 1) (by omega)
          have hzl : rows[rows.length - 1] = rows.getLastD [] := last_at rows hpos
          rw [hzl] at hur
          obtain ⟨Z, hZ⟩ : ∃ Z, Z = (rows.getLastD []).length := ⟨_, rfl⟩
          rw [← hZ] at hur
          have hZ6 : Z ≤ 6 := by
            have h1 := (rowsAt_ok l k).2.1
            rw [Hrows.out] at h1
            have h2 := sumRows_take_le rows (rows.length - 1 + 1)
            rw [sumRows_take rows (rows.length - 1) (by omega), hzl, ← hZ] at h2
            omega
          obtain ⟨ru, cu, rfl⟩ := hur.slice
          obtain ⟨g3, o3, c3, e3, hg3, hcell3, hfr3⟩ := HO.out.row.cell hpos
          injection e3 with e3 e4 e5
          clear e4 e5
          subst e3
          have y3 := hcell3 (rows.length - 1) _ hu
          rw [← hm] at y3 hu
          have hm1 : (0 : Int) < (rows.length : Int) := by omega
          have hw1 : (rows.length : Int) - 1 = (m : Int) := by omega
          have hw2 : IntKind.i64.wrap ((rows.length : Int) - 1) = (m : Int) := by rw [IntWalk.i64_in _ (by omega)]; omega
          have hw3 : (m : Int) < (rows.length : Int) := by omega
          have hw4 : IntKind.i64.wrap (m : Int) = (m : Int) := IntWalk.i64_in _ (by omega)
          have hw5 : (0 : Int) ≤ (m : Int) := by omega
          have hw6 : m < rows.length := by omega
          have h3' : (x2 : Int) % 3 = 0 := by omega
          have f3 := hfr3 (o3 + m)
          have xr0 : wc.cell? ⟨gr, 0, none⟩ = some (.int .u8 kd) := xr 0
          have xr1 : wc.cell? ⟨gr, 1, none⟩ = some (.int .i64 ra) := xr 1
          have xr2 : wc.cell? ⟨gr, 2, none⟩ = some (.string ky) := xr 2
          have xr3 : wc.cell? ⟨gr, 3, none⟩ = some (.string vl) := xr 3
          have Hm := hid hm
          have HZ := hid hZ
          have HU := hid (And.intro hu (And.intro hku hur))
          have HNe := hid (And.intro h3 hne)
          have nn1 := World.new_ne wc _ y3
          have nn2 := World.new_ne wc _ xr0
          clear hm hZ hzl hu hku hur h3 hne hcell3 hfr3 xr
          have hkg : ku ≠ g3 := fun e => (HU.out.2.2.own HU.out.2.1).1.2 (by rw [e]; rfl)
          have hkr : ku ≠ gr := fun e => by have := Ho.out.lt HU.out.1 HU.out.2.1; omega
          have HKG := hid (And.intro hkg hkr)
          clear hkg hkr
          go_wp2
          go_region_law (first
            | (refine step_append_v _ rfl (.tmp 48) (.tmp 50) 51 51 (by rfl) Tryz.underlying51 HIr.out.info HIr.out.zero HIr.out.size rfl (HU.out.2.2.frm0 (by first | exact ((Frm.refl None' wc).alloc _).drew | exact (Frm.refl None' wc).alloc _)) (src_ruleB (by exact heap_alloc_at) Hcs.out) (by rfl) (by rfl) (by rw [HIr.out.bytes]; omega) (by omega) ?_; intro a7 c7 w7 hR7 hF7 hs7; obtain ⟨q1, q2⟩ := hF7.at2 (b := g3) (by simp; omega) (fun e => HKG.out.1 (by rw [HU.out.2.1] at e; injection e)); obtain ⟨q3, q4⟩ := hF7.at2 (b := gr) (by simp; omega) (fun e => HKG.out.2 (by rw [HU.out.2.1] at e; injection e)); have HR7 := hid hR7; have HF7 := hid hF7; clear hR7 hF7 hs7))
          all_goals
            go_wp2
            go_roundw
            case rel =>
              have hwc : w.heap.size ≤ wc.heap.size := Nat.le_trans Hf.out.size Fwc.out.size
              refine ⟨k + 1, by omega, by rw [Hp.out]; go_num, ⟨⟨vs.set m (.slice a7 (Z + 1) c7), ?_⟩, ?_⟩⟩
              · rw [Hstep.out, rowStep, if_pos HNe.out]
                have hL := ROwn.last (n := rows.length) (c' := c7) (a' := a7) (r := ruleOf x0 x1) (u := .slice ru Z cu) (HO.out.frm0 (((Frm.refl None' wc).alloc (.cells #[.int .u8 kd, .int .i64 ra, .string ky, .string vl] 53 (0, 0))).drew)) rfl hpos (by rw [← Hm.out]; exact HU.out.1) (by unfold New'; simp; omega) (by rw [← HZ.out]; exact HR7.out) HF7.out
                rw [← Hm.out, ← HZ.out] at hL
                exact hL
              · refine Frm.setCell (Frm.trans (S' := fun j => (Value.slice ru Z cu).ownBlock = some j) ?_ HF7.out (fun i hi e => absurd (HU.out.2.2.own e).1.1 (by unfold New'; omega))) _ _ (fun q => absurd (HO.out.row.own (k := g3) rfl).1 (by unfold New'; simp at q ⊢; omega))
                exact ((Hf.out.trans Fwc.out (fun _ _ q => q)).alloc _).drew
            case measure => simp [RowKit.intOf]; omega
        · by_cases h3 : x2 % 3 = 0
          · have hr0 : rows = [] := by
              by_cases q : rows = []
              · exact q
              · exact absurd ⟨h3, q⟩ hc3
            have hm0 : rows.length = 0 := by rw [hr0]; rfl
            have h3' : (x2 : Int) % 3 = 0 := by omega
            have hm1 : ¬ (0 : Int) < (rows.length : Int) := by omega
            have Hr0 := hid (And.intro hr0 hm0)
            clear hr0 hm0 h3
            go_wp2_with (first
              | (with_reducible show wpList _ _ _ (Oper.mk (some 57) _ _ _ _ _ :: _) _ _; refine wpList_append_v _ rfl _ _ 28 28 rfl Tryz.underlying28 HIw.out.info HIw.out.zero HIw.out.size rfl (HO.out.row.frm0 (((Frm.refl _ _).alloc _).alloc _)) (src_row2 wc _ _ rfl) rfl rfl (by rw [HIw.out.bytes]; omega) (by omega) ?_; intro a7 c7 w7 hR7 hF7 hs7; have HR7 := hid hR7; have HF7 := hid hF7; clear hR7 hF7 hs7))
            go_roundw
            case rel =>
              refine ⟨k + 1, by omega, by rw [Hp.out]; go_num, ⟨⟨vs ++ [.slice (some ⟨wc.heap.size, 0, none⟩) 1 1], ?_⟩, ?_⟩⟩
              · rw [Hstep.out, rowStep, if_neg hc3]
                have hO2 := HO.out.frm0 (((Frm.refl None' wc).alloc (.cells #[.int .u8 kd, .int .i64 ra, .string ky, .string vl] 53 (0, 0))).alloc (.cells #[.slice (some ⟨wc.heap.size, 0, none⟩) 1 1] 51 (0, 0)))
                have hwc : w.heap.size ≤ wc.heap.size := Nat.le_trans Hf.out.size Fwc.out.size
                refine hO2.push (b := wc.heap.size) (row_new ?_ Hcs.out) rfl hwc ?_ ?_ ?_ HR7.out HF7.out
                · rw [heap_alloc_lt (by simp)]; exact heap_alloc_at
                · intro e; have := (HO.out.row.own e).2; omega
                · intro i x hx e; have := HO.out.lt hx e; omega
                · unfold New'; simp; omega
              · refine Frm.trans (S' := fun j => (Value.slice ao rows.length co).ownBlock = some j) ?_ HF7.out (fun i hi e => absurd (HO.out.row.own e).1 (by unfold New'; omega))
                exact ((Hf.out.trans Fwc.out (fun _ _ q => q)).alloc _).alloc _
            case measure => simp [RowKit.intOf]; omega
          · have h3' : ¬ (x2 : Int) % 3 = 0 := by omega
            go_wp2_with (first
              | (with_reducible show wpList _ _ _ (Oper.mk (some 57) _ _ _ _ _ :: _) _ _; refine wpList_append_v _ rfl _ _ 28 28 rfl Tryz.underlying28 HIw.out.info HIw.out.zero HIw.out.size rfl (HO.out.row.frm0 (((Frm.refl _ _).alloc _).alloc _)) (src_row2 wc _ _ rfl) rfl rfl (by rw [HIw.out.bytes]; omega) (by omega) ?_; intro a7 c7 w7 hR7 hF7 hs7; have HR7 := hid hR7; have HF7 := hid hF7; clear hR7 hF7 hs7))
            go_roundw
            case rel =>
              refine ⟨k + 1, by omega, by rw [Hp.out]; go_num, ⟨⟨vs ++ [.slice (some ⟨wc.heap.size, 0, none⟩) 1 1], ?_⟩, ?_⟩⟩
              · rw [Hstep.out, rowStep, if_neg hc3]
                have hO2 := HO.out.frm0 (((Frm.refl None' wc).alloc (.cells #[.int .u8 kd, .int .i64 ra, .string ky, .string vl] 53 (0, 0))).alloc (.cells #[.slice (some ⟨wc.heap.size, 0, none⟩) 1 1] 51 (0, 0)))
                have hwc : w.heap.size ≤ wc.heap.size := Nat.le_trans Hf.out.size Fwc.out.size
                refine hO2.push (b := wc.heap.size) (row_new ?_ Hcs.out) rfl hwc ?_ ?_ ?_ HR7.out HF7.out
                · rw [heap_alloc_lt (by simp)]; exact heap_alloc_at
                · intro e; have := (HO.out.row.own e).2; omega
                · intro i x hx e; have := HO.out.lt hx e; omega
                · unfold New'; simp; omega
              · refine Frm.trans (S' := fun j => (Value.slice ao rows.length co).ownBlock = some j) ?_ HF7.out (fun i hi e => absurd (HO.out.row.own e).1 (by unfold New'; omega))
                exact ((Hf.out.trans Fwc.out (fun _ _ q => q)).alloc _).alloc _
            case measure => simp [RowKit.intOf]; omega
    · have hkn : k = n := by omega
      subst hkn
      have hrl := ho.row.slice
      obtain ⟨ao, co, rfl⟩ := hrl
      have hrn : rowsAt l k = rowsOf l := by unfold rowsOf; rw [← Hn.out]
      obtain ⟨M, hM⟩ : ∃ M, M = (rowsAt l k).length := ⟨_, rfl⟩
      rw [← hM]
      have HMr := hid (And.intro hM hrn)
      have Hn3 := hid hn3
      clear hM hrn hf ho
      have hex : ¬ 3 * (k : Int) + 2 < (L : Int) ∨ (3 * (k : Int) + 2 < (L : Int) ∧ ¬ 3 * (k : Int) < 18) := by rcases hn3 with h | h <;> omega
      clear hn3
      rcases hex with hex | ⟨hex1, hex2⟩
      · go_wp2
        go_ret
        exact ⟨_, rfl, (by rw [← HMr.out.2]; have h := Ho.out.rd; rw [← HMr.out.1] at h; exact h), Hf.out⟩
      · go_wp2
        go_ret
        exact ⟨_, rfl, (by rw [← HMr.out.2]; have h := Ho.out.rd; rw [← HMr.out.1] at h; exact h), Hf.out⟩
end Go.V
