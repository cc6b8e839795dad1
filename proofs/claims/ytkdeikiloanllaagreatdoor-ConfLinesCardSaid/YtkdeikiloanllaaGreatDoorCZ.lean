/- conf.Parse: the walk. -/
import Derived.Test.YtkdeikiloanllaaGreatDoorCY
import Derived.Laws.Rows
set_option linter.unusedVariables false
set_option linter.unusedSimpArgs false
namespace Go.V
open Go.RowKit Go.Proofs
attribute [local go_sem ↓] Go.wp_at_zero Go.wp_at_succ

theorem results3 {P : Program} {fn : Func} {p u1 u2 : Tmp} {ty : TypeId} (h : fn.results = #[.cell p ty, .tmp u1, .tmp u2]) (tmps : Array Value) (w : World) (g : Nat) (t : TypeId) (cs : Array Value) (fr : Nat × Nat) (d : TypeDesc)
    (hp : tmps.getD p undef = .pointer (some ⟨g, 0, none⟩)) (hg : w.heap[g]? = some (.cells cs t fr))
    (hu : P.underlying ty = some d) (hd : (match d with | .struct _ | .array _ _ => true | _ => false) = true) (hi : (P.info? ty).map (·.size) = some cs.size) :
    (results fn tmps).run P w = .ok (.tuple #[.agg cs, tmps.getD u1 undef, tmps.getD u2 undef]) w := by
  have hp' : tmps[p]?.getD undef = .pointer (some ⟨g, 0, none⟩) := by simpa using hp
  simp [results, h, hp', asAddr, run_loadVar_row w g t ty cs fr d hg hu hd hi, Sem.run_bind, Result.andThen]
theorem txt_zero {t : List UInt8} {c : UInt8} {r : List UInt8} (e : t = c :: r) (h : 0 < (txt t).size) : (txt t)[0]'h = c := by
  subst e
  rfl
theorem first_ok {t : List UInt8} (h : okLine t) : ∃ hp : 0 < (txt t).size, ((((txt t)[0]'hp).toNat : Int) == 35) = false ∧ (txt t).toList.isEmpty = false := by
  obtain ⟨c, r, e, hc⟩ := h.2
  have hp : 0 < (txt t).size := by rw [size_txt, e]; simp
  refine ⟨hp, ?_, ?_⟩
  · rw [txt_zero e hp]
    simp
    intro q
    apply hc
    apply UInt8.toNat_inj.1
    show c.toNat = 35
    omega
  · rw [toList_txt', e]; rfl
theorem heap_set14 {w : World} {b : Nat} {cs : Array Value} {T : TypeId} (h : w.heap[b]? = some (.cells cs T (0, 0))) (hs : cs.toList.length = 14) (a0 a1 a2 a3 a4 a5 a6 a7 a8 a9 a10 a11 a12 a13 : Value) :
    ((((((((((((((w.setCell ⟨b, 0, none⟩ a0).setCell ⟨b, 1, none⟩ a1).setCell ⟨b, 2, none⟩ a2).setCell ⟨b, 3, none⟩ a3).setCell ⟨b, 4, none⟩ a4).setCell ⟨b, 5, none⟩ a5).setCell ⟨b, 6, none⟩ a6).setCell ⟨b, 7, none⟩ a7).setCell ⟨b, 8, none⟩ a8).setCell ⟨b, 9, none⟩ a9).setCell ⟨b, 10, none⟩ a10).setCell ⟨b, 11, none⟩ a11).setCell ⟨b, 12, none⟩ a12).setCell ⟨b, 13, none⟩ a13).heap[b]? = some (.cells #[a0, a1, a2, a3, a4, a5, a6, a7, a8, a9, a10, a11, a12, a13] T (0, 0)) := by
  have h2 := heap_setCells_at [a0, a1, a2, a3, a4, a5, a6, a7, a8, a9, a10, a11, a12, a13] 0 w cs h
  have e : setAll cs 0 [a0, a1, a2, a3, a4, a5, a6, a7, a8, a9, a10, a11, a12, a13] = #[a0, a1, a2, a3, a4, a5, a6, a7, a8, a9, a10, a11, a12, a13] := by
    apply Array.ext'
    rw [setAll_list _ _ _ (by rw [← Array.length_toList, hs]; simp)]
    rw [List.drop_of_length_le (by rw [hs]; simp)]
    simp
  rw [e] at h2
  exact h2
theorem RulesRd.any {S : Nat → Prop} {w : World} {v : Value} {rows : List (List PR)} (h : RulesRd S w v rows) : RulesRd (fun _ => True) w v rows := by
  obtain ⟨vs, h1, h2⟩ := h
  exact ⟨vs, h1.mono (fun _ _ _ => trivial), fun i hi => by obtain ⟨u, q1, q2⟩ := h2 i hi; exact ⟨u, q1, q2.mono (fun _ _ _ => trivial)⟩⟩
def stK (lines : List Ln) (k : Nat) : St := fin St.zero (lines.take k)
/-- the round's relation: k pieces have been read -/
def PRel (B rb mb : Nat) (w2 : World) (lines : List Ln) (tail : List UInt8) (k : Nat) (wr : World) : Prop :=
  Rdr B rb mb (stK lines k) wr ∧ (k = lines.length + 1 → tail = []) ∧ Frm (Tch B rb mb) w2 wr
/-- where Parse stands behind the first Split -/
structure PStart (w w2 : World) (ws : List (List UInt8)) : Prop where
  out : w2.heap[w.heap.size]? = some (.cells #[.int .i64 0, .int .i64 0, .int .i64 0, .int .u64 0, .slice none 0 0, .int .i64 0, .int .i64 0, .int .i64 0, .int .i64 0, .int .i64 0, .int .i64 0, .int .i64 0, .int .i64 0, .int .i64 0] 30 (0, 0))
  ws : w2.heap[w.heap.size + 1 + 1 + 1]? = some (.cells (ws.map fun p => Value.string (txt p)).toArray 9 (0, 0))
  rd : Rdr w2.heap.size (w.heap.size + 1 + 1) (w.heap.size + 1) St.zero w2
  frm : Frm None' w w2
theorem pstart {w w2 : World} {ws : List (List UInt8)} (h : Words (((w.alloc (.cells zeros.toArray 30)).alloc (.map #[] 0)).alloc (.cells (rdrCells St.zero (.slice none 0 0) (w.heap.size + 1)).toArray 67)) w2 ws) : PStart w w2 ws := by
  have e1 : (w.alloc (.cells zeros.toArray 30)).heap.size = w.heap.size + 1 := by simp
  have e2 : ((w.alloc (.cells zeros.toArray 30)).alloc (.map #[] 0)).heap.size = w.heap.size + 1 + 1 := by simp
  have e3 : (((w.alloc (.cells zeros.toArray 30)).alloc (.map #[] 0)).alloc (.cells (rdrCells St.zero (.slice none 0 0) (w.heap.size + 1)).toArray 67)).heap.size = w.heap.size + 1 + 1 + 1 := by simp
  have hb := h.blk
  rw [e3] at hb
  have hm : w2.heap[w.heap.size + 1]? = some (.map #[] 0) := h.frm.heap (by rw [heap_alloc_lt (by rw [e2]; omega), ← e1]; exact heap_alloc_at) (fun q => q)
  have hr : w2.heap[w.heap.size + 1 + 1]? = some (.cells (rdrCells St.zero (.slice none 0 0) (w.heap.size + 1)).toArray 67 (0, 0)) := h.frm.heap (by rw [← e2]; exact heap_alloc_at) (fun q => q)
  refine ⟨h.frm.heap (o := .cells zeros.toArray 30 (0, 0)) (by rw [heap_alloc_lt (by rw [e2]; omega), heap_alloc_lt (by rw [e1]; omega)]; exact heap_alloc_at) (fun q => q), hb, ⟨⟨lt_of_heap hr, lt_of_heap hm, by omega, rfl⟩, ⟨_, hr, RulesOwn.nil _ _⟩, ⟨List.nodup_nil, #[], 0, hm, rfl, List.nodup_nil, fun e he => by simp at he⟩⟩, (((Frm.refl None' w).alloc _).alloc _).alloc _ |>.trans h.frm (fun _ _ q => q)⟩
set_option maxRecDepth 20000 in
set_option maxHeartbeats 4000000 in
theorem Parse_any {B0 : Nat} {w : World} (hE : EnvB B0 w) {lines : List Ln} {tail : List UInt8} {code : Nat} (hruns : Runs St.zero lines) (hnl : lines.length ≤ 1000) (htail : tail = [] ∨ (okLine tail ∧ 0 < code ∧ code < 60000 ∧ Fails B0 (fin St.zero lines) tail code))
    (hok : tail = [] → 12 < (fin St.zero lines).seen.length → confOk (fin St.zero lines).ns (fin St.zero lines).T (fin St.zero lines).rows) (hlen : (lns 10 (lines.map Ln.text) ++ tail).length ≤ 4000) :
    Calls Tryz.prog 7 #[.string (txt (lns 10 (lines.map Ln.text) ++ tail))] w fun e w' => POut w (fin St.zero lines) tail code lines.length e w' := by
  have hfree : (10 : UInt8) ∉ tail := by
    rcases htail with rfl | h
    · simp
    · exact h.1.1
  have hpc : pieces 10 (lns 10 (lines.map Ln.text) ++ tail) = lines.map Ln.text ++ [tail] := by
    rw [pieces_lns (fun x hx => by
      obtain ⟨l, hl, rfl⟩ := List.mem_map.1 hx
      obtain ⟨i, hi, rfl⟩ := List.getElem_of_mem hl
      exact (okLine_text (runs_at lines St.zero hruns i hi)).1), pieces_free hfree]
  have hSp := fun (W : World) (f : Frm None' w W) => hid (Split_c (hE.none f) 10 (lns 10 (lines.map Ln.text) ++ tail) (by omega))
  rw [hpc] at hSp
  obtain ⟨n, hn⟩ : ∃ n, n = lines.length := ⟨_, rfl⟩
  rw [show (lines.map Ln.text ++ [tail]).length = n + 1 from by simp [hn]] at hSp
  have hmm := @run_makeMap Tryz.prog
  have hz : (txt (lns 10 (lines.map Ln.text) ++ tail)).size ≤ 4000 := by rw [size_txt]; exact hlen
  have HE := hid hE
  have HRuns := hid hruns
  have HT := hid htail
  have HOk := hid hok
  have Hn := hid hn
  rw [← hn] at hnl
  clear hE hruns htail hok hn hlen hfree hpc
  generalize txt (lns 10 (lines.map Ln.text) ++ tail) = sx at *
  go_enter Tryz.func7, Tryz.ntmps7
  go_wp2_with (first
    | (go_at_call 18; ((refine (hSp _ ((((Frm.refl None' w).alloc _).alloc _).alloc _)).out.mono ?_); rintro e w2 ⟨rfl, h2⟩; have P2 := hid (pstart h2); clear h2)))
  clear hSp hmm
  have HZ := hid hz
  clear hz
  have z3 := lt_of_heap P2.out.ws
  go_loopw [19] (fun i wr => ∃ k : Nat, k ≤ n + 1 ∧ i = .int .i64 k ∧ PRel w2.heap.size (w.heap.size + 1 + 1) (w.heap.size + 1) w2 lines tail k wr) (fun i _ => n + 1 - (RowKit.intOf i).toNat)
  case atStart => exact ⟨0, by omega, rfl, P2.out.rd, fun h => by omega, Frm.refl _ _⟩
  case round =>
    obtain ⟨k, hk, rfl, hR⟩ := hrel
    have hwsr : wr.heap[w.heap.size + 1 + 1 + 1]? = _ := (hR.2.2.block _ z3 (fun q => by rcases q with q | q | q <;> omega)).trans P2.out.ws
    have HR := hid hR
    clear hR
    have hER : EnvB B0 wr := (HE.out.none P2.out.frm).frm HR.out.2.2 (fun j hj q => by
      have h1 := HE.out.1
      have h2 := P2.out.frm.size
      rcases q with q | q | q <;> omega)
    have hBr := HR.out.2.2.size
    have HER := hid hER
    clear hER
    by_cases hlt : k < n + 1
    · have hcw := cell_of hwsr k
      rcases Nat.lt_or_ge k n with hkn | hkn
      · have hkl : k < lines.length := by rw [← Hn.out]; exact hkn
        have hstep := runs_at lines St.zero HRuns.out k hkl
        have hcell : wr.cell? ⟨w.heap.size + 1 + 1 + 1, k, none⟩ = some (.string (txt lines[k].text)) := hcw.trans (by
          rw [List.getElem?_toArray, List.getElem?_map, List.getElem?_append_left (by simpa using hkl), List.getElem?_map]; simp [hkl])
        have hrows : (fin St.zero (lines.take k)).rows.length ≤ 1000 := by
          have := fin_rows_le (lines.take k) St.zero
          rw [List.length_take] at this
          have e0 : St.zero.rows.length = 0 := rfl
          omega
        have HL := hid (line_any' HER.out (by have := HE.out.1; omega) hBr HR.out.1 hrows hstep)
        obtain ⟨hpos, h35, hem⟩ := first_ok (okLine_text hstep)
        have Hst := hid (fin_take lines St.zero k hkl)
        generalize lines[k] = ln at *
        generalize txt ln.text = s at *
        clear hcw hwsr hrows hstep
        go_wp2_with (first
          | (go_at_call 19; ((with_reducible refine HL.out.mono ?_); rintro e w4 ⟨rfl, r4, f4⟩; have R4 := hid r4; have F4 := hid f4; clear r4 f4)))
        go_roundw
        case rel =>
          refine ⟨k + 1, by omega, by go_num, ?_, fun h => by have := Hn.out; omega, HR.out.2.2.trans F4.out (fun _ _ q => q)⟩
          unfold stK
          rw [Hst.out]
          exact R4.out
        case measure => simp [RowKit.intOf] <;> omega
      · have hkn' : k = n := by omega
        subst hkn'
        have hcell : wr.cell? ⟨w.heap.size + 1 + 1 + 1, k, none⟩ = some (.string (txt tail)) := hcw.trans (by
          rw [List.getElem?_toArray, List.getElem?_map, List.getElem?_append_right (by simp [Hn.out]), List.length_map, ← Hn.out, Nat.sub_self]; rfl)
        have hst : stK lines k = fin St.zero lines := by unfold stK; rw [Hn.out, List.take_length]
        have hst1 : stK lines (k + 1) = fin St.zero lines := by unfold stK; rw [List.take_of_length_le (by have := Hn.out; omega)]
        have Hst := hid (And.intro hst hst1)
        clear hcw hwsr hst hst1
        rcases HT.out with ht | ⟨hokt, hc0, hc1, hfail⟩
        · have Ht := hid ht
          rw [ht] at hcell
          clear ht
          change wr.cell? _ = some (.string ⟨#[]⟩) at hcell
          go_wp2
          go_roundw
          case rel => exact ⟨k + 1, by omega, by go_num, by rw [Hst.out.2, ← Hst.out.1]; exact HR.out.1, fun _ => Ht.out, HR.out.2.2⟩
          case measure => simp [RowKit.intOf] <;> omega
        · have HL := hid (hfail _ _ _ wr HER.out (by have := HR.out.1; rw [Hst.out.1] at this; exact this))
          obtain ⟨hpos, h35, hem⟩ := first_ok hokt
          have hne : tail ≠ [] := by obtain ⟨c, r, e, _⟩ := hokt.2; rw [e]; simp
          have Hne := hid hne
          have hb0 : wr.heap[w.heap.size]? = _ := (HR.out.2.2.block _ (by omega) (fun q => by rcases q with q | q | q <;> omega)).trans P2.out.out
          have HB0 := hid hb0
          generalize txt tail = s at *
          have cc1 : ((code : Int) == 0) = false := by simp; omega
          have cc2 : ((code : Int) != 0) = true := by simp; omega
          have cc3 : ¬ ((code : Int) = 0) := by omega
          clear hfail hokt hc0 hc1 hne hb0
          go_wp2_with (first
            | (go_at_call 19; ((with_reducible refine HL.out.mono ?_); rintro e w4 ⟨rfl, f4⟩; have b4 := f4.heap HB0.out (fun q => q); have x4 := cell_of b4; have y4 := free_of b4; have B4 := hid b4; have z4 := lt_of_heap b4; have F4 := hid f4; clear f4 b4)))
          refine bodyPost_ret (v := .tuple #[.agg zeros.toArray, .int .u16 (code : Int), .int .i64 ((k : Int) + 1)]) ?_ rfl ?_
          · exact (results3 (fn := Tryz.f7) (p := 2) (u1 := 3) (u2 := 4) (ty := 30) rfl _ _ w.heap.size _ _ _ _ rfl (heap_set14 B4.out rfl _ _ _ _ _ _ _ _ _ _ _ _ _ _) Tryz.underlying30 rfl (by kernel_rfl)).trans rfl
          · refine ⟨?_, .inl ⟨Hne.out, by rw [← Hn.out]; rfl⟩⟩
            repeat' (refine Frm.setCell ?_ _ _ (fun q => absurd q (Nat.lt_irrefl _)))
            exact (P2.out.frm.trans HR.out.2.2 (fun i hi q => by have := P2.out.frm.size; rcases q with q | q | q <;> omega)).trans F4.out (fun _ _ q => q)
    · have hkn : k = n + 1 := by omega
      have ht := HR.out.2.1 (by have := Hn.out; omega)
      have hst1 : stK lines k = fin St.zero lines := by unfold stK; rw [List.take_of_length_le (by have := Hn.out; omega)]
      have hRd := HR.out.1
      rw [hst1] at hRd
      have hok := HOk.out ht
      obtain ⟨st, hst⟩ : ∃ st, st = fin St.zero lines := ⟨_, rfl⟩
      rw [← hst] at hRd hok
      have Hst := hid hst
      have Hkn := hid hkn
      have Ht := hid ht
      clear hst hst1 hkn ht hwsr
      have hlenm := fun ty => hRd.len ty
      have cm := hRd.mapCell
      have hb0 : wr.heap[w.heap.size]? = _ := (HR.out.2.2.block _ (by omega) (fun q => by rcases q with q | q | q <;> omega)).trans P2.out.out
      have HB0 := hid hb0
      have HRd := hid hRd
      have hF : Frm None' w wr := P2.out.frm.trans HR.out.2.2 (fun i hi q => by have := P2.out.frm.size; rcases q with q | q | q <;> omega)
      have HF := hid hF
      clear hF hb0 hRd
      by_cases h12 : st.seen.length ≤ 12
      · have Hok := hid hok
        clear hok
        have q12 : ((st.seen.length : Int) ≤ 12) := by omega
        go_wp2_with (first
          | (go_at_call 9; ((with_reducible refine (settings_w _).mono ?_); rintro e w4 ⟨rfl, h4⟩; have b4 := h4.frm.heap HB0.out (fun q => q); have x4 := cell_of b4; have y4 := free_of b4; have B4 := hid b4; have z4 := lt_of_heap b4; have F4 := hid h4.frm; clear h4 b4)))
        refine bodyPost_ret (v := .tuple #[.agg zeros.toArray, .int .u16 71, .int .i64 0]) ?_ rfl ?_
        · exact (results3 (fn := Tryz.f7) (p := 2) (u1 := 3) (u2 := 4) (ty := 30) rfl _ _ w.heap.size _ _ _ _ rfl (heap_set14 B4.out rfl _ _ _ _ _ _ _ _ _ _ _ _ _ _) Tryz.underlying30 rfl (by kernel_rfl)).trans rfl
        · refine ⟨?_, .inr (.inl ⟨Ht.out, by rw [← Hst.out]; exact h12, rfl⟩)⟩
          repeat' (refine Frm.setCell ?_ _ _ (fun q => absurd q (Nat.lt_irrefl _)))
          exact HF.out.trans F4.out (fun _ _ q => q)
      · have hcf := hok (by omega)
        have Hcf := hid hcf
        clear hcf hok
        have q12 : ¬ ((st.seen.length : Int) ≤ 12) := by omega
        obtain ⟨v, hbr, hor⟩ := HRd.out.own
        obtain ⟨mr, hmr⟩ : ∃ mr, mr = st.rows.length := ⟨_, rfl⟩
        obtain ⟨av, cv, rfl, _⟩ := hor.rd.slice
        rw [← hmr] at hbr hor
        have Hmr := hid hmr
        obtain ⟨x0, x1, x2, x3, x5, x6, x7, x8, x9, x10, x11, x12, x13, hc⟩ : ∃ x0 x1 x2 x3 x5 x6 x7 x8 x9 x10 x11 x12 x13 : Int, confCells st.ns st.T (.slice av mr cv) = [.int .i64 x0, .int .i64 x1, .int .i64 x2, .int .u64 x3, .slice av mr cv, .int .i64 x5, .int .i64 x6, .int .i64 x7, .int .i64 x8, .int .i64 x9, .int .i64 x10, .int .i64 x11, .int .i64 x12, .int .i64 x13] := ⟨_, _, _, _, _, _, _, _, _, _, _, _, _, rfl⟩
        have hRight : ∀ W (f : Frm None' wr W), Hid (Calls Tryz.prog 8 #[.agg #[.int .i64 x0, .int .i64 x1, .int .i64 x2, .int .u64 x3, .slice av mr cv, .int .i64 x5, .int .i64 x6, .int .i64 x7, .int .i64 x8, .int .i64 x9, .int .i64 x10, .int .i64 x11, .int .i64 x12, .int .i64 x13]] W fun e w' => e = .returned (.bool true) ∧ Frm None' W w') := fun W f => hid (by
          have h := Right_any (w := W) (hor.rd.frm f (fun _ _ q => q)) Hcf.out
          rw [hc] at h
          exact h)
        have hbr' : wr.heap[w.heap.size + 1 + 1]? = some (.cells #[.int .i64 x0, .int .i64 x1, .int .i64 x2, .int .u64 x3, .slice av mr cv, .int .i64 x5, .int .i64 x6, .int .i64 x7, .int .i64 x8, .int .i64 x9, .int .i64 x10, .int .i64 x11, .int .i64 x12, .int .i64 x13, .map (some (w.heap.size + 1))] 67 (0, 0)) := by
          rw [hbr]; unfold rdrCells; rw [hc]; rfl
        have HBR := hid hbr'
        have HOr := hid hor
        have HC := hid hc
        clear hbr hor hc hmr hbr'
        go_wp2_with (first
          | (go_at_call 9; ((with_reducible refine (settings_w _).mono ?_); rintro e w4 ⟨rfl, h4⟩; have hb4 := h4.frm.heap HBR.out (fun q => q); have x4 := cell_of hb4; have F4 := hid h4.frm; clear h4 hb4))
          | (go_at_call 8; ((with_reducible refine (hRight _ F4.out).out.mono ?_); rintro e w5 ⟨rfl, h5⟩; have F5 := hid (F4.out.trans h5 (fun _ _ q => q)); have B5 := hid (F5.out.heap HB0.out (fun q => q)); have xb := cell_of B5.out; have yb := free_of B5.out; have zb := lt_of_heap B5.out; have hb5 := F5.out.heap HBR.out (fun q => q); have xr := cell_of hb5; have zr := lt_of_heap hb5; clear h5 hb5)))
        refine bodyPost_ret (v := .tuple #[.agg #[.int .i64 x0, .int .i64 x1, .int .i64 x2, .int .u64 x3, .slice av mr cv, .int .i64 x5, .int .i64 x6, .int .i64 x7, .int .i64 x8, .int .i64 x9, .int .i64 x10, .int .i64 x11, .int .i64 x12, .int .i64 x13], .int .u16 0, .int .i64 0]) ?_ rfl ?_
        · exact (results3 (fn := Tryz.f7) (p := 2) (u1 := 3) (u2 := 4) (ty := 30) rfl _ _ w.heap.size _ _ _ _ rfl (heap_set14 B5.out rfl _ _ _ _ _ _ _ _ _ _ _ _ _ _) Tryz.underlying30 rfl (by kernel_rfl)).trans rfl
        · refine ⟨?_, .inr (.inr ⟨Ht.out, by rw [← Hst.out]; omega, .slice av mr cv, ?_, ?_⟩)⟩
          · repeat' (refine Frm.setCell ?_ _ _ (fun q => absurd q (Nat.lt_irrefl _)))
            exact HF.out.trans F5.out (fun _ _ q => q)
          · rw [← Hst.out, HC.out]
          · rw [← Hst.out]
            have hr5 := HOr.out.rd.frm F5.out (fun _ _ q => q)
            refine RulesRd.any (RulesRd.frm (F := fun j => j = w.heap.size) hr5 ?_ (fun j hj q => by have h1 := hj.1; have := P2.out.frm.size; omega))
            repeat' (refine Frm.setCell ?_ _ _ (fun _ => rfl))
            exact Frm.refl _ _
end Go.V
