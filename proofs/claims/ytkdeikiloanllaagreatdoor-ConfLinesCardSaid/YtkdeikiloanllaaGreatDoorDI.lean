/- telemeterlaw19.ConfLines: a line too many behind a configuration's text is wrong at its place, whatever it is. Every choice of bytes for the configuration, its rules and the name, every word: no condition but what the row's list of the library's variables says (tied to the program's text by the card). -/
import Derived.Test.YtkdeikiloanllaaGreatDoorDH
import Derived.Test.YtkdeikiloanllaaGreatDoorCards
import Derived.Test.YtkdeikiloanllaaGreatDoorTie
import Derived.ProofKit
import Derived.OpenShut
import Derived.WideKeyArgs
import Derived.Deep.DeepHandedRow
import Derived.Deep.DeepWitnessRowRef
import Derived.Lib.LaidTab
import Derived.Stop.LaidErr
import Derived.Shelf.Vars
set_option linter.unusedVariables false
set_option linter.unusedSimpArgs false
namespace Go.Proofs.YtkdeikiloanllaaGreatDoor
open Go.ChangeShapes Go.WideShapes Go.ChangeAt Go.RowKit

theorem cl_own : ownKnob Tryz.prog.godebug = none := by kernel_rfl
theorem cl_laid : laidOutB Tryz.prog = true := by kernel_rfl
theorem cl_gTab : Tryz.prog.globalNamed "internal/strconv.uint64pow10" = some 1 := by kernel_rfl
theorem cl_gTabType : (Tryz.prog.globals[1]?).map (·.type) = some 130 := by kernel_rfl
theorem cl_cellsTab : Tryz.prog.cellsOf 130 = 20 := by kernel_rfl
theorem cl_cells64 : Tryz.prog.cellsOf 27 = 1 := by kernel_rfl
theorem cl_cells8 : Tryz.prog.cellsOf 5 = 1 := by kernel_rfl
/-- What the row's list gives: the table of tens. -/
theorem cl_table {W : World} (h : laidMetH Tryz.prog Rows.confLinesRow.laid W) : Lib.TabIs Tryz.prog W "internal/strconv.uint64pow10" .u64 Lib.pow10Tab := by
  have h0 : laidMet Tryz.prog Rows.confLinesRow.laid W := h
  have h1 := laidMet.tail h0
  have h2 := laidMet.tail h1
  exact Lib.tabIs_of_head cl_gTab cl_gTabType Tryz.underlying130 Tryz.underlying27 cl_cells64 cl_cellsTab h2
/-- What the world's shape gives: MaxLen holds a number. -/
theorem cl_max {W : World} (h : W.ShapedOpen Tryz.prog) : ∃ m, W.cell? ⟨0, 0, none⟩ = some (.int .i64 m) :=
  cell_of_shapedOpen_int (t := 3) (zero := #[.int .i64 0]) h (of_decide_eq_true (by kernel_rfl)) (by kernel_rfl) rfl (by kernel_rfl) (by kernel_rfl) Tryz.underlying3
theorem cl_env {W : World} (h : laidMetH Tryz.prog Rows.confLinesRow.laid W) (hs : W.ShapedOpen Tryz.prog) : Go.V.EnvB W.heap.size W := by
  refine ⟨Nat.le_refl _, fun w' hb => ⟨Lib.tabBelow_of_tabIs (cl_table h) w' hb, ?_⟩⟩
  obtain ⟨m, hm⟩ := cl_max hs
  refine ⟨m, ?_⟩
  rw [hb.cell (p := ⟨0, 0, none⟩) (block_lt_of_cell hm)]
  exact hm
set_option maxRecDepth 100000 in
/-- A slice of bytes that came in reads as a list of bytes. -/
theorem cl_bytes {H : Type} {enc : TypeId × Value → H} {W : World} {base : Nat} {v : Value} {d : DataW H} {p : List MemPlace} (hval : Value.okWide Tryz.prog W .any base 22 v) (h : DataW.Trod enc Tryz.prog W 0 (fun _ => true) true 22 v d p) :
    ∃ l : List UInt8, Go.V.RdB (fun _ => True) W v l := by
  obtain ⟨fuel, hf⟩ := h
  have hval' := hval
  simp only [Value.okWide, Tryz.underlying22, Cell.okWide] at hval'
  obtain ⟨a1, len, cap, rfl⟩ := okWide_slice Tryz.underlying22 hval
  rcases open_ints Tryz.underlying22 Tryz.underlying5 cl_cells8 hf with ⟨hcs, hx⟩ | ⟨a, len', cap', zs, hcs, _, hl, hm, hz, hx, hcell, hwz⟩
  · simp [Value.cells] at hcs
    obtain ⟨rfl, rfl, rfl⟩ := hcs
    exact ⟨[], Go.V.Rd.nil _ _ _⟩
  · simp [Value.cells] at hcs
    obtain ⟨rfl, rfl, rfl⟩ := hcs
    simp only [Cell.ok, Tryz.underlying22] at hval'
    obtain ⟨_, _, _, hspot, _⟩ := hval'
    obtain ⟨ab, ao, spot⟩ := a
    simp only at hspot
    subst hspot
    simp only [if_true] at hz
    have hlen : ((zs.take len).map fun n => UInt8.ofNat n.toNat).length = len := by simp; omega
    refine ⟨(zs.take len).map fun n => UInt8.ofNat n.toNat, ?_⟩
    unfold Go.V.RdB
    rw [hlen]
    refine ⟨by rw [Go.V.cells8_length, hlen, Nat.mul_one], some ⟨ab, ao, none⟩, cap, rfl, hl, by unfold maxLen at hm; omega, fun hp => ⟨ab, ao, rfl, trivial, ?_, fun j u hu => ?_⟩, fun ad h => by injection h with h; rw [← h]⟩
    · have := hcell 0 (by omega)
      rw [Addr.add_lit] at this
      exact block_lt_of_cell this
    · have hj : j < len := by
        have := (List.getElem?_eq_some_iff.1 hu).1
        rw [Go.V.cells8_length, hlen] at this
        exact this
      have hcj := hcell j (by omega)
      rw [Addr.add_lit] at hcj
      rw [hcj, ← hu, Go.V.cells8_get _ j (by rw [hlen]; exact hj)]
      have hb := range_u8 hwz j
      have e : zs.getD j 0 = zs[j]'(by omega) := by simp [List.getD, List.getElem?_eq_getElem (show j < zs.length by omega)]
      have e2 : zs[j]?.getD 0 = zs[j]'(by omega) := by rw [List.getElem?_eq_getElem (show j < zs.length by omega)]; rfl
      rw [e2] at hb
      rw [e]
      congr 2
      simp only [List.getElem_map, List.getElem_take, UInt8.toNat_ofNat']
      omega
/-- Arguments that lie in memory which stays read as they did. -/
theorem cl_stay {H : Type} {enc : TypeId × Value → H} {W W' : World} {sp : Nat → Bool} : ∀ {ts : List TypeId} {vs : List Value} {ds : List (DataW H)} {ps : List MemPlace}, (∀ t ∈ ts, Tryz.prog.readableRec t = true ∧ t < Tryz.prog.types.size) →
    DataW.TrodAll enc Tryz.prog W 0 (fun _ => true) true ts vs ds ps → (∀ p ∈ ps, W.sameAt W' p) → (∀ p ∈ ps, sp p.block = true) → DataW.TrodAll enc Tryz.prog W' 0 sp true ts vs ds ps
  | [], vs, ds, ps, _, h, _, _ => by
    obtain ⟨rfl, rfl, rfl⟩ := trodAll_nil h
    exact trodAll_mk0
  | t :: ts, vs, ds, ps, hts, h, hsame, hsp => by
    obtain ⟨v, vs', d, ds', p, q, rfl, rfl, rfl, h1, h2⟩ := trodAll_cons h
    exact trodAll_cons_mk (WideElems.Trod_stays cl_laid (hts t (by simp)).1 (hts t (by simp)).2 h1 (fun x hx => hsame x (by simp [hx])) (fun x hx => hsp x (by simp [hx])))
      (cl_stay (fun t' ht => hts t' (by simp [ht])) h2 (fun x hx => hsame x (by simp [hx])) (fun x hx => hsp x (by simp [hx])))
theorem cl_types : ∀ t ∈ [22, 22, 5, 9], Tryz.prog.readableRec t = true ∧ t < Tryz.prog.types.size := by
  have h1 : Tryz.prog.readableRec 22 = true := by kernel_rfl
  have h2 : Tryz.prog.readableRec 5 = true := by kernel_rfl
  have h3 : Tryz.prog.readableRec 9 = true := by kernel_rfl
  have hs : 100 < Tryz.prog.types.size := of_decide_eq_true (by kernel_rfl)
  intro t ht
  simp at ht
  rcases ht with rfl | rfl | rfl
  · exact ⟨h1, Nat.lt_trans (show 22 < 100 by decide) hs⟩
  · exact ⟨h2, Nat.lt_trans (show 5 < 100 by decide) hs⟩
  · exact ⟨h3, Nat.lt_trans (show 9 < 100 by decide) hs⟩

set_option maxRecDepth 100000 in
/-- What the walks give, for every argument and every world that holds what the row lists. -/
theorem cl_contract (H : Type) (enc : TypeId × Value → H) (W : World) (base : Nat) (args : Array Value) (ds gs : List (DataW H)) (before : List MemPlace)
    (hval : ∀ (j : Nat) t v, Tryz.f3.params[j]? = some t → args[j]? = some v → Value.okWide Tryz.prog W .any base t v)
    (hW : DataW.Whole enc Tryz.prog Tryz.f3.params.toList Rows.confLinesSpec.vars false W args.toList ds gs before) (hL : laidMetH Tryz.prog Rows.confLinesRow.laid W) (hsh : W.ShapedOpen Tryz.prog) :
    Calls Tryz.prog 3 args W fun e W' => ∃ v, e = .returned v ∧ Rows.confLinesSpec.post enc Tryz.prog Tryz.f3 false true false false W args v W' := by
  have hW' := hW
  obtain ⟨p, q, hA0, hV, rfl, hfz, hnd⟩ := hW
  have hA : DataW.TrodAll enc Tryz.prog W 0 (fun _ => true) true Tryz.f3.params.toList args.toList ds p := hA0
  have hAll := hA
  rw [Tryz.params3] at hA hval hAll
  obtain ⟨v0, vs0, d0, ds0, p0, q0, hargs, rfl, rfl, h0, r0⟩ := trodAll_cons hA
  obtain ⟨v1, vs1, d1, ds1, p1, q1, rfl, rfl, rfl, h1, r1⟩ := trodAll_cons r0
  obtain ⟨v2, vs2, d2, ds2, p2, q2, rfl, rfl, rfl, h2, r2⟩ := trodAll_cons r1
  obtain ⟨v3, vs3, d3, ds3, p3, q3, rfl, rfl, rfl, h3, r3⟩ := trodAll_cons r2
  obtain ⟨rfl, rfl, rfl⟩ := trodAll_nil r3
  obtain rfl : args = #[v0, v1, v2, v3] := by cases args; simp_all
  obtain ⟨rfl, rfl⟩ := trodVars_none hV
  obtain ⟨c, hc⟩ := cl_bytes (hval 0 22 v0 rfl rfl) h0
  obtain ⟨r, hr⟩ := cl_bytes (hval 1 22 v1 rfl rfl) h1
  obtain ⟨n, rfl, rfl, rfl, hn⟩ := open_int Tryz.underlying5 (hval 2 5 v2 rfl rfl) h2
  obtain ⟨s, rfl, rfl, rfl, hs⟩ := Go.ChangeMaps.open_string Tryz.underlying9 (hval 3 9 v3 rfl rfl) h3
  have hb := bounds_u8 hn
  obtain ⟨k, rfl⟩ : ∃ k : Nat, n = (k : Int) := ⟨n.toNat, by omega⟩
  have hlt := hW'.lt
  refine (Go.V.ConfLines_any (cl_env hL hsh) hc hr (by omega) (by unfold maxLen at hs; exact hs)).mono fun e W' ⟨he, hf⟩ => ?_
  subst he
  have hbel := hf.below
  refine ⟨_, rfl, _, _, _, [], p0 ++ (p1 ++ ([] ++ ([] ++ []))), [], hW', ?_, ?_, ?_, hbel.frame _, fun h => by cases h⟩
  · exact trodAll_cons_mk (shut_bool Tryz.underlying4 _) trodAll_mk0
  · have hst := cl_stay (sp := fun b => decide (b < W.heap.size)) (W' := W') cl_types hAll (fun x hx => hbel.same (hlt x (List.mem_append_left _ hx))) (fun x hx => decide_eq_true (hlt x (List.mem_append_left _ hx)))
    exact hst
  · rfl

/-- A world for the witness: the settled one, the listed variables laid. -/
noncomputable def clLow : Nat := (World.holding Tryz.prog default ⟨#[], #[], []⟩).heap.size
noncomputable def clWorld (os : Os) : World :=
  let w0 := World.holding Tryz.prog os ⟨#[.cells #[.string ⟨#[118, 97, 108, 117, 101, 32, 111, 117, 116, 32, 111, 102, 32, 114, 97, 110, 103, 101]⟩] 160, .cells #[.string ⟨#[105, 110, 118, 97, 108, 105, 100, 32, 115, 121, 110, 116, 97, 120]⟩] 160], #[], []⟩
  { w0 with heap := ((((((w0.heap.modify 1 fun
      | .cells _ t f => .cells #[.int .u64 1, .int .u64 10, .int .u64 100, .int .u64 1000, .int .u64 10000, .int .u64 100000, .int .u64 1000000, .int .u64 10000000, .int .u64 100000000, .int .u64 1000000000, .int .u64 10000000000, .int .u64 100000000000, .int .u64 1000000000000, .int .u64 10000000000000, .int .u64 100000000000000, .int .u64 1000000000000000, .int .u64 10000000000000000, .int .u64 100000000000000000, .int .u64 1000000000000000000, .int .u64 10000000000000000000] t f
      | o => o).modify 2 fun
      | .cells _ t f => .cells (Go.Pinned.utf8FirstZ.map fun (n : Nat) => Value.int .u8 (n : Int)).toArray t f
      | o => o).modify 3 fun
      | .cells _ t f => .cells #[.int .u8 128, .int .u8 191, .int .u8 160, .int .u8 191, .int .u8 128, .int .u8 159, .int .u8 144, .int .u8 191, .int .u8 128, .int .u8 143, .int .u8 0, .int .u8 0, .int .u8 0, .int .u8 0, .int .u8 0, .int .u8 0, .int .u8 0, .int .u8 0, .int .u8 0, .int .u8 0, .int .u8 0, .int .u8 0, .int .u8 0, .int .u8 0, .int .u8 0, .int .u8 0, .int .u8 0, .int .u8 0, .int .u8 0, .int .u8 0, .int .u8 0, .int .u8 0] t f
      | o => o).modify 4 fun
      | .cells _ t f => .cells #[.iface 158 (.pointer (some ⟨clLow + 1, 0, none⟩))] t f
      | o => o).modify 5 fun
      | .cells _ t f => .cells #[.iface 158 (.pointer (some ⟨clLow, 0, none⟩))] t f
      | o => o).modify 6 fun
      | .cells _ t f => .cells #[.int .u8 0, .int .u8 1, .int .u8 28, .int .u8 2, .int .u8 29, .int .u8 14, .int .u8 24, .int .u8 3, .int .u8 30, .int .u8 22, .int .u8 20, .int .u8 15, .int .u8 25, .int .u8 17, .int .u8 4, .int .u8 8, .int .u8 31, .int .u8 27, .int .u8 13, .int .u8 23, .int .u8 21, .int .u8 19, .int .u8 16, .int .u8 7, .int .u8 26, .int .u8 12, .int .u8 18, .int .u8 6, .int .u8 11, .int .u8 5, .int .u8 10, .int .u8 9] t f
      | o => o).modify 7 fun
      | .cells _ t f => .cells #[.int .u8 0, .int .u8 1, .int .u8 56, .int .u8 2, .int .u8 57, .int .u8 49, .int .u8 28, .int .u8 3, .int .u8 61, .int .u8 58, .int .u8 42, .int .u8 50, .int .u8 38, .int .u8 29, .int .u8 17, .int .u8 4, .int .u8 62, .int .u8 47, .int .u8 59, .int .u8 36, .int .u8 45, .int .u8 43, .int .u8 51, .int .u8 22, .int .u8 53, .int .u8 39, .int .u8 33, .int .u8 30, .int .u8 24, .int .u8 18, .int .u8 12, .int .u8 5, .int .u8 63, .int .u8 55, .int .u8 48, .int .u8 27, .int .u8 60, .int .u8 41, .int .u8 37, .int .u8 16, .int .u8 46, .int .u8 35, .int .u8 44, .int .u8 21, .int .u8 52, .int .u8 32, .int .u8 23, .int .u8 11, .int .u8 54, .int .u8 26, .int .u8 40, .int .u8 15, .int .u8 34, .int .u8 20, .int .u8 31, .int .u8 10, .int .u8 25, .int .u8 14, .int .u8 19, .int .u8 9, .int .u8 13, .int .u8 8, .int .u8 7, .int .u8 6] t f
      | o => o }
theorem cl_met (os : Os) : laidMet Tryz.prog Rows.confLinesRow.laid ((clWorld os).forCall (fun _ _ => 0) ⟨#[], #[.slice none 0 0, .slice none 0 0, .int .u8 0, .string ⟨#[]⟩], []⟩).memory :=
  laidMet_of_run' 8 (by kernel_rfl) (by kernel_rfl)
theorem cl_reads (os : Os) {H : Type} (enc : TypeId × Value → H) : ∃ places, DataW.whole enc Tryz.prog ((clWorld os).forCall (fun _ _ => 0) ⟨#[], #[.slice none 0 0, .slice none 0 0, .int .u8 0, .string ⟨#[]⟩], []⟩).memory Tryz.f3.params.toList Rows.confLinesSpec.vars false #[Value.slice none 0 0, .slice none 0 0, .int .u8 0, .string ⟨#[]⟩].toList 8 = some ([.nil, .nil, .lit (.int .u8 0), .lit (.string [])], [], places) :=
  ⟨[], by kernel_rfl⟩
set_option maxRecDepth 100000 in
theorem cl_lifted (os : Os) (started : os.Started) (H : Type) (enc : TypeId × Value → H) (F : Stop.Interp) :
    ReturnsInHanded {} Tryz.checked os 3 .any ((OpenSpec.ofChange Rows.confLinesSpec).preRow enc Tryz.prog Tryz.f3 Rows.confLinesRow.domain false Rows.confLinesRow.laid) (((OpenSpec.ofChange Rows.confLinesSpec).at F).post enc Tryz.prog Tryz.f3 false true false false) := by
  obtain ⟨places, hx⟩ := cl_reads os enc
  refine returnsInHanded_of_row (C := Tryz.checked) (s := OpenSpec.ofChange Rows.confLinesSpec) cl_own started (by kernel_rfl) Tryz.func3
    (witness_row_atRef (enc := enc) (C := Tryz.checked) false (clWorld os) #[.slice none 0 0, .slice none 0 0, .int .u8 0, .string ⟨#[]⟩] rfl (by kernel_rfl) (by kernel_rfl) (by kernel_rfl)
      (OpenSpec.preRow_of_cond 8 hx (by kernel_rfl) (fun k hk => by cases hk) (by kernel_rfl) (cl_met os))) ?_
  intro W base args ds gs before hval hW _ _ _ hL hsh _
  exact cl_contract H enc W base args ds gs before hval hW hL hsh
theorem confLines_said : Rows.ConfLinesSaid :=
  OpenClaim.holds_of_cond 3 Tryz.f3 rfl rfl rfl rfl rfl rfl rfl ⟨rfl, rfl, rfl, rfl, rfl⟩ rfl rfl rfl rfl rfl (by kernel_rfl) Tryz.func3 (by kernel_rfl)
    (of_decide_eq_true (by kernel_rfl)) (by unfold Func.isWrapper; first | (rw [if_pos (by decide +kernel)]; kernel_rfl) | (rw [if_neg (by decide +kernel)]; exact ⟨rfl, rfl⟩))
    (fun os started H enc _ F => by rw [OpenClaim.pre_eq_preRow]; exact cl_lifted os started H enc F)
theorem cl_plain (f : FuncId) (fn : Func) (hf : Tryz.pinned.checked.prog.funcNamed "telemeter/telemeterlaw19.ConfLines" = some f) (hfn : Tryz.pinned.checked.prog.funcs[f]? = some fn) :
    true = Tryz.pinned.checked.prog.looks [] ∧ ∀ (j : Nat) t, fn.params[j]? = some t → Tryz.pinned.checked.prog.wantsStandIn t = false := by
  obtain rfl : f = 3 := Option.some.inj ((show Tryz.prog.funcNamed "telemeter/telemeterlaw19.ConfLines" = some 3 by kernel_rfl).symm.trans hf) |>.symm
  obtain rfl : fn = Tryz.f3 := (Option.some.inj (Tryz.func3.symm.trans hfn)).symm
  refine ⟨by kernel_rfl, fun j t ht => ?_⟩
  rw [Tryz.params3] at ht
  have hm := Array.mem_of_getElem? ht
  simp at hm
  rcases hm with rfl | rfl | rfl
  · exact (show Tryz.prog.wantsStandIn 22 = false by kernel_rfl)
  · exact (show Tryz.prog.wantsStandIn 5 = false by kernel_rfl)
  · exact (show Tryz.prog.wantsStandIn 9 = false by kernel_rfl)
/-- The card. -/
theorem confLines_card : Rows.ConfLinesCardSaid :=
  Claim7.holds_tied_plain_at .later [] _ _ _ _ confLines_said (fun _ h => by cases h) (by kernel_rfl) (fun _ h => by cases h) confLines_row_tie rfl ⟨rfl, rfl⟩ (by kernel_rfl) rfl cl_plain (by kernel_rfl)
#print axioms confLines_card
end Go.Proofs.YtkdeikiloanllaaGreatDoor
