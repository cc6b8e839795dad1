/- A line: settings, the threshold, what is known already. -/
import Derived.Test.YtkdeikiloanllaaGreatDoorCU
set_option linter.unusedVariables false
set_option linter.unusedSimpArgs false
namespace Go.V
open Go.RowKit Go.Proofs
attribute [local go_sem ↓] Go.wp_at_zero Go.wp_at_succ

theorem Rdr.look {B rb mb : Nat} {s : St} {w : World} (h : Rdr B rb mb s w) (x : List UInt8) (q : Nat) :
    (Instr.lookup 65 (.map (some mb)) (.string (txt x)) false).run Tryz.prog (w.drewN q) = .ok ((mget (seenMap s.seen) x).getD (.bool false)) (w.drewN q) := by
  have hm : MapAt mkStr (w.drewN q) mb (seenMap s.seen) := h.mp.same rfl
  have hz : ∀ w, (zeroValue 4).run Tryz.prog w = .ok (.bool false) w := fun w => by kernel_rfl
  exact run_lookup Tryz.underlying65 (finds_str Tryz.underlying9) hz hm x false
theorem Rdr.mapCell {B rb mb : Nat} {s : St} {w : World} (h : Rdr B rb mb s w) : w.cell? ⟨rb, 14, none⟩ = some (.map (some mb)) := by
  obtain ⟨v, hb, _⟩ := h.own
  exact (cell_of hb 14).trans rfl
theorem setNm_nosp : ∀ i : Fin 12, (setNm.getD i.val []).all plain = true := by decide +kernel
theorem thrNm_plain : thrNm.all plain = true := by decide +kernel
theorem setNm_rule : ∀ i : Fin 12, ((txt (setNm.getD i.val [])).toList == [114, 117, 108, 101]) = false := by
  intro i
  rw [toList_txt']
  revert i
  decide +kernel
set_option maxRecDepth 20000 in
set_option maxHeartbeats 2000000 in
/-- a setting that is known already -/
theorem line_twice {B0 B rb mb i : Nat} {w : World} {s : St} {l : List UInt8} (hE : EnvB B0 w) (hr : Rdr B rb mb s w) (hi : i < 12) (hs : setNm.getD i [] ∈ s.seen) (hl : l.length < 4000) :
    Calls Tryz.prog 19 #[.pointer (some ⟨rb, 0, none⟩), .string (txt (setNm.getD i [] ++ 32 :: l))] w fun e w' => e = .returned (.int .u16 1) ∧ Frm None' w w' := by
  have hnl : (setNm.getD i []).length ≤ 9 := by
    have : ∀ j : Fin 12, (setNm.getD j.val []).length ≤ 9 := by decide +kernel
    exact this ⟨i, hi⟩
  have hSp := hid (Split_w hE (setNm.getD i [] ++ 32 :: l) (by simp at hnl ⊢; omega))
  rw [pieces_append (plain_nosp (setNm_nosp ⟨i, hi⟩))] at hSp
  obtain ⟨n, hn⟩ : ∃ n, n = (pieces 32 l).length := ⟨_, rfl⟩
  have hlen : n ≤ 4001 := by have := count_le8 32 l; omega
  generalize pieces 32 l = rest at hSp hn
  rw [show (setNm.getD i [] :: rest).length = n + 1 from by rw [hn]; rfl] at hSp
  have hI := fun (W : World) (sb nb : Nat) h1 h2 h3 => hid (IndexSet (w := W) (sb := sb) (nb := nb) (name := setNm.getD i []) h1 h2 h3)
  have h9 : nameIdx (setNm.getD i []) = (i : Int) := nameIdx_set ⟨i, hi⟩
  rw [h9] at hI
  have hr1 := setNm_rule ⟨i, hi⟩
  simp only at hr1
  have HL := fun (W : World) (f : Frm None' w W) (q : Nat) => (hr.frm0 f).look (setNm.getD i []) q
  rw [mget_seen hs] at HL
  simp only [Option.getD_some] at HL
  have HLk := hid HL
  have HR := hid hr
  have Hn := hid hn
  clear HL hr hn hE hs h9 hl hnl
  generalize txt (setNm.getD i [] ++ 32 :: l) = sx at *
  have hW := fun (w1 : World) (h : Words w w1 (setNm.getD i [] :: rest)) => (cell_of h.blk 0).trans (show _ = some (Value.string (txt (setNm.getD i []))) from rfl)
  have HW := hid hW
  clear hW
  generalize txt (setNm.getD i []) = tn at *
  have hi0 : ¬ (i : Int) < 0 := by omega
  go_enter Tryz.func19, Tryz.ntmps19
  go_wp2_with (first
    | (go_at_call 18; ((with_reducible refine hSp.out.mono ?_); rintro e w1 ⟨rfl, h1⟩; have c0 := HW.out _ h1; have z0 := lt_of_heap h1.blk; have H1 := hid h1; clear h1))
    | (go_at_call 9; ((with_reducible refine (settings_w _).mono ?_); rintro e w2 ⟨rfl, h2⟩; have M2 := hid (Mid.start H1.out h2); clear h2))
    | (go_at_call 44; ((with_reducible refine (hI _ _ _ M2.out.st M2.out.name (lt_of_heap M2.out.nm)).out.mono ?_); rintro e w3 ⟨rfl, f3⟩; have M3 := hid (M2.out.frm0 f3); have c3 := M3.out.name; have z3 := lt_of_heap M3.out.nm; have cm := (HR.out.frm0 M3.out.frm).mapCell; clear f3)))
  have lk := HLk.out w3 M3.out.frm
  go_quiet (fail)
  go_wp2
  go_ret
  exact ⟨rfl, M3.out.frm.drewN _⟩
set_option maxRecDepth 20000 in
set_option maxHeartbeats 2000000 in
/-- the threshold, when it is known already -/
theorem line_twice_thr {B0 B rb mb : Nat} {w : World} {s : St} {l : List UInt8} (hE : EnvB B0 w) (hr : Rdr B rb mb s w) (hs : thrNm ∈ s.seen) (hl : l.length < 4000) :
    Calls Tryz.prog 19 #[.pointer (some ⟨rb, 0, none⟩), .string (txt (thrNm ++ 32 :: l))] w fun e w' => e = .returned (.int .u16 1) ∧ Frm None' w w' := by
  have hSp := hid (Split_w hE (thrNm ++ 32 :: l) (by simp [thrNm]; omega))
  rw [pieces_append (plain_nosp thrNm_plain)] at hSp
  obtain ⟨n, hn⟩ : ∃ n, n = (pieces 32 l).length := ⟨_, rfl⟩
  have hlen : n ≤ 4001 := by have := count_le8 32 l; omega
  generalize pieces 32 l = rest at hSp hn
  rw [show (thrNm :: rest).length = n + 1 from by rw [hn]; rfl] at hSp
  have hI := fun (W : World) (sb nb : Nat) h1 h2 h3 => hid (IndexSet (w := W) (sb := sb) (nb := nb) (name := thrNm) h1 h2 h3)
  rw [nameIdx_thr] at hI
  have HL := fun (W : World) (f : Frm None' w W) (q : Nat) => (hr.frm0 f).look thrNm q
  rw [mget_seen hs] at HL
  simp only [Option.getD_some] at HL
  have HLk := hid HL
  have HR := hid hr
  have Hn := hid hn
  clear HL hr hn hE hs hl
  generalize txt (thrNm ++ 32 :: l) = sx at *
  have hW := fun (w1 : World) (h : Words w w1 (thrNm :: rest)) => (cell_of h.blk 0).trans (show _ = some (Value.string ⟨#[116, 104, 114, 101, 115, 104, 111, 108, 100]⟩) from rfl)
  have HW := hid hW
  clear hW
  have hI' : ∀ (W : World) (sb nb : Nat) (h1 : W.heap[sb]? = some (.cells setAllCells.toArray 48 (0, 0))) (h2 : W.cell? ⟨nb, 0, none⟩ = some (.string ⟨#[116, 104, 114, 101, 115, 104, 111, 108, 100]⟩)) (h3 : nb < W.heap.size), _ := fun W sb nb h1 h2 h3 => hI W sb nb h1 h2 h3
  go_enter Tryz.func19, Tryz.ntmps19
  go_wp2_with (first
    | (go_at_call 18; ((with_reducible refine hSp.out.mono ?_); rintro e w1 ⟨rfl, h1⟩; have c0 := HW.out _ h1; have z0 := lt_of_heap h1.blk; have H1 := hid h1; clear h1))
    | (go_at_call 9; ((with_reducible refine (settings_w _).mono ?_); rintro e w2 ⟨rfl, h2⟩; have M2 := hid (Mid.start H1.out h2); clear h2))
    | (go_at_call 44; ((with_reducible refine (hI' _ _ _ M2.out.st M2.out.name (lt_of_heap M2.out.nm)).out.mono ?_); rintro e w3 ⟨rfl, f3⟩; have M3 := hid (M2.out.frm0 f3); have c3 := M3.out.name; have z3 := lt_of_heap M3.out.nm; have cm := (HR.out.frm0 M3.out.frm).mapCell; clear f3)))
  have lk : ∀ q, (Instr.lookup 65 (.map (some mb)) (.string ⟨#[116, 104, 114, 101, 115, 104, 111, 108, 100]⟩) false).run Tryz.prog (w3.drewN q) = .ok (.bool true) (w3.drewN q) := fun q => HLk.out w3 M3.out.frm q
  go_quiet (fail)
  go_wp2
  go_ret
  exact ⟨rfl, M3.out.frm.drewN _⟩

/-! ### what is told anew -/
/-- what m[name] = true leaves -/
structure Put (w3 w4 : World) (mb : Nat) (l : List (List UInt8)) : Prop where
  mp : MapAt mkStr w4 mb (seenMap l)
  heap : ∀ k, k ≠ mb → w4.heap[k]? = w3.heap[k]?
  frm : Frm (fun k => k = mb) w3 w4
theorem Rdr.put {B rb mb : Nat} {s : St} {w : World} (h : Rdr B rb mb s w) {x : List UInt8} (hx : x ∉ s.seen) : ∃ F : Nat → World, ∀ q,
    (Instr.mapUpdate 65 (.map (some mb)) (.string (txt x)) (.bool true)).run Tryz.prog (w.drewN q) = .ok () (F q) ∧ Put w (F q) mb (s.seen ++ [x]) := by
  refine ⟨fun q => mput mkStr (w.drewN q) mb x (.bool true), fun q => ?_⟩
  have hm : MapAt mkStr (w.drewN q) mb (seenMap s.seen) := h.mp.same rfl
  refine ⟨run_mapUpdate Tryz.underlying65 (finds_str Tryz.underlying9) hm x _, ?_, fun k hk => ?_, ?_⟩
  · have := hm.put x (.bool true)
    rw [mset_unseen hx] at this
    exact this
  · exact heap_mput_ne mkStr (w.drewN q) mb x _ hk
  · exact ((Frm.refl _ w).drewN q).mput mkStr mb x _ (fun _ => rfl)
theorem conf_set (ns : List Nat) (T : Nat) (v : Value) (mb : Nat) (n : Nat) {i : Nat} (hi : i < 12) (h : ns.length = 12) (seen : List (List UInt8)) (rows : List (List PR)) :
    (rdrCells ⟨ns, T, rows, seen⟩ v mb).toArray.setIfInBounds (0 + setOff i) (.int .i64 (n : Int)) = (rdrCells ⟨ns.set i n, T, rows, seen⟩ v mb).toArray := by
  match ns, h with
  | [a0, a1, a2, a3, a4, a5, a6, a7, a8, a9, a10, a11], _ =>
    match i, hi with
    | 0, _ => rfl
    | 1, _ => rfl
    | 2, _ => rfl
    | 3, _ => rfl
    | 4, _ => rfl
    | 5, _ => rfl
    | 6, _ => rfl
    | 7, _ => rfl
    | 8, _ => rfl
    | 9, _ => rfl
    | 10, _ => rfl
    | 11, _ => rfl
end Go.V
