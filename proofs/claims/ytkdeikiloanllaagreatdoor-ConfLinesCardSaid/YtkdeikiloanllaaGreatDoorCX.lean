/- A line: a setting, the threshold, told anew. -/
import Derived.Test.YtkdeikiloanllaaGreatDoorCV
import Derived.Deep.RegionHeld3
set_option linter.unusedVariables false
set_option linter.unusedSimpArgs false
namespace Go.V
open Go.RowKit Go.Proofs
attribute [local go_sem ↓] Go.wp_at_zero Go.wp_at_succ

theorem pieces_two {a b : List UInt8} (ha : a.all plain = true) (hb : b.all plain = true) : pieces 32 (joinc 32 [a, b]) = [a, b] :=
  pieces_joinc (by simp) (fun x hx => by
    simp at hx
    rcases hx with rfl | rfl
    · exact plain_nosp ha
    · exact plain_nosp hb)
theorem dec_plain {n : Nat} (h : n < 300) : (dec n).all plain = true := (dec_facts ⟨n, h⟩).2.2.1
theorem Rdr.setNum {B rb mb : Nat} {w3 w4 w5 : World} {s : St} {x : List UInt8} {i n : Nat} (h : Rdr B rb mb s w3) (hi : i < 12) (hx : x = setNm.getD i []) (hp : Put w3 w4 mb (s.seen ++ [x])) (hf : Frm None' w4 w5) :
    (∃ v, w5.heap[rb]? = some (.cells (rdrCells s v mb).toArray 67 (0, 0))) ∧ Rdr B rb mb (s.step (.set i n)) (w5.setCell ⟨rb, 0 + setOff i, Option.none⟩ (.int .i64 (n : Int))) := by
  obtain ⟨v, hb, ho⟩ := h.own
  have hat := h.at_
  have e4 : w4.heap[rb]? = w3.heap[rb]? := hp.heap rb hat.2.2.1
  have hb5 : w5.heap[rb]? = some (.cells (rdrCells s v mb).toArray 67 (0, 0)) := hf.heap (e4.trans hb) (fun q => q)
  refine ⟨⟨v, hb5⟩, ⟨hat.1, hat.2.1, hat.2.2.1, by show (s.ns.set i n).length = 12; rw [List.length_set]; exact hat.2.2.2⟩, ⟨v, ?_, ?_⟩, ?_⟩
  · have := heap_setCell_at hb5 (0 + setOff i) (.int .i64 (n : Int))
    obtain ⟨ns, T, rows, seen⟩ := s
    rw [conf_set ns T v mb n hi hat.2.2.2 seen rows] at this
    exact this
  · refine ho.same (fun k hk hl => ?_)
    rw [heap_setCell_ne hk.2.1]
    have h4 : k < w4.heap.size := Nat.lt_of_lt_of_le hl hp.frm.size
    exact (hf.block k h4 (fun q => q)).trans (hp.heap k hk.2.2)
  · have h5 : MapAt mkStr w5 mb (seenMap (s.seen ++ [x])) := hp.mp.same (hf.block mb hp.mp.lt (fun q => q))
    rw [hx] at h5
    exact h5.same (heap_setCell_ne (fun e => hat.2.2.1 e.symm))
set_option maxRecDepth 20000 in
set_option maxHeartbeats 2000000 in
/-- a setting's line -/
theorem line_set {B0 B rb mb i n : Nat} {w : World} {s : St} (hE : EnvB B0 w) (hBB : B0 ≤ mb) (hB : B ≤ w.heap.size) (hr : Rdr B rb mb s w) (hi : i < 12) (hn : n < 300) (hs : setNm.getD i [] ∉ s.seen) :
    Calls Tryz.prog 19 #[.pointer (some ⟨rb, 0, none⟩), .string (txt (joinc 32 [setNm.getD i [], dec n]))] w fun e w' => e = .returned (.int .u16 0) ∧ Rdr B rb mb (s.step (.set i n)) w' ∧ Frm (Tch B rb mb) w w' := by
  have hnl : (setNm.getD i []).length ≤ 9 := by
    have : ∀ j : Fin 12, (setNm.getD j.val []).length ≤ 9 := by decide +kernel
    exact this ⟨i, hi⟩
  have hdl := dec_len hn
  have hSp := hid (Split_w hE (joinc 32 [setNm.getD i [], dec n]) (by simp [joinc] at hnl ⊢; omega))
  rw [pieces_two (setNm_nosp ⟨i, hi⟩) (dec_plain hn)] at hSp
  change Hid (Calls _ _ _ _ (fun e w' => e = .returned (.slice _ 2 2) ∧ _)) at hSp
  have hI := fun (W : World) (sb nb : Nat) h1 h2 h3 => hid (IndexSet (w := W) (sb := sb) (nb := nb) (name := setNm.getD i []) h1 h2 h3)
  have h9 : nameIdx (setNm.getD i []) = (i : Int) := nameIdx_set ⟨i, hi⟩
  rw [h9] at hI
  have hr1 := setNm_rule ⟨i, hi⟩
  simp only at hr1
  have HL := fun (W : World) (f : Frm None' w W) (q : Nat) => (hr.frm0 f).look (setNm.getD i []) q
  rw [mget_unseen hs] at HL
  simp only [Option.getD_none] at HL
  have HLk := hid HL
  have HP := hid (fun (W : World) (f : Frm None' w W) => (hr.frm0 f).put hs)
  have HR := hid hr
  have HN := fun (W : World) (h : EnvB B0 W) => hid (number_any h hn)
  have HE := hid hE
  have HBB := hid hBB
  have HB := hid hB
  have hdd := fun j (hj : j < 4) => setAll_at hi j hj
  have HDD := hid hdd
  have hset := fun W b o => hid (set_of hi b o W)
  have eg := enters_set hi
  have hmr : mb < w.heap.size := hr.mp.lt
  have hrr : rb < w.heap.size := by obtain ⟨v, hb, _⟩ := hr.own; exact lt_of_heap hb
  clear HL hr hE hs h9 hnl hdl hn hBB hB hdd
  generalize txt (joinc 32 [setNm.getD i [], dec n]) = sx at *
  have hW := fun (w1 : World) (h : w1.heap[w.heap.size]? = some (.cells ([setNm.getD i [], dec n].map fun p => Value.string (txt p)).toArray 9 (0, 0))) => And.intro ((cell_of h 0).trans (show _ = some (Value.string (txt (setNm.getD i []))) from rfl)) ((cell_of h 1).trans (show _ = some (Value.string (txt (dec n))) from rfl))
  have HW := hid hW
  clear hW
  generalize txt (setNm.getD i []) = tn at *
  generalize txt (dec n) = dn at *
  have hi0 : ¬ (i : Int) < 0 := by omega
  go_enter Tryz.func19, Tryz.ntmps19
  go_wp2_with (first
    | (go_at_call 18; ((with_reducible refine hSp.out.mono ?_); rintro e w1 ⟨rfl, h1⟩; have c0 := (HW.out _ h1.blk).1; have z0 := lt_of_heap h1.blk; have H1 := hid h1; clear h1))
    | (go_at_call 9; ((with_reducible refine (settings_w _).mono ?_); rintro e w2 ⟨rfl, h2⟩; have M2 := hid (Mid.start H1.out h2); clear h2))
    | (go_at_call 44; ((with_reducible refine (hI _ _ _ M2.out.st M2.out.name (lt_of_heap M2.out.nm)).out.mono ?_); rintro e w3 ⟨rfl, f3⟩; have M3 := hid (M2.out.frm0 f3); have c3 := M3.out.name; have z3 := lt_of_heap M3.out.nm; have cm := (HR.out.frm0 M3.out.frm).mapCell; clear f3)))
  have lk := HLk.out w3 M3.out.frm
  go_quiet (fail)
  go_wp2
  obtain ⟨F, hF⟩ := HP.out w3 M3.out.frm
  have hput := fun q => (hF q).1
  go_region_with (fail)
  all_goals
    generalize hw4 : F _ = w4
    have hP : Put w3 w4 mb (s.seen ++ [setNm.getD i []]) := by rw [← hw4]; exact (hF _).2
    have hle := M3.out.le
    have e1 := (HW.out w4 ((hP.heap _ (by omega)).trans M3.out.ws)).2
    have est := (hP.heap (w1.heap.size + 1) (by omega)).trans M3.out.st
    have E4 : Hid (EnvB B0 w4) := hid ((HE.out.none M3.out.frm).frm hP.frm (fun k _ q => by have := HBB.out; omega))
    have z4 : w.heap.size < w4.heap.size := Nat.lt_of_lt_of_le (Nat.lt_trans hle z3) hP.frm.size
    have HPt := hid hP
    have Hst := hid est
    clear hP est hw4 hput hF lk cm c3
    go_wp2_with (go_at_call 48; ((with_reducible refine (HN _ E4.out).out.mono ?_); rintro e w5 ⟨rfl, f5⟩; have F5 := hid f5; clear f5))
    have hst5 := F5.out.heap Hst.out (fun q => q)
    have d1 : w5.cell? ⟨w1.heap.size + 1, i * 4 + 1, none⟩ = some (.func (.func (setFn.getD i 0)) #[] #[]) := (cell_of hst5 (i * 4 + 1)).trans (by rw [List.getElem?_toArray, HDD.out 1 (by omega)]; rfl)
    obtain ⟨⟨v, hb5⟩, hR5⟩ := (HR.out.frm0 M3.out.frm).setNum (n := n) hi rfl HPt.out F5.out
    have q5 : w5.cell? ⟨rb, setOff i, none⟩ = some (num s.ns i) := (cell_of hb5 (setOff i)).trans (by
      rw [List.getElem?_toArray, rdrCells, List.getElem?_append_left (by obtain ⟨h, _⟩ := List.getElem?_eq_some_iff.1 (confCells_at s.ns s.T v hi); exact h)]
      exact confCells_at s.ns s.T v hi)
    have g5 : w5.frozen? ⟨rb, setOff i, none⟩ = false := free_of hb5 (setOff i)
    have z5 : w1.heap.size + 1 < w5.heap.size := lt_of_heap hst5
    have z6 : rb < w5.heap.size := lt_of_heap hb5
    rw [Nat.zero_add] at hR5
    have HR5 := hid hR5
    have hF5 : Frm (Tch B rb mb) w w5 := ((M3.out.frm.mono (fun _ _ q => q.elim)).trans (HPt.out.frm.mono (S' := Tch B rb mb) (fun k _ q => .inr (.inr q))) (fun _ _ q => q)).trans (F5.out.mono (S' := Tch B rb mb) (fun _ _ q => q.elim)) (fun _ _ q => q)
    have HF5 := hid hF5
    have i12 : (i : Int) < 12 := by omega
    unfold num at q5
    clear hst5 hb5 hR5 hF5
    generalize setFn.getD i 0 = fn at *
    generalize setOff i = off at *
    go_region_with (first
      | (go_at_fn fn; refine (hset _ _ _).out.mono ?_; rintro e w6 ⟨rfl, h'⟩; subst w6))
    go_wp2
    go_ret
    exact ⟨rfl, HR5.out.same (fun k _ _ => rfl), (HF5.out.setCell _ _ (fun _ => .inr (.inl rfl))).drew⟩
theorem Rdr.setThr {B rb mb : Nat} {w3 w4 w5 : World} {s : St} {T : Nat} (h : Rdr B rb mb s w3) (hp : Put w3 w4 mb (s.seen ++ [thrNm])) (hf : Frm None' w4 w5) :
    (∃ v, w5.heap[rb]? = some (.cells (rdrCells s v mb).toArray 67 (0, 0))) ∧ Rdr B rb mb (s.step (.thr T)) (w5.setCell ⟨rb, 3, Option.none⟩ (.int .u64 (T : Int))) := by
  obtain ⟨v, hb, ho⟩ := h.own
  have hat := h.at_
  have e4 : w4.heap[rb]? = w3.heap[rb]? := hp.heap rb hat.2.2.1
  have hb5 : w5.heap[rb]? = some (.cells (rdrCells s v mb).toArray 67 (0, 0)) := hf.heap (e4.trans hb) (fun q => q)
  refine ⟨⟨v, hb5⟩, ⟨hat.1, hat.2.1, hat.2.2.1, hat.2.2.2⟩, ⟨v, ?_, ?_⟩, ?_⟩
  · exact heap_setCell_at hb5 3 (.int .u64 (T : Int))
  · refine ho.same (fun k hk hl => ?_)
    rw [heap_setCell_ne hk.2.1]
    have h4 : k < w4.heap.size := Nat.lt_of_lt_of_le hl hp.frm.size
    exact (hf.block k h4 (fun q => q)).trans (hp.heap k hk.2.2)
  · have h5 : MapAt mkStr w5 mb (seenMap (s.seen ++ [thrNm])) := hp.mp.same (hf.block mb hp.mp.lt (fun q => q))
    exact h5.same (heap_setCell_ne (fun e => hat.2.2.1 e.symm))
set_option maxRecDepth 20000 in
set_option maxHeartbeats 2000000 in
/-- the threshold's line -/
theorem line_thr {B0 B rb mb T : Nat} {w : World} {s : St} (hE : EnvB B0 w) (hB : B ≤ w.heap.size) (hr : Rdr B rb mb s w) (hT : ∃ b, b < 256 ∧ T = top b) (hs : thrNm ∉ s.seen) :
    Calls Tryz.prog 19 #[.pointer (some ⟨rb, 0, none⟩), .string (txt (thrLine T))] w fun e w' => e = .returned (.int .u16 0) ∧ Rdr B rb mb (s.step (.thr T)) w' ∧ Frm (Tch B rb mb) w w' := by
  obtain ⟨b, hb, hTb⟩ := hT
  obtain ⟨g1, g2, g3, g4, g5, g6⟩ := hex_facts ⟨b, hb⟩
  simp only [← hTb] at g1 g2 g3 g4 g5 g6
  have hdl : (thrLine T).length ≤ 24 := by
    have e : thrLine T = thrNm ++ 32 :: digitsT T := rfl
    rw [e, List.length_append, List.length_cons]; simp [thrNm]; omega
  have hSp := hid (Split_w hE (thrLine T) (by omega))
  rw [show pieces 32 (thrLine T) = [thrNm, digitsT T] from pieces_two thrNm_plain g3] at hSp
  change Hid (Calls _ _ _ _ (fun e w' => e = .returned (.slice _ 2 2) ∧ _)) at hSp
  have hI := fun (W : World) (sb nb : Nat) h1 h2 h3 => hid (IndexSet (w := W) (sb := sb) (nb := nb) (name := thrNm) h1 h2 h3)
  rw [nameIdx_thr] at hI
  have HL := fun (W : World) (f : Frm None' w W) (q : Nat) => (hr.frm0 f).look thrNm q
  rw [mget_unseen hs] at HL
  simp only [Option.getD_none] at HL
  have HLk := hid HL
  have HP := hid (fun (W : World) (f : Frm None' w W) => (hr.frm0 f).put hs)
  have HR := hid hr
  have HN := fun (W : World) => hid (PParse_any (w := W) g4 g2 g6)
  rw [g1] at HN
  have HB := hid hB
  have hmr : mb < w.heap.size := hr.mp.lt
  have hrr : rb < w.heap.size := by obtain ⟨v, hb, _⟩ := hr.own; exact lt_of_heap hb
  clear HL hr hE hs hdl hB g1 g2 g3 g4 g5 g6 hTb hb
  generalize txt (thrLine T) = sx at *
  have hW := fun (w1 : World) (h : w1.heap[w.heap.size]? = some (.cells ([thrNm, digitsT T].map fun p => Value.string (txt p)).toArray 9 (0, 0))) => And.intro ((cell_of h 0).trans (show _ = some (Value.string ⟨#[116, 104, 114, 101, 115, 104, 111, 108, 100]⟩) from rfl)) ((cell_of h 1).trans (show _ = some (Value.string (txt (digitsT T))) from rfl))
  have HW := hid hW
  clear hW
  generalize txt (digitsT T) = dn at *
  have hI' : ∀ (W : World) (sb nb : Nat) (h1 : W.heap[sb]? = some (.cells setAllCells.toArray 48 (0, 0))) (h2 : W.cell? ⟨nb, 0, none⟩ = some (.string ⟨#[116, 104, 114, 101, 115, 104, 111, 108, 100]⟩)) (h3 : nb < W.heap.size), _ := fun W sb nb h1 h2 h3 => hI W sb nb h1 h2 h3
  go_enter Tryz.func19, Tryz.ntmps19
  go_wp2_with (first
    | (go_at_call 18; ((with_reducible refine hSp.out.mono ?_); rintro e w1 ⟨rfl, h1⟩; have c0 := (HW.out _ h1.blk).1; have z0 := lt_of_heap h1.blk; have H1 := hid h1; clear h1))
    | (go_at_call 9; ((with_reducible refine (settings_w _).mono ?_); rintro e w2 ⟨rfl, h2⟩; have M2 := hid (Mid.start H1.out h2); clear h2))
    | (go_at_call 44; ((with_reducible refine (hI' _ _ _ M2.out.st M2.out.name (lt_of_heap M2.out.nm)).out.mono ?_); rintro e w3 ⟨rfl, f3⟩; have M3 := hid (M2.out.frm0 f3); have c3 := M3.out.name; have z3 := lt_of_heap M3.out.nm; have cm := (HR.out.frm0 M3.out.frm).mapCell; clear f3)))
  have lk : ∀ q, (Instr.lookup 65 (.map (some mb)) (.string ⟨#[116, 104, 114, 101, 115, 104, 111, 108, 100]⟩) false).run Tryz.prog (w3.drewN q) = .ok (.bool false) (w3.drewN q) := fun q => HLk.out w3 M3.out.frm q
  go_quiet (fail)
  go_wp2
  obtain ⟨F, hF⟩ := HP.out w3 M3.out.frm
  have hput : ∀ q, (Instr.mapUpdate 65 (.map (some mb)) (.string ⟨#[116, 104, 114, 101, 115, 104, 111, 108, 100]⟩) (.bool true)).run Tryz.prog (w3.drewN q) = .ok () (F q) := fun q => (hF q).1
  go_region_with (fail)
  all_goals
    generalize hw4 : F _ = w4
    have hP : Put w3 w4 mb (s.seen ++ [thrNm]) := by rw [← hw4]; exact (hF _).2
    have hle := M3.out.le
    have e1 := (HW.out w4 ((hP.heap _ (by omega)).trans M3.out.ws)).2
    have z4 : w.heap.size < w4.heap.size := Nat.lt_of_lt_of_le (Nat.lt_trans hle z3) hP.frm.size
    obtain ⟨⟨v, hb5⟩, hR5⟩ := (HR.out.frm0 M3.out.frm).setThr (T := T) hP (Frm.refl _ _)
    have q5 : w4.cell? ⟨rb, 3, none⟩ = some (.int .u64 (s.T : Int)) := (cell_of hb5 3).trans rfl
    have g5 : w4.frozen? ⟨rb, 3, none⟩ = false := free_of hb5 3
    have z6 : rb < w4.heap.size := lt_of_heap hb5
    have HR5 := hid hR5
    have hF5 : Frm (Tch B rb mb) w w4 := ((M3.out.frm.mono (fun _ _ q => q.elim)).trans (hP.frm.mono (S' := Tch B rb mb) (fun k _ q => .inr (.inr q))) (fun _ _ q => q))
    have HF5 := hid hF5
    clear hP hw4 hput hF lk cm c3 hb5 hR5 hF5
    go_wp2_with (go_at_call 47; ((with_reducible refine (HN _).out.mono ?_); rintro e w5 ⟨rfl, h'⟩; subst w5))
    go_ret
    exact ⟨rfl, HR5.out, (HF5.out.setCell _ _ (fun _ => .inr (.inl rfl)))⟩
end Go.V
