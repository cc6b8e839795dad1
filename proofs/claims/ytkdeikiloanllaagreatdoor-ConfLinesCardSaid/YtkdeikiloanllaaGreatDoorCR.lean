/- Reading a row of rules. -/
import Derived.Test.YtkdeikiloanllaaGreatDoorCQ
import Derived.Deep.DrawnRows
import Derived.Deep.DeepFit
set_option linter.unusedVariables false
set_option linter.unusedSimpArgs false
namespace Go.V
open Go.RowKit Go.Proofs
attribute [local go_sem ↓] Go.wp_at_zero Go.wp_at_succ

structure InfoIs (t : TypeId) (i0 : TypeInfo) (z : Value) (sz by_ : Nat) : Prop where
  info : Tryz.prog.info? t = some i0
  zero : i0.zero = some z
  size : i0.size = sz
  bytes : i0.bytes = by_
theorem inf_rule : ∃ i0, InfoIs 53 i0 (.agg #[.int .u8 0, .int .i64 0, .string ⟨#[]⟩, .string ⟨#[]⟩]) 4 48 := by
  obtain ⟨i0, hi, hz0, hz1, hz2⟩ := info_parts (show (Tryz.prog.info? 53).map (fun i => (i.zero, i.size, i.bytes)) = some (some (.agg #[.int .u8 0, .int .i64 0, .string ⟨#[]⟩, .string ⟨#[]⟩]), 4, 48) by kernel_rfl)
  exact ⟨i0, hi, hz0, hz1, hz2⟩
theorem inf_row : ∃ i0, InfoIs 51 i0 (.slice none 0 0) 1 24 := by
  obtain ⟨i0, hi, hz0, hz1, hz2⟩ := info_parts (show (Tryz.prog.info? 51).map (fun i => (i.zero, i.size, i.bytes)) = some (some (.slice none 0 0), 1, 24) by kernel_rfl)
  exact ⟨i0, hi, hz0, hz1, hz2⟩
theorem inf_str : ∃ i0, InfoIs 9 i0 (.string ⟨#[]⟩) 1 16 := by
  obtain ⟨i0, hi, hz0, hz1, hz2⟩ := info_parts (show (Tryz.prog.info? 9).map (fun i => (i.zero, i.size, i.bytes)) = some (some (.string ⟨#[]⟩), 1, 16) by kernel_rfl)
  exact ⟨i0, hi, hz0, hz1, hz2⟩
theorem Row.frm0 {S : Nat → Prop} {w w' : World} {e : TypeId} {sz n : Nat} {v : Value} {xs : List Value} (h : Row S w e sz v n xs) (hf : Frm None' w w') : Row S w' e sz v n xs := h.same' (fun k hk => hf.block k (h.own hk).2 (fun q => q))
theorem src_rule2 (W : World) {r : PR} {kd ra : Int} {ky vl : ByteArray} (h : r.cells = [.int .u8 kd, .int .i64 ra, .string ky, .string vl]) (o : Obj) :
    Src Tryz.prog 4 51 (.slice (some ⟨W.heap.size + 1, 0, none⟩) 1 1) 1 r.cells ((W.alloc o).alloc (.cells #[.int .u8 kd, .int .i64 ra, .string ky, .string vl] 53)) :=
  Src.ofSlice _ Tryz.underlying51 _ 1 1 r.cells rfl (fun j u hu => by
    have hb : ((W.alloc o).alloc (.cells #[.int .u8 kd, .int .i64 ra, .string ky, .string vl] 53)).heap[W.heap.size + 1]? = some (.cells #[.int .u8 kd, .int .i64 ra, .string ky, .string vl] 53 (0, 0)) := by
      rw [show W.heap.size + 1 = (W.alloc o).heap.size from by simp]; exact heap_alloc_at
    rw [Addr.add_lit, cell_of hb]
    rw [h] at hu
    simpa using hu) (cells_one r)
theorem src_row (W : World) (u : Value) (h : u.oneCell' = true) :
    Src Tryz.prog 1 28 (.slice (some ⟨W.heap.size, 0, none⟩) 1 1) 1 [u] (W.alloc (.cells #[u] 51)) :=
  Src.ofSlice _ Tryz.underlying28 _ 1 1 [u] rfl (fun j x hx => by
    rw [Addr.add_lit, cell_of (heap_alloc_at (w := W))]
    simpa using hx) (fun x hx => by simp at hx; subst hx; exact h)
theorem heap5 {w w3 w5 : World} {rb : Nat} {o x : Obj} {v : Value} (h : w.heap[rb]? = some o) (f3 : Frm None' w w3) (f5 : Frm (fun k => v.ownBlock = some k) (w3.alloc x) w5) (hne : v.ownBlock ≠ some rb) : w5.heap[rb]? = some o := f5.heap ((f3.alloc x).heap h (fun q => q)) hne
theorem txt_one (c : UInt8) : (⟨#[c]⟩ : ByteArray) = txt [c] := rfl
/-- a block of one rule's cells, appended -/
theorem src_rule {w : World} {B : Nat} {r : PR} (h : w.heap[B]? = some (.cells r.cells.toArray 53 (0, 0))) : Src Tryz.prog 4 51 (.slice (some ⟨B, 0, none⟩) 1 1) 1 r.cells w :=
  Src.ofSlice w Tryz.underlying51 _ 1 1 r.cells rfl (fun j u hu => by rw [Addr.add_lit, cell_of h]; simpa using hu) (cells_one r)
theorem rowWords_cons (r r' : PR) (l : List PR) : rowWords (r :: r' :: l) = ruleWords r ++ [38] :: rowWords (r' :: l) := rfl
theorem flat_one (row : List PR) (k : Nat) (h : k < row.length) : flat (row.take (k + 1)) = flat (row.take k) ++ row[k].cells := by
  rw [List.take_succ_eq_append_getElem h, flat_append]
  simp [flat]
def New' (B : Nat) (k : Nat) : Prop := B ≤ k
theorem Rdr.putRules {B rb mb : Nat} {w : World} {s : St} {v v' : Value} {row : List PR} (hat : rb < B ∧ mb < B ∧ rb ≠ mb ∧ s.ns.length = 12) (hb : w.heap[rb]? = some (.cells (rdrCells s v mb).toArray 67 (0, 0))) (hm : MapAt mkStr w mb (seenMap s.seen))
    (ho : RulesOwn (fun k => B ≤ k ∧ k ≠ rb ∧ k ≠ mb) w v' (s.rows ++ [row])) : Rdr B rb mb (s.step (.row row)) (w.setCell ⟨rb, 4, none⟩ v') := by
  refine ⟨hat, ⟨v', ?_, ?_⟩, ?_⟩
  · exact heap_setCell_at hb 4 v'
  · exact ho.same (fun k hk _ => heap_setCell_ne hk.2.1)
  · exact hm.same (heap_setCell_ne (fun e => hat.2.2.1 e.symm))
set_option maxRecDepth 20000 in
set_option maxHeartbeats 2000000 in
theorem rules_any {B0 B rb mb : Nat} {w : World} {S : Nat → Prop} {v : Value} {s : St} {row : List PR} (hE : EnvB B0 w) (hB : B ≤ w.heap.size) (hr : Rdr B rb mb s w) (hok : rowOk2 row) (hl6 : row.length ≤ 6) (hl : s.rows.length ≤ 1000) (hw : RdW S w v (rowWords row)) :
    Calls Tryz.prog 46 #[.pointer (some ⟨rb, 0, none⟩), v] w fun e w' => e = .returned (.int .u16 0) ∧ Rdr B rb mb (s.step (.row row)) w' ∧ Frm (Tch B rb mb) w w' := by
  have HE := hid hE
  have HR := hid hr
  have Hok := hid hok
  have HW := hid hw
  have HB := hid hB
  have Hl6 := hid hl6
  have Hl := hid hl
  obtain ⟨a, c, rfl, _⟩ := hw.slice
  obtain ⟨ir, hir⟩ := inf_rule
  obtain ⟨iw, hiw⟩ := inf_row
  obtain ⟨is, his⟩ := inf_str
  have HIr := hid hir
  have HIw := hid hiw
  have HIs := hid his
  obtain ⟨v0, hb0, vs, h1, h2⟩ := hr.own
  obtain ⟨av, cv, rfl⟩ := h1.slice
  have HV := hid (And.intro hb0 (And.intro h1 h2))
  have hrb : rb < w.heap.size := lt_of_heap hb0
  have hne : (Value.slice av s.rows.length cv).ownBlock ≠ some rb := fun e => (HV.out.2.1.own e).1.2.1 rfl
  have HNE := hid hne
  clear hne
  clear hE hr hok hw hB hl6 hl hir hiw his hb0 h1 h2
  go_enter Tryz.func46, Tryz.ntmps46
  go_wp2
  go_loopw [1, 5] (fun wv rv wr => ∃ k : Nat, k < row.length ∧ RdW (fun j => j < w.heap.size) wr wv (rowWords (row.drop k)) ∧ Row (New' w.heap.size) wr 53 4 rv k (flat (row.take k)) ∧ Frm None' w wr) (fun _ rv _ => match rv with | .slice _ n _ => row.length - n | _ => 0)
  case atStart => exact ⟨0, List.length_pos_iff.2 Hok.out.1, by rw [List.drop_zero]; exact HW.out.mono (fun _ _ q => q), Row.nil _ _ _ _, Frm.refl _ _⟩
  case round =>
    obtain ⟨k, hk, hwd, hrow, hf⟩ := hrel
    have hdrop : row.drop k = row[k] :: row.drop (k + 1) := List.drop_eq_getElem_cons hk
    have hr2 := Hok.out.2 row[k] (List.getElem_mem _)
    have hflat := flat_one row k hk
    obtain ⟨r, hrk⟩ : ∃ r, r = row[k] := ⟨_, rfl⟩
    rw [← hrk] at hdrop hr2 hflat
    obtain ⟨kd, ra, ky, vl, hcs⟩ : ∃ K A Y V, r.cells = [.int .u8 K, .int .i64 A, .string Y, .string V] := ⟨_, _, _, _, rfl⟩
    have hRule := fun (W : World) (f : Frm None' w W) (u : Value) (hu : RdW (fun j => j < w.heap.size) W u (ruleWords r)) => hid (rule_any (HE.out.none f) hr2 hu)
    rw [hcs] at hRule
    have hn1 : 0 < (ruleWords r).length := List.length_pos_iff.2 (ruleWords_ne r)
    have Hcs := hid hcs
    have Hflat := hid hflat
    have Hhr2 := hid hr2
    have Hrk := hid hrk
    have Hf := hid hf
    have Hrow := hid hrow
    clear hcs hflat hr2 hrk hf
    obtain ⟨ar, cr, rfl⟩ := hrow.slice
    clear hrow
    rw [hdrop] at hwd
    have Hdrop := hid hdrop
    clear hdrop
    obtain ⟨N, hN⟩ : ∃ N, N = (ruleWords r).length := ⟨_, rfl⟩
    rw [← hN] at hn1
    have HN := hid hN
    clear hN
    rcases hrest : row.drop (k + 1) with _ | ⟨r', rest⟩
    · rw [hrest] at hwd
      have hkl : k + 1 = row.length := by have := congrArg List.length hrest; simp at this; omega
      have hIdx := hid (Index_any hwd (ruleWords_ne r) [38])
      rw [show rowWords [r] = ruleWords r from rfl, idx_none (words_noAnd Hhr2.out)] at hIdx
      have hwd' : RdW (fun j => j < w.heap.size) wr _ (ruleWords r) := hwd
      unfold RdW at hwd'
      rw [← HN.out] at hwd'
      obtain ⟨aw, cw, rfl, hcw, hcw'⟩ := hwd'.slice
      clear hwd
      have Hwd := hid hwd'
      have Hrest := hid hrest
      have Hkl := hid hkl
      clear hwd' hrest hkl
      change Hid (Calls _ _ #[_, .string ⟨#[38]⟩] _ _) at hIdx
      go_wp2_with (first
        | (go_at_call 64; ((with_reducible refine hIdx.out.mono ?_); rintro e w' ⟨rfl, h'⟩; subst w'))
        | (with_reducible show wpList _ _ _ (Oper.mk (some 20) _ _ _ _ _ :: _) _ _; refine wpList_slice_h _ rfl (.tmp 18) (.tmp 19) rfl Tryz.underlying33 HIs.out.info HIs.out.size Hwd.out .i64 (N : Int) (by omega) (by omega) rfl rfl ?_; intro a2 c2 hR2; have HR2 : Hid (RdW (fun j => j < w.heap.size) wr (.slice a2 N c2) (ruleWords r)) := hid (by have h := hR2; rw [Int.toNat_natCast, Nat.mul_one, List.take_of_length_le (by rw [List.length_map, ← HN.out]; exact Nat.le_refl _)] at h; unfold RdW; rw [← HN.out]; exact h); clear hR2)
        | (go_at_call 65; ((with_reducible refine (hRule _ Hf.out _ HR2.out).out.mono ?_); rintro e w1 ⟨rfl, f1⟩; have F1 := hid (Hf.out.trans f1 (fun _ _ q => q)); have HR1 := hid (Hrow.out.frm0 f1); clear f1))
        | (with_reducible show wpList _ _ _ (Oper.mk (some 29) _ _ _ _ _ :: _) _ _; refine wpList_append_v _ rfl _ _ 51 51 rfl Tryz.underlying51 HIr.out.info HIr.out.zero HIr.out.size rfl (HR1.out.frm0 (((Frm.refl _ _).alloc _).alloc _)) (src_rule2 w1 Hcs.out _) rfl rfl (by rw [HIr.out.bytes]; have := Hl6.out; omega) (by have := Hl6.out; omega) ?_; intro a3 c3 w3 hR3 hF3 hs3; have F3 : Hid (Frm None' w w3) := hid (((F1.out.alloc _).alloc _).trans hF3 (fun i hi e => absurd (HR1.out.own e).1 (by unfold New'; omega))); have HR3 := hid hR3; have q3 : w3.cell? ⟨rb, 4, none⟩ = some (.slice av s.rows.length cv) := (cell_of (F3.out.heap HV.out.1 (fun q => q)) 4).trans rfl; have g3 : w3.frozen? ⟨rb, 4, none⟩ = false := free_of (F3.out.heap HV.out.1 (fun q => q)) 4; have z3 : rb < w3.heap.size := lt_of_heap (F3.out.heap HV.out.1 (fun q => q)); clear hR3 hF3 hs3)
        | (with_reducible show wpList _ _ _ (Oper.mk (some 39) _ _ _ _ _ :: _) _ _; refine wpList_append_v _ rfl _ _ 28 28 rfl Tryz.underlying28 HIw.out.info HIw.out.zero HIw.out.size rfl (HV.out.2.1.frm0 (F3.out.alloc _)) (src_row w3 _ rfl) rfl rfl (by rw [HIw.out.bytes]; have := Hl.out; omega) (by have := Hl.out; omega) ?_; intro a5 c5 w5 hR5 hF5 hs5; have HR5 := hid hR5; have HF5 := hid hF5; have hb5 := heap5 HV.out.1 F3.out hF5 HNE.out; have q5 : w5.cell? ⟨rb, 4, none⟩ = some (.slice av s.rows.length cv) := (cell_of hb5 4).trans rfl; have g5 := free_of hb5 4; have HB5 := hid hb5; clear hR5 hF5 hs5 hb5))
      go_ret
      have hF5 := HF5.out
      have hat := HR.out.at_
      have hS : ∀ k, New' w.heap.size k → (B ≤ k ∧ k ≠ rb ∧ k ≠ mb) ∧ (Value.slice av s.rows.length cv).ownBlock ≠ some k := by
        intro j hj
        unfold New' at hj
        have h1 := HB.out
        have h2 := HR.out.mp.lt
        refine ⟨⟨by omega, by omega, by omega⟩, fun e => ?_⟩
        have := (HV.out.2.1.own e).2
        omega
      refine ⟨rfl, ?_, ?_⟩
      · refine Rdr.putRules hat HB5.out ?_ ?_
        · have hm := HR.out.mp.same ((F3.out.alloc (.cells #[.slice a3 (k + 1) c3] 51 (0, 0))).block mb HR.out.mp.lt (fun q => q))
          exact hm.same (hF5.block mb hm.lt (fun e => (HV.out.2.1.own e).1.2.2 rfl))
        · have hR5 := HR5.out
          have hfa : Frm None' w (w3.alloc (.cells #[.slice a3 (k + 1) c3] 51 (0, 0))) := F3.out.alloc _
          refine RulesOwn.push (HV.out.2.1.frm0 hfa) (fun i hi => ?_) ?_ ?_ hR5 hF5
          · obtain ⟨u, g1, g2⟩ := HV.out.2.2 i hi
            exact ⟨u, g1, g2.frm hfa (fun _ _ q => q)⟩
          · have hr3 := (HR3.out.rd.frm ((Frm.refl None' w3).alloc (.cells #[.slice a3 (k + 1) c3] 51 (0, 0))) (fun _ _ q => q))
            have e : flat (row.take k) ++ r.cells = flat row := by rw [← Hflat.out, Hkl.out, List.take_length]
            rw [e] at hr3
            have key : ∀ n, k + 1 = n → Rd (New' w.heap.size) (w3.alloc (.cells #[.slice a3 (k + 1) c3] 51 (0, 0))) 4 (.slice a3 (k + 1) c3) n (flat row) := by
              rintro n rfl
              refine hr3.mono (fun j hj _ => ?_)
              rcases hj with q | q
              · exact (HR1.out.own q).1
              · have := F1.out.size
                simp at q
                unfold New'
                omega
            exact (key _ Hkl.out).mono (fun j hj _ => hS j hj)
          · exact (hS _ (by unfold New'; have := F3.out.size; simp; omega)).1
      · refine Frm.setCell (Frm.trans (S' := fun k => (Value.slice av s.rows.length cv).ownBlock = some k) ((F3.out.alloc _).mono (fun _ _ q => q.elim)) hF5 (fun i _ e => .inl (HV.out.2.1.own e).1.1)) _ _ (fun _ => .inr (.inl rfl))
    · rw [hrest] at hwd
      have hk1 : k + 1 < row.length := by have := congrArg List.length hrest; simp at this; omega
      have hne2 : rowWords (r :: r' :: rest) ≠ [] := rowWords_ne _ (by simp)
      have hIdx := hid (Index_any hwd hne2 [38])
      rw [rowWords_cons, idx_and (words_noAnd Hhr2.out), ← HN.out] at hIdx
      rw [rowWords_cons] at hwd
      obtain ⟨M, hM⟩ : ∃ M, M = (ruleWords r ++ [38] :: rowWords (r' :: rest)).length := ⟨_, rfl⟩
      have hMN : N + 1 + (rowWords (r' :: rest)).length = M := by rw [hM, HN.out]; simp; omega
      have hMN' : N + 1 ≤ M := by omega
      unfold RdW at hwd
      rw [← hM] at hwd
      obtain ⟨aw, cw, rfl, hcw, hcw'⟩ := hwd.slice
      have Hwd := hid hwd
      have Hrest := hid hrest
      have HMN := hid hMN
      clear hwd hrest hM hMN hne2
      change Hid (Calls _ _ #[_, .string ⟨#[38]⟩] _ _) at hIdx
      have hN0 : ¬ (N : Int) < 0 := by omega
      go_wp2_with (first
        | (go_at_call 64; ((with_reducible refine hIdx.out.mono ?_); rintro e w' ⟨rfl, h'⟩; subst w'))
        | (with_reducible show wpList _ _ _ (Oper.mk (some 20) _ _ _ _ _ :: _) _ _; refine wpList_slice_h _ rfl (.tmp 18) (.tmp 19) rfl Tryz.underlying33 HIs.out.info HIs.out.size Hwd.out .i64 (N : Int) (by omega) (by omega) rfl rfl ?_; intro a2 c2 hR2; have HR2 : Hid (RdW (fun j => j < w.heap.size) wr (.slice a2 N c2) (ruleWords r)) := hid (by have h := hR2; rw [Int.toNat_natCast, Nat.mul_one, List.map_append, List.take_append_of_le_length (by rw [List.length_map, ← HN.out]; exact Nat.le_refl _), List.take_of_length_le (by rw [List.length_map, ← HN.out]; exact Nat.le_refl _)] at h; unfold RdW; rw [← HN.out]; exact h); clear hR2)
        | (go_at_call 65; ((with_reducible refine (hRule _ Hf.out _ HR2.out).out.mono ?_); rintro e w1 ⟨rfl, f1⟩; have F1 := hid (Hf.out.trans f1 (fun _ _ q => q)); have HR1 := hid (Hrow.out.frm0 f1); clear f1))
        | (with_reducible show wpList _ _ _ (Oper.mk (some 29) _ _ _ _ _ :: _) _ _; refine wpList_append_v _ rfl _ _ 51 51 rfl Tryz.underlying51 HIr.out.info HIr.out.zero HIr.out.size rfl (HR1.out.frm0 (((Frm.refl _ _).alloc _).alloc _)) (src_rule2 w1 Hcs.out _) rfl rfl (by rw [HIr.out.bytes]; have := Hl6.out; omega) (by have := Hl6.out; omega) ?_; intro a3 c3 w3 hR3 hF3 hs3; have F3 : Hid (Frm None' w w3) := hid (((F1.out.alloc _).alloc _).trans hF3 (fun i hi e => absurd (HR1.out.own e).1 (by unfold New'; omega))); have HR3 := hid hR3; clear hR3 hF3 hs3)
        | (with_reducible show wpList _ _ _ (Oper.mk (some 46) _ _ _ _ _ :: _) _ _; refine wpList_slice_l _ rfl (.tmp 43) (.tmp 45) rfl Tryz.underlying33 HIs.out.info HIs.out.size (Hwd.out.same (fun j hj _ => (F3.out.block j hj (fun q => q)).trans (Hf.out.block j hj (fun q => q)).symm)) .i64 ((N : Int) + 1) (by omega) (by omega) rfl rfl ?_; intro a4 c4 hR4; have HR4 := hid hR4; clear hR4))
      refine ⟨⟨k + 1, hk1, ?_, ?_, F3.out⟩, by show row.length - (k + 1) < row.length - k; omega⟩
      · have h := HR4.out
        have e1 : ((N : Int) + 1).toNat = N + 1 := by omega
        have e2 : (List.map (fun x => Value.string (txt x)) (ruleWords r)).length = N := by rw [List.length_map]; exact HN.out.symm
        have e3 : M - (N + 1) = (rowWords (r' :: rest)).length := by have := HMN.out; omega
        rw [e1, Nat.mul_one, List.map_append, List.map_cons, ← e2, List.drop_append, List.drop_of_length_le (by omega), List.nil_append, show (List.map (fun x => Value.string (txt x)) (ruleWords r)).length + 1 - (List.map (fun x => Value.string (txt x)) (ruleWords r)).length = 1 from by omega, List.drop_succ_cons, List.drop_zero, e2] at h
        rw [Hrest.out]
        unfold RdW
        rw [← e3]
        exact h
      · rw [Hflat.out]
        refine HR3.out.mono (fun j hj q => ?_)
        rcases q with q | q
        · exact (HR1.out.own q).1
        · have := F1.out.size
          simp at q
          unfold New'
          omega
end Go.V
