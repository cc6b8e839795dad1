/- A row that is none; which setting has a name. -/
import Derived.Test.YtkdeikiloanllaaGreatDoorCR
set_option linter.unusedVariables false
set_option linter.unusedSimpArgs false
namespace Go.V
open Go.RowKit Go.Proofs
attribute [local go_sem ↓] Go.wp_at_zero Go.wp_at_succ

theorem idxFrom_bd (x : ByteArray) : ∀ (zs : List ByteArray) (i : Nat), Lib.idxFromS zs x i = -1 ∨ ∃ n : Nat, Lib.idxFromS zs x i = ((i + n : Nat) : Int) ∧ n < zs.length
  | [], _ => .inl rfl
  | z :: zs, i => by
    unfold Lib.idxFromS
    split
    · exact .inr ⟨0, rfl, by simp⟩
    · rcases idxFrom_bd x zs (i + 1) with h | ⟨n, h, hn⟩
      · exact .inl h
      · exact .inr ⟨n + 1, by rw [h]; congr 1; omega, by simp; omega⟩
theorem idx_first {z : List UInt8} (hz : z ≠ [38]) (ws : List (List UInt8)) : Lib.idxOfS ((z :: ws).map txt) (txt [38]) = -1 ∨ ∃ n : Nat, Lib.idxOfS ((z :: ws).map txt) (txt [38]) = ((n + 1 : Nat) : Int) ∧ n < ws.length := by
  have h : Lib.idxOfS ((z :: ws).map txt) (txt [38]) = Lib.idxFromS (ws.map txt) (txt [38]) 1 := by
    unfold Lib.idxOfS
    rw [List.map_cons, Lib.idxFromS, if_neg (fun e => hz (txt_inj.1 e))]
  rw [h]
  rcases idxFrom_bd (txt [38]) (ws.map txt) 1 with q | ⟨n, q, hn⟩
  · exact .inl q
  · exact .inr ⟨n, by rw [q]; congr 1; omega, by simpa using hn⟩
def nothingW : List UInt8 := [110, 111, 116, 104, 105, 110, 103]
set_option maxRecDepth 20000 in
set_option maxHeartbeats 2000000 in
theorem rules_bad {w : World} {S : Nat → Prop} {v p : Value} {ws : List (List UInt8)} (hw : RdW S w v (nothingW :: ws)) :
    Calls Tryz.prog 46 #[p, v] w fun e w' => e = .returned (.int .u16 31) ∧ Frm None' w w' := by
  have HW := hid hw
  obtain ⟨a, c, rfl, _⟩ := hw.slice
  obtain ⟨is, his⟩ := inf_str
  have HIs := hid his
  clear hw his
  obtain ⟨M, hM⟩ : ∃ M, M = (nothingW :: ws).length := ⟨_, rfl⟩
  have hM1 : M = ws.length + 1 := by rw [hM]; simp
  rw [← hM] at HW ⊢
  have HM := hid hM
  have HM1 := hid hM1
  have hM0 : 1 ≤ M := by omega
  clear hM hM1
  go_enter Tryz.func46, Tryz.ntmps46
  go_wp2
  go_loopw [1, 5] (fun wv rv wr => wv = .slice a M c ∧ rv = .slice none 0 0 ∧ Frm None' w wr) (fun _ rv _ => 0)
  case atStart => exact ⟨rfl, rfl, Frm.refl _ _⟩
  case round =>
    obtain ⟨rfl, rfl, hf⟩ := hrel
    have hwd : RdW S wr (.slice a M c) (nothingW :: ws) := by have h := HW.out; exact (h.frm hf (fun _ _ q => q))
    have hwd2 : Rd S wr 1 (.slice a M c) M ((nothingW :: ws).map fun x => Value.string (txt x)) := by have h := hwd; unfold RdW at h; rw [← HM.out] at h; exact h
    have Hwd2 := hid hwd2
    have hIdx := hid (Index_any hwd (by simp) [38])
    have Hf := hid hf
    clear hf hwd hwd2
    change Hid (Calls _ _ #[_, .string ⟨#[38]⟩] _ _) at hIdx
    rcases idx_first (z := nothingW) (by decide) ws with q | ⟨n, q, hn⟩
    all_goals
      rw [q] at hIdx
      clear q
    · go_wp2_with (first
        | (go_at_call 64; ((with_reducible refine hIdx.out.mono ?_); rintro e w' ⟨rfl, h'⟩; subst w'))
        | (with_reducible show wpList _ _ _ (Oper.mk (some 20) _ _ _ _ _ :: _) _ _; refine wpList_slice_h _ rfl (.tmp 18) (.tmp 19) rfl Tryz.underlying33 HIs.out.info HIs.out.size Hwd2.out .i64 (M : Int) (by omega) (by omega) rfl rfl ?_; intro a2 c2 hR2; have HR2 : Hid (RdW S wr (.slice a2 M c2) (nothingW :: ws)) := hid (by have h := hR2; rw [Int.toNat_natCast, Nat.mul_one, List.take_of_length_le (by rw [List.length_map, ← HM.out]; exact Nat.le_refl _)] at h; unfold RdW; rw [← HM.out]; exact h); clear hR2)
        | (go_at_call 65; ((with_reducible refine (rule_nothing HR2.out).mono ?_); rintro e w1 ⟨rfl, f1⟩; have F1 := hid (Hf.out.trans f1 (fun _ _ q => q)); clear f1)))
      go_ret
      exact ⟨rfl, F1.out.alloc _⟩
    · have hn0 : ¬ ((n + 1 : Nat) : Int) < 0 := by omega
      have hnM : n + 1 ≤ M := by have := HM1.out; omega
      obtain ⟨K, hK⟩ : ∃ K, K = n + 1 := ⟨_, rfl⟩
      rw [← hK] at hIdx hn0 hnM
      have HK := hid hK
      clear hK hn
      go_wp2_with (first
        | (go_at_call 64; ((with_reducible refine hIdx.out.mono ?_); rintro e w' ⟨rfl, h'⟩; subst w'))
        | (with_reducible show wpList _ _ _ (Oper.mk (some 20) _ _ _ _ _ :: _) _ _; refine wpList_slice_h _ rfl (.tmp 18) (.tmp 19) rfl Tryz.underlying33 HIs.out.info HIs.out.size Hwd2.out .i64 (K : Int) (by omega) (by omega) rfl rfl ?_; intro a2 c2 hR2; have HR2 : Hid (RdW S wr (.slice a2 K c2) (nothingW :: ws.take n)) := hid (by have h := hR2; have hn' : n ≤ ws.length := (by have := HM1.out; have := HK.out; omega); rw [Int.toNat_natCast, Nat.mul_one, ← List.map_take, HK.out, List.take_succ_cons] at h; unfold RdW; rw [List.length_cons, List.length_take, Nat.min_eq_left hn']; rw [HK.out]; exact h); clear hR2)
        | (go_at_call 65; ((with_reducible refine (rule_nothing HR2.out).mono ?_); rintro e w1 ⟨rfl, f1⟩; have F1 := hid (Hf.out.trans f1 (fun _ _ q => q)); clear f1)))
      go_ret
      exact ⟨rfl, F1.out.alloc _⟩

/-! ### which setting has a name -/
def nameIdx (name : List UInt8) : Int := Lib.idxBy (fun _ (y : Fin 12) => setNm.getD y.val [] == name) [0, 1, 2, 3, 4, 5, 6, 7, 8, 9, 10, 11] default
theorem nameIdx_set : ∀ i : Fin 12, nameIdx (setNm.getD i.val []) = (i.val : Int) := by decide +kernel
theorem nameIdx_thr : nameIdx thrNm = -1 := by decide +kernel
theorem nameIdx_none {name : List UInt8} (h : ∀ i : Fin 12, setNm.getD i.val [] ≠ name) : nameIdx name = -1 := by
  unfold nameIdx Lib.idxBy
  have h' : ∀ i : Fin 12, (setNm.getD i.val [] == name) = false := fun i => by simpa using h i
  simp only [Lib.idxByFrom, h', Bool.false_eq_true, if_false]
theorem line1_any {w : World} {nb : Nat} {name : List UInt8} {i : Nat} (hc : w.cell? ⟨nb, 0, none⟩ = some (.string (txt name))) (hb : nb < w.heap.size) :
    Calls Tryz.prog 45 #[.agg (setCells i).toArray, .pointer (some ⟨nb, 0, none⟩)] w fun e w' => e = .returned (.bool (setNm.getD i [] == name)) ∧ Below w.heap.size w w' := by
  have hq : ((txt (setNm.getD i [])).toList == (txt name).toList) = (setNm.getD i [] == name) := by rw [toList_txt', toList_txt']
  have HQ := hid hq
  clear hq
  show Calls _ _ #[.agg #[.string (txt (setNm.getD i [])), .func (.func (setFn.getD i 0)) #[] #[], .int .i64 (setLo.getD i 0 : Nat), .int .i64 (setHi.getD i 0 : Nat)], _] _ _
  generalize setFn.getD i 0 = fn
  generalize setLo.getD i 0 = lo
  generalize setHi.getD i 0 = hi
  generalize setNm.getD i [] = x at HQ ⊢
  generalize txt name = tn at hc HQ
  generalize txt x = tx at HQ ⊢
  generalize (x == name) = bb at HQ ⊢
  go_enter Tryz.func45, Tryz.ntmps45
  go_wp2
  go_ret
  exact ⟨by rw [HQ.out]; rfl, (Below.refl _ _).alloc (Nat.le_refl _) _⟩
theorem IndexSet {w : World} {sb nb : Nat} {name : List UInt8} (hsb : w.heap[sb]? = some (.cells setAllCells.toArray 48 (0, 0))) (hc : w.cell? ⟨nb, 0, none⟩ = some (.string (txt name))) (hb : nb < w.heap.size) :
    Calls Tryz.prog 44 #[.slice (some ⟨sb, 0, none⟩) 12 12, .func (.func 45) #[] #[.pointer (some ⟨nb, 0, none⟩)]] w fun e w' => e = .returned (.int .i64 (nameIdx name)) ∧ Frm None' w w' := by
  have hC := AnyQ.slices_IndexFunc Tryz.lixS 4 Tryz.isAgg48 Tryz.sizeOf48 (fun x : Fin 12 => setCells x.val) (fun x => rfl) (fun y => setNm.getD y.val [] == name) 45 #[.pointer (some ⟨nb, 0, none⟩)] (enters_of Tryz.func45 (by kernel_rfl) rfl) sb 0 12 12
    [0, 1, 2, 3, 4, 5, 6, 7, 8, 9, 10, 11] w (fun W x hB => (line1_any (i := x.val) (by rw [hB.cell (p := ⟨nb, 0, none⟩) hb]; exact hc) (Nat.lt_of_lt_of_le hb hB.size)).mono (by rintro e w' ⟨rfl, h2⟩; exact ⟨rfl, hB.trans (h2.mono hB.size)⟩)) (by simp) (by omega) (lt_of_heap hsb)
    (fun j hj i v hv => by
      have hj' : j < 12 := hj
      rw [cell_of hsb, List.getElem?_toArray, Nat.zero_add]
      have e1 : (([0, 1, 2, 3, 4, 5, 6, 7, 8, 9, 10, 11] : List (Fin 12))[j]!).val = j := by
        match j, hj' with
        | 0, _ => rfl
        | 1, _ => rfl
        | 2, _ => rfl
        | 3, _ => rfl
        | 4, _ => rfl
        | 5, _ => rfl
        | 6, _ => rfl
        | 7, _ => rfl
        | 8, _ => rfl
        | 9, _ => rfl
        | 10, _ => rfl
        | 11, _ => rfl
      rw [e1] at hv
      have hi : i < 4 := (List.getElem?_eq_some_iff.1 hv).1
      rw [setAll_at hj' i hi]
      exact hv)
  refine hC.mono ?_
  rintro e w' ⟨rfl, hB⟩
  exact ⟨rfl, Frm.of_below hB⟩
end Go.V
