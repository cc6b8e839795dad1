/- The Builder that conf's writer holds in itself: its methods, at a block of the writer's type. -/
import Derived.Test.YtkdeikiloanllaaGreatDoorC6
import Derived.Lib.OthersKept
import Derived.Lib.FrozenHead2
import Derived.Shelf.RegionOpenPlain
set_option linter.unusedVariables false
set_option linter.unusedSimpArgs false
namespace Go.V
open Go.RowKit Go.Proofs

/-- the writer of block b; p: what its address field holds -/
abbrev WrAt (b : Nat) (p : Value) (l : List UInt8) (w : World) : Prop := Lib.BuilderAtF 43 5 b b p (cells8 l) w
def Wr (b : Nat) (l : List UInt8) (w : World) : Prop := WrAt b (.pointer none) l w ∨ WrAt b (.pointer (some ⟨b, 0, none⟩)) l w
/-- what its methods leave as it was -/
def Kp (b : Nat) (w w' : World) : Prop := Below b w w' ∧ Lib.OthersKept 5 (some b) w w'
theorem Kp.trans {b : Nat} {a c d : World} (h : Kp b a c) (k : Kp b c d) : Kp b a d := ⟨h.1.trans k.1, h.2.trans k.2⟩
set_option maxRecDepth 100000 in
theorem copyCheck_b {b : Nat} {l : List UInt8} {w : World} (h : Wr b l w) :
    Calls Tryz.prog 57 #[.pointer (some ⟨b, 0, none⟩)] w fun e w' => e = .returned (.tuple #[]) ∧ WrAt b (.pointer (some ⟨b, 0, none⟩)) l w' ∧ Kp b w w' := by
  obtain ⟨j, hj, hjs⟩ := Option.map_eq_some_iff.1 (show (Tryz.prog.info? 41).map (·.size) = some 2 by kernel_rfl)
  have hlies : liesAt Tryz.prog Tryz.prog.depth 43 (2 / Tryz.prog.cellsOf 43) 0 41 1 = true := by kernel_rfl
  rcases h with h | h
  · have h0 := h.cell0
    have hsh := h.shape
    have hfz := h.frozen0
    have H := hid h
    clear h
    go_enter Tryz.func57, Tryz.ntmps57
    go_wp2
    rw [Lib.run_to_unsafe w ⟨b, 0, none⟩ Tryz.underlying39 Tryz.underlying116 hj (by rw [hjs]; decide) hsh (Nat.zero_lt_succ 1)]
    simp only [Result.andThen]
    rw [Oper.upon_value]
    go_wp2
    rw [run_callFunc_extern Tryz.func73 (by kernel_rfl) (by kernel_rfl) (by kernel_rfl) (e := Extern.AbiNoEscape.same) (by kernel_rfl)]
    rw [Lib.run_noEscape]
    simp only [Result.andThen]
    rw [Oper.upon_value]
    go_wp2
    rw [Lib.run_from_unsafe w ⟨b, 0, none⟩ Tryz.underlying116 Tryz.underlying39 hj hsh hlies]
    simp only [Result.andThen]
    rw [Oper.upon_value]
    go_wp2
    go_end0
    exact ⟨rfl, H.out.used _, (Below.refl b w).setCell (p := ⟨b, 0, none⟩) (Nat.le_refl _) _, (Lib.OthersKept.refl _ (some b) w).setCell ⟨b, 0, none⟩ rfl _⟩
  · have h0 := h.cell0
    have H := hid h
    clear h
    go_enter Tryz.func57, Tryz.ntmps57
    go_wp2
    rw [Lib.run_neq_ptr_same w _ Tryz.underlying39 hj]
    go_wp2
    go_end0
    exact ⟨rfl, H.out, Below.refl _ _, Lib.OthersKept.refl _ _ _⟩
theorem byteInfo : ∃ i, Tryz.prog.info? 5 = some i ∧ i.zero = some (.int .u8 0) ∧ i.size = 1 ∧ i.bytes = 1 := info_parts (by kernel_rfl)
set_option maxHeartbeats 2000000 in
set_option maxRecDepth 100000 in
theorem WriteString_b {b : Nat} {l s : List UInt8} {w : World} (h : Wr b l w) (hlen : l.length + s.length ≤ 1000000) :
    Calls Tryz.prog 38 #[.pointer (some ⟨b, 0, none⟩), .string (txt s)] w fun e w' => e = .returned (.tuple #[.int .i64 s.length, .nilIface]) ∧ WrAt b (.pointer (some ⟨b, 0, none⟩)) (l ++ s) w' ∧ Kp b w w' := by
  have hbw : b < w.heap.size := h.elim (·.lt) (·.lt)
  obtain ⟨i0, hi, hz0, hz1, hz2⟩ := byteInfo
  have HC := hid (copyCheck_b h)
  clear h
  go_enter Tryz.func38, Tryz.ntmps38
  go_wp2_with (first | (go_at_call 57; refine HC.out.mono ?_))
  rintro e w1 ⟨rfl, h1, hb1, hk1⟩
  obtain ⟨hB, v, hbk, hown, hne⟩ := h1
  have c0 := cell_of hbk 0
  have c1 := cell_of hbk 1
  have HH := hid (And.intro hB (And.intro hbk (And.intro hown (And.intro hne (And.intro hb1 hk1)))))
  rw [cells8_length] at hown
  clear hbk hne hb1 hk1 hB HC
  go_wp2_with (at_builtin; refine Lib.wpList_append_own_stringF _ rfl _ _ 22 9 rfl b 5 i0 Tryz.underlying22 Tryz.underlying9 hi hz0 hz1 hz2 _ _ _ rfl hown (txt s) rfl ?c3 ?c4 ?c5 ?_)
  case c3 => unfold maxLen; rw [size_txt]; omega
  case c4 => rw [size_txt]; omega
  case c5 => have := HH.out.2.2.2.2.1.size; omega
  intro v' w2 hown' hgrow _
  have hlt : b < w1.heap.size := lt_of_heap HH.out.2.1
  have hb2 : w2.heap[b]? = some (.cells #[.pointer (some ⟨b, 0, none⟩), v] 43 (0, 0)) := by
    rw [hgrow.block b hlt (fun e => HH.out.2.2.2.1 e.symm)]
    exact HH.out.2.1
  have d0 := cell_of hb2 0
  have d1 := cell_of hb2 1
  have f1 := free_of hb2 1
  obtain ⟨ao, n', cap, rfl⟩ : ∃ ao n' cap, v' = .slice ao n' cap := by
    rcases hown'.2 with ⟨hv, _⟩ | ⟨g, cap, cur, fz, hv, _⟩
    · exact ⟨_, _, _, hv⟩
    · exact ⟨_, _, _, hv⟩
  have H2 := hid (And.intro hown' (And.intro hgrow hb2))
  clear hown' hgrow hb2 hown
  go_wp2
  go_ret2
  refine ⟨rfl, ?_, ?_, (HH.out.2.2.2.2.2.grown H2.out.2.1 (Lib.ownsRowF_kind HH.out.2.2.1)).setCell ⟨b, 1, none⟩ rfl _⟩
  · refine Lib.BuilderAtF.put (T := 43) (e := 5) (Nat.le_refl b) H2.out.2.2 (bs' := cells8 (l ++ s)) ?_ (by decide)
    have := H2.out.1
    rw [cells8_append, List.length_append, cells8_length, cells8_length]
    exact this
  · exact (HH.out.2.2.2.2.1.grown H2.out.2.1 (by have := HH.out.2.2.2.2.1.size; omega) (fun k hk => (HH.out.2.2.1.lt k hk).1)).setCell (p := ⟨b, 1, none⟩) (Nat.le_refl b) _
set_option maxHeartbeats 2000000 in
set_option maxRecDepth 100000 in
theorem WriteByte_b {b : Nat} {l : List UInt8} {c : UInt8} {w : World} (h : Wr b l w) (hlen : l.length + 1 ≤ 1000000) :
    Calls Tryz.prog 39 #[.pointer (some ⟨b, 0, none⟩), .int .u8 (c.toNat : Int)] w fun e w' => e = .returned .nilIface ∧ WrAt b (.pointer (some ⟨b, 0, none⟩)) (l ++ [c]) w' ∧ Kp b w w' := by
  have hbw : b < w.heap.size := h.elim (·.lt) (·.lt)
  obtain ⟨i0, hi, hz0, hz1, hz2⟩ := byteInfo
  have HC := hid (copyCheck_b h)
  clear h
  go_enter Tryz.func39, Tryz.ntmps39
  go_wp2_with (first | (go_at_call 57; refine HC.out.mono ?_))
  rintro e w1 ⟨rfl, h1, hb1, hk1⟩
  obtain ⟨hB, v, hbk, hown, hne⟩ := h1
  have c0 := cell_of hbk 0
  have c1 := cell_of hbk 1
  have HH := hid (And.intro hB (And.intro hbk (And.intro hown (And.intro hne (And.intro hb1 hk1)))))
  rw [cells8_length] at hown
  clear hbk hne hb1 hk1 hB HC
  go_wp2_with (at_builtin; refine wpList_append_ownF _ rfl _ _ 22 rfl b 5 i0 (.int .u8 0) 1 1 Tryz.underlying22 hi hz0 hz1 hz2 rfl (by decide) _ _ _ rfl (hown.alloc _) ⟨w1.heap.size, 0, none⟩ 1 1 [.int .u8 (c.toNat : Int)] rfl rfl ?c1 ?c2 ?c3 ?c4 ?c5 ?_)
  case c1 =>
    intro j u hj
    match j, hj with
    | 0, hj => simp at hj; subst hj; simp [Addr.add]
  case c2 => intro u hu; simp at hu; subst hu; rfl
  case c3 => unfold maxLen; omega
  case c4 => omega
  case c5 => have := HH.out.2.2.2.2.1.size; simp; omega
  intro v' w2 hown' hgrow _
  have hlt : b < w1.heap.size := lt_of_heap HH.out.2.1
  have hb2 : w2.heap[b]? = some (.cells #[.pointer (some ⟨b, 0, none⟩), v] 43 (0, 0)) := by
    rw [hgrow.block b (by simp; omega) (fun e => HH.out.2.2.2.1 e.symm), heap_alloc_lt hlt]
    exact HH.out.2.1
  have d0 := cell_of hb2 0
  have d1 := cell_of hb2 1
  have f1 := free_of hb2 1
  obtain ⟨ao, n', cap, rfl⟩ : ∃ ao n' cap, v' = .slice ao n' cap := by
    rcases hown'.2 with ⟨hv, _⟩ | ⟨g, cap, cur, fz, hv, _⟩
    · exact ⟨_, _, _, hv⟩
    · exact ⟨_, _, _, hv⟩
  have H2 := hid (And.intro hown' (And.intro hgrow hb2))
  clear hown' hgrow hb2 hown
  go_wp2
  go_ret
  have hka := HH.out.2.2.2.2.2.alloc (.cells #[.int .u8 (c.toNat : Int)] 5)
  have hba := HH.out.2.2.2.2.1.alloc (by have := HH.out.2.2.2.2.1.size; omega) (.cells #[.int .u8 (c.toNat : Int)] 5)
  refine ⟨rfl, ?_, ?_, (hka.grown H2.out.2.1 (fun g hg => ?_)).setCell ⟨b, 1, none⟩ rfl _⟩
  · refine Lib.BuilderAtF.put (T := 43) (e := 5) (Nat.le_refl b) H2.out.2.2 (bs' := cells8 (l ++ [c])) ?_ (by decide)
    have := H2.out.1
    rw [cells8_append, List.length_append, cells8_length, cells8_length]
    exact this
  · exact (hba.grown H2.out.2.1 (by simp; have := HH.out.2.2.2.2.1.size; omega) (fun k hk => (HH.out.2.2.1.lt k hk).1)).setCell (p := ⟨b, 1, none⟩) (Nat.le_refl b) _
  · obtain ⟨cs, fz, q⟩ := Lib.ownsRowF_kind HH.out.2.2.1 g hg
    exact ⟨cs, fz, by rw [heap_alloc_lt (lt_of_heap q)]; exact q⟩
theorem Len_b {b : Nat} {l : List UInt8} {w : World} (h : Wr b l w) :
    Calls Tryz.prog 15 #[.pointer (some ⟨b, 0, none⟩)] w fun e w' => e = .returned (.int .i64 (l.length : Int)) ∧ w' = w := by
  obtain ⟨p, hB, v, hbk, hown, hne⟩ : ∃ p, WrAt b p l w := h.elim (fun x => ⟨_, x⟩) (fun x => ⟨_, x⟩)
  rw [cells8_length] at hown
  obtain ⟨ao, cap, rfl⟩ : ∃ ao cap, v = .slice ao l.length cap := by
    rcases hown.2 with ⟨hv, h0⟩ | ⟨g, cap, cur, fz, hv, _⟩
    · exact ⟨none, 0, by rw [hv, h0]⟩
    · exact ⟨_, _, hv⟩
  have c1 := cell_of hbk 1
  clear hbk hown hne h hB
  go_enter Tryz.func15, Tryz.ntmps15
  go_wp2
  go_ret
  exact ⟨rfl, rfl⟩
set_option maxHeartbeats 2000000 in
set_option maxRecDepth 100000 in
theorem String_b {b : Nat} {l : List UInt8} {w : World} (h : Wr b l w) (h0 : l ≠ []) :
    Calls Tryz.prog 16 #[.pointer (some ⟨b, 0, none⟩)] w fun e w' => e = .returned (.string (txt l)) ∧ Below b w w' := by
  obtain ⟨p, hB, v, hbk, hown, hne⟩ : ∃ p, WrAt b p l w := h.elim (fun x => ⟨_, x⟩) (fun x => ⟨_, x⟩)
  have hl0 : l.length ≠ 0 := by simpa using h0
  have hown0 := hown
  rw [cells8_length] at hown
  obtain ⟨g, cap, cur, fz, rfl, hbg, hg, hfz, hnc, hcm, hcs, htake⟩ : ∃ g cap cur fz, v = .slice (some ⟨g, 0, none⟩) l.length cap ∧ b ≤ g ∧ w.heap[g]? = some (.cells cur 5 fz) ∧ fz.2 ≤ l.length * 1 ∧ l.length ≤ cap ∧ cap ≤ maxLen ∧ cur.size = cap * 1 ∧ cur.toList.take (l.length * 1) = cells8 l := by
    rcases hown.2 with ⟨_, hz⟩ | ⟨g, cap, cur, fz, hv, r⟩
    · exact absurd hz hl0
    · exact ⟨g, cap, cur, fz, hv, r⟩
  have hbk' : w.drew.heap[b]? = some (.cells #[p, .slice (some ⟨g, 0, none⟩) l.length cap] 43 (0, 0)) := hbk
  have c1 := cell_of hbk' 1
  have hSD : (Builtin.unsafeSliceData_ #[22] 83 #[.slice (some ⟨g, 0, none⟩) l.length cap]).run Tryz.prog w.drew = .ok (.pointer (some ⟨g, 0, none⟩)) w.drew :=
    Lib.run_unsafeSliceData_row _ _ _ _ _ _ (by omega)
  have hUS : (Builtin.unsafeString_ #[83, 3] 9 #[.pointer (some ⟨g, 0, none⟩), .int .i64 l.length]).run Tryz.prog w.drew = .ok (.string ⟨l.toArray⟩) (w.drew.freeze ⟨g, 0, none⟩ l.length) := by
    refine Lib.run_unsafeString_row w.drew 83 3 9 5 Tryz.underlying83 (by kernel_rfl) g cur.size (by have hg' : w.drew.heap[g]? = some (.cells cur 5 fz) := hg; simp [World.shape?, hg']) l h0 (by omega) (by unfold maxLen at hcm; omega) ?_
    intro j x hx
    exact hown.cells (g := g) rfl j (.int .u8 x.toNat) (by simp [cells8, hx])
  have H := hid hbg
  have HK := hid hbk
  have mixed : Tryz.prog.follows .mixedOrders = true := by kernel_rfl
  clear hbk hbk' hown hown0 hne h hB hg hfz hnc hcm hcs htake hbg h0 hl0
  go_enter Tryz.func16, Tryz.ntmps16
  go_wp2
  go_region_o
  all_goals (go_wp2; go_ret; exact ⟨rfl, Lib.below_freeze (Below.drew (Below.refl b w)) (p := ⟨g, 0, none⟩) H.out _⟩)
end Go.V
