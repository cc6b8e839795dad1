/- A line: what tells nothing that is known, what is known already, a row that is none. -/
import Derived.Test.YtkdeikiloanllaaGreatDoorCS
set_option linter.unusedVariables false
set_option linter.unusedSimpArgs false
namespace Go.V
open Go.RowKit Go.Proofs
attribute [local go_sem ↓] Go.wp_at_zero Go.wp_at_succ

/-- what Split leaves -/
structure Words (w w1 : World) (ws : List (List UInt8)) : Prop where
  blk : w1.heap[w.heap.size]? = some (.cells (ws.map fun p => Value.string (txt p)).toArray 9 (0, 0))
  frm : Frm None' w w1
theorem Split_w {B : Nat} {w : World} (hE : EnvB B w) (l : List UInt8) (hl : l.length < 4294967281) :
    Calls Tryz.prog 18 #[.string (txt l), .string ⟨#[32]⟩] w fun e w' => e = .returned (.slice (some ⟨w.heap.size, 0, none⟩) (pieces 32 l).length (pieces 32 l).length) ∧ Words w w' (pieces 32 l) := by
  refine (Split_any hE 32 l hl).mono ?_
  rintro e w' ⟨rfl, rfl⟩
  exact ⟨rfl, heap_alloc_at, (Frm.refl _ _).alloc _⟩
/-- what settings leaves -/
structure Sets (w w1 : World) : Prop where
  blk : w1.heap[w.heap.size]? = some (.cells setAllCells.toArray 48 (0, 0))
  frm : Frm None' w w1
theorem settings_w (w : World) : Calls Tryz.prog 9 #[] w fun e w' => e = .returned (.slice (some ⟨w.heap.size, 0, none⟩) 12 12) ∧ Sets w w' := by
  refine (settings_any w).mono ?_
  rintro e w' ⟨rfl, rfl⟩
  exact ⟨rfl, heap_alloc_at, (Frm.refl _ _).alloc _⟩
/-- the line's words, its name, the settings -/
structure Mid (w w' : World) (nb : Nat) (tn : ByteArray) (ws : List (List UInt8)) : Prop where
  ws : w'.heap[w.heap.size]? = some (.cells (ws.map fun p => Value.string (txt p)).toArray 9 (0, 0))
  nm : w'.heap[nb]? = some (.cells #[.string tn] 9 (0, 0))
  st : w'.heap[nb + 1]? = some (.cells setAllCells.toArray 48 (0, 0))
  frm : Frm None' w w'
  le : w.heap.size < nb
theorem Mid.start {w w1 w2 : World} {tn : ByteArray} {ws : List (List UInt8)} (h1 : Words w w1 ws) (h2 : Sets (w1.alloc (.cells #[.string tn] 9)) w2) : Mid w w2 w1.heap.size tn ws := by
  refine ⟨h2.frm.heap ((heap_alloc_lt (lt_of_heap h1.blk)).trans h1.blk) (fun q => q), h2.frm.heap heap_alloc_at (fun q => q), ?_, (h1.frm.alloc _).trans h2.frm (fun _ _ q => q), lt_of_heap h1.blk⟩
  have := h2.blk
  rw [show (w1.alloc (.cells #[.string tn] 9)).heap.size = w1.heap.size + 1 from by simp] at this
  exact this
theorem Mid.frm0 {w w2 w3 : World} {nb : Nat} {tn : ByteArray} {ws : List (List UInt8)} (h : Mid w w2 nb tn ws) (f : Frm None' w2 w3) : Mid w w3 nb tn ws :=
  ⟨f.heap h.ws (fun q => q), f.heap h.nm (fun q => q), f.heap h.st (fun q => q), h.frm.trans f (fun _ _ q => q), h.le⟩
theorem Mid.name {w w2 : World} {nb : Nat} {tn : ByteArray} {ws : List (List UInt8)} (h : Mid w w2 nb tn ws) : w2.cell? ⟨nb, 0, none⟩ = some (.string tn) := cell_of h.nm 0
theorem setNm_head : ∀ i : Fin 12, (setNm.getD i.val []).head? ≠ some 64 := by decide +kernel
set_option maxRecDepth 20000 in
set_option maxHeartbeats 2000000 in
/-- a name that nobody knows -/
theorem line_un {B0 rb : Nat} {w : World} {l name : List UInt8} {rest : List (List UInt8)} (hE : EnvB B0 w) (hl : l.length < 4000) (hp : pieces 32 l = name :: rest) (hidx : nameIdx name = -1) (n1 : name ≠ [114, 117, 108, 101]) (n2 : name ≠ [116, 104, 114, 101, 115, 104, 111, 108, 100]) :
    Calls Tryz.prog 19 #[.pointer (some ⟨rb, 0, none⟩), .string (txt l)] w fun e w' => e = .returned (.int .u16 50) ∧ Frm None' w w' := by
  have hSp := hid (Split_w hE l (by omega))
  rw [hp] at hSp
  obtain ⟨n, hn⟩ : ∃ n, n = rest.length := ⟨_, rfl⟩
  rw [show (name :: rest).length = n + 1 from by rw [hn]; rfl] at hSp
  have hr1 : ((txt name).toList == [114, 117, 108, 101]) = false := by rw [toList_txt']; simpa using n1
  have hr2 : ((txt name).toList == [116, 104, 114, 101, 115, 104, 111, 108, 100]) = false := by rw [toList_txt']; simpa using n2
  have hI := fun (W : World) (sb nb : Nat) h1 h2 h3 => hid (IndexSet (w := W) (sb := sb) (nb := nb) (name := name) h1 h2 h3)
  rw [hidx] at hI
  clear hidx hE hl n1 n2
  have Hp := hid hp
  have Hn := hid hn
  clear hp hn
  generalize txt l = s at *
  have hW := fun (w1 : World) (h : Words w w1 (name :: rest)) => (cell_of h.blk 0).trans (show _ = some (Value.string (txt name)) from rfl)
  have HW := hid hW
  clear hW
  generalize txt name = tn at *
  go_enter Tryz.func19, Tryz.ntmps19
  go_wp2_with (first
    | (go_at_call 18; ((with_reducible refine hSp.out.mono ?_); rintro e w1 ⟨rfl, h1⟩; have c0 := HW.out _ h1; have z0 := lt_of_heap h1.blk; have H1 := hid h1; clear h1))
    | (go_at_call 9; ((with_reducible refine (settings_w _).mono ?_); rintro e w2 ⟨rfl, h2⟩; have M2 := hid (Mid.start H1.out h2); clear h2))
    | (go_at_call 44; ((with_reducible refine (hI _ _ _ M2.out.st M2.out.name (lt_of_heap M2.out.nm)).out.mono ?_); rintro e w3 ⟨rfl, f3⟩; have M3 := hid (M2.out.frm0 f3); have c3 := M3.out.name; have z3 := lt_of_heap M3.out.nm; clear f3)))
  go_ret
  exact ⟨rfl, M3.out.frm⟩
theorem line_at {B0 rb : Nat} {w : World} {l : List UInt8} (hE : EnvB B0 w) (hl : l.length < 3999) :
    Calls Tryz.prog 19 #[.pointer (some ⟨rb, 0, none⟩), .string (txt (64 :: l))] w fun e w' => e = .returned (.int .u16 50) ∧ Frm None' w w' := by
  obtain ⟨name, rest, hp, hh⟩ : ∃ name rest, pieces 32 (64 :: l) = name :: rest ∧ name.head? = some 64 := by
    unfold pieces
    rw [if_neg (by decide)]
    split
    · exact ⟨_, _, rfl, rfl⟩
    · exact ⟨_, _, rfl, rfl⟩
  exact line_un hE (by simp; omega) hp (nameIdx_none (fun i e => setNm_head i (by rw [e]; exact hh))) (by rintro rfl; simp at hh) (by rintro rfl; simp at hh)
theorem line_x {B0 rb : Nat} {w : World} (hE : EnvB B0 w) :
    Calls Tryz.prog 19 #[.pointer (some ⟨rb, 0, none⟩), .string (txt [120, 32, 49])] w fun e w' => e = .returned (.int .u16 50) ∧ Frm None' w w' :=
  line_un hE (by simp) (name := [120]) (rest := [[49]]) (by decide) (by decide +kernel) (by decide) (by decide)
end Go.V
