/- conf.Print. -/
import Derived.Test.YtkdeikiloanllaaGreatDoorCX
import Derived.Deep.DeepCutAuto
import Derived.Deep.RegionHeld3
set_option linter.unusedVariables false
set_option linter.unusedSimpArgs false
namespace Go.V
open Go.RowKit Go.Proofs
attribute [local go_sem ↓] Go.wp_at_zero Go.wp_at_succ

theorem RdW_two {w : World} {B : Nat} {x y : List UInt8} {T : TypeId} (h : w.heap[B]? = some (.cells #[.string (txt x), .string (txt y)] T (0, 0))) : RdW (fun _ => True) w (.slice (some ⟨B, 0, none⟩) 2 2) [x, y] := by
  refine ⟨rfl, some ⟨B, 0, none⟩, 2, rfl, by simp, by omega, fun _ => ⟨B, 0, rfl, trivial, lt_of_heap h, fun j u hu => ?_⟩, fun ad h => by injection h with h; rw [← h]⟩
  rw [Nat.zero_add, cell_of h, ← Array.getElem?_toList]
  exact hu
theorem Kp.heap {b k : Nat} {w w' : World} {cs : Array Value} {T : TypeId} {f : Nat × Nat} (h : Kp b w w') (ho : w.heap[k]? = some (.cells cs T f)) (hk : k ≠ b) (hT : T ≠ 5) : w'.heap[k]? = some (.cells cs T f) :=
  h.2 k _ ho (fun e => hk (Option.some.inj e)) (fun c fz e => hT (by injection e with e1 e2))
theorem EnvB.kp {B b : Nat} {w w' : World} (h : EnvB B w) (hk : Kp b w w') (hb : B ≤ b) : EnvB B w' := h.step (hk.1.mono hb)
/-- what the first part of a round leaves: lines l, the setting's copy -/
def CutR (b : Nat) (wr wx : World) (l : List UInt8) (cs : Array Value) : Prop := Wr b l wx ∧ Kp b wr wx ∧ wx.heap[wr.heap.size]? = some (.cells cs 48 (0, 0))
/-- the line of a setting: its name, its number -/
theorem setLine_any {B b : Nat} {l : List UInt8} {ns : List Nat} {i : Nat} {w : World} (hE : EnvB B w) (hn : ns.getD i 0 < 1000) : True := trivial
theorem Join_sep {S : Nat → Prop} {w : World} {v : Value} {ws : List (List UInt8)} (sep : List UInt8) (h : RdW S w v ws) (h0 : ws ≠ []) (hN : ws.length ≤ 1000000) (hs : sep.length ≤ 10) (hl : (Lib.join ws sep).length ≤ 1000000) :
    Calls Tryz.prog 13 #[v, .string (txt sep)] w fun e w' => e = .returned (.string (txt (Lib.join ws sep))) ∧ Frm None' w w' := by
  have hp : 0 < ws.length := List.length_pos_iff.2 h0
  obtain ⟨g, o, cap, rfl, _, hlt, hc, hcell⟩ := h.cells (by omega)
  have e1 : ((ws.map txt).map (·.data.toList)) = ws := by rw [List.map_map]; exact List.map_id ws
  have e2 : (ws.map txt).length = ws.length := by simp
  have := Tryz.strings_Join g o cap (ws.map txt) (txt sep) w (fun j x hx => hcell j _ (by
    rw [List.getElem?_map] at hx ⊢
    obtain ⟨y, hy, rfl⟩ := Option.map_eq_some_iff.1 hx
    rw [hy]; rfl)) hlt (by rw [e2]; omega) (by rw [e2]; exact hc) (by rw [e1]; show (Lib.join ws sep).length ≤ _; omega)
  rw [e1, e2] at this
  refine this.mono ?_
  rintro e w' ⟨rfl, hb⟩
  exact ⟨rfl, Frm.of_below hb⟩
/-- lines ahead of the fourth setting, m rows among them -/
def pre3 (ns : List Nat) (T : Nat) (rows : List (List PR)) (m : Nat) : List UInt8 := lns 10 (pre ns T rows 3 ++ thrLine T :: (rows.take m).map rowLine)
theorem pre3_zero (ns : List Nat) (T : Nat) (rows : List (List PR)) : pre3 ns T rows 0 = lns 10 (pre ns T rows 3) ++ (joinc 32 [thrNm, digitsT T] ++ [10]) := by
  unfold pre3
  rw [lns_append, List.take_zero, List.map_nil, lns_one]
  rfl
theorem pre3_succ (ns : List Nat) (T : Nat) (rows : List (List PR)) {m : Nat} (h : m < rows.length) : pre3 ns T rows (m + 1) = pre3 ns T rows m ++ (rowLine rows[m] ++ [10]) := by
  unfold pre3
  rw [List.take_succ_eq_append_getElem h, List.map_append, ← List.cons_append, ← List.append_assoc, lns_append]
  simp [lns]
theorem pre3_le (ns : List Nat) (T : Nat) (rows : List (List PR)) {m : Nat} (h : m < rows.length) : (pre3 ns T rows m).length + (rowLine rows[m]).length + 1 ≤ (lns 10 (pre ns T rows (3 + 1))).length := by
  have e : rows = rows.take m ++ rows[m] :: rows.drop (m + 1) := by rw [← List.drop_eq_getElem_cons h, List.take_append_drop]
  have e2 : lns 10 (pre ns T rows (3 + 1)) = pre3 ns T rows m ++ ((rowLine rows[m] ++ [10]) ++ (lns 10 ((rows.drop (m + 1)).map rowLine) ++ lns 10 [setLine ns 3])) := by
    rw [pre, lns_append, if_pos rfl]
    unfold pre3
    have e3 : rows.map rowLine = (rows.take m).map rowLine ++ rowLine rows[m] :: (rows.drop (m + 1)).map rowLine := by
      conv => lhs; rw [e, List.map_append, List.map_cons]
    rw [e3, ← List.cons_append, ← List.append_assoc, lns_append]
    have e4 : lns 10 (rowLine rows[m] :: (rows.drop (m + 1)).map rowLine) = (rowLine rows[m] ++ [10]) ++ lns 10 ((rows.drop (m + 1)).map rowLine) := by simp [lns]
    rw [e4]
    simp only [List.append_assoc]
  rw [e2]
  simp only [List.length_append, List.length_cons, List.length_nil]
  omega
theorem rows_all (ns : List Nat) (T : Nat) (rows : List (List PR)) : pre3 ns T rows rows.length = lns 10 (pre ns T rows 3 ++ (if (3 : Nat) = 3 then thrLine T :: rows.map rowLine else [])) := by
  unfold pre3
  rw [List.take_length, if_pos rfl]
def rowTexts (row : List PR) : List (List UInt8) := row.map fun r => joinc 32 (ruleWords r)
def strs (l : List (List UInt8)) : List Value := l.map fun x => Value.string (txt x)
theorem strs_one (row : List PR) {q : Nat} (h : q < row.length) : strs (rowTexts (row.take (q + 1))) = strs (rowTexts (row.take q)) ++ [.string (txt (joinc 32 (ruleWords row[q])))] := by
  unfold strs rowTexts
  rw [List.take_succ_eq_append_getElem h, List.map_append, List.map_append]
  rfl
theorem src_str (W : World) (x : ByteArray) :
    Src Tryz.prog 1 33 (.slice (some ⟨W.heap.size, 0, none⟩) 1 1) 1 [.string x] (W.alloc (.cells #[.string x] 9)) :=
  Src.ofSlice _ Tryz.underlying33 _ 1 1 [.string x] rfl (fun j u hx => by
    rw [Addr.add_lit, cell_of (heap_alloc_at (w := W))]
    simpa using hx) (fun u hx => by simp at hx; subst hx; rfl)
def ctx (b : Nat) (w : World) : Prop := True
set_option maxRecDepth 20000 in
set_option maxHeartbeats 4000000 in
theorem Print_any {B : Nat} {w : World} {S : Nat → Prop} {ns : List Nat} {T : Nat} {v : Value} {rows : List (List PR)} (hE : EnvB B w) (hR : RulesRd S w v rows) (hok : confOk ns T rows) (hn : ∀ i, i < 12 → ns.getD i 0 < 1000) (hlen : (lns 10 (pre ns T rows 12)).length ≤ 4000) :
    Calls Tryz.prog 4 #[.agg (confCells ns T v).toArray] w fun e w' => e = .returned (.tuple #[.string (txt (lns 10 (pre ns T rows 12))), .int .u16 0]) ∧ Frm None' w w' := by
  have H := hid hR
  have Hok := hid hok
  have HE := hid hE
  have Hn := hid hn
  have Hlen := hid hlen
  obtain ⟨a, c, rfl, _⟩ := hR.slice
  have HRt := fun (W : World) (f : Frm None' w W) => hid (Right_any (w := W) (hR.frm f (fun _ _ q => q)) hok)
  have hf0 : ∀ o, Frm None' w (w.alloc o) := fun o => (Frm.refl _ _).alloc _
  clear hR hok hE hn hlen
  have hS := fun (w1 w2 w3 : World) (f1 : Frm None' (w.alloc (.cells (confCells ns T (.slice a rows.length c)).toArray 30)) w1) (e2 : w2 = w1.alloc (.cells #[.pointer none, .slice none 0 0] 43)) (e3 : w3 = w2.alloc (.cells setAllCells.toArray 48)) =>
    (show Hid (w3.heap[w1.heap.size + 1]? = some (.cells setAllCells.toArray 48 (0, 0)) ∧ w3.heap[w.heap.size]? = some (.cells (confCells ns T (.slice a rows.length c)).toArray 30 (0, 0)) ∧ w3.heap[w1.heap.size]? = some (.cells #[.pointer none, .slice none 0 0] 43 (0, 0)) ∧ Frm None' w w3 ∧ w.heap.size < w1.heap.size) from by
      have hlt := lt_of_heap (f1.heap (heap_alloc_at (w := w)) (fun q => q))
      refine hid ⟨?_, ?_, ?_, ?_, hlt⟩
      · rw [e3, show w1.heap.size + 1 = w2.heap.size from by rw [e2]; simp]; exact heap_alloc_at
      · rw [e3, heap_alloc_lt (by rw [e2]; simp; omega), e2, heap_alloc_lt hlt]; exact f1.heap heap_alloc_at (fun q => q)
      · rw [e3, heap_alloc_lt (by rw [e2]; simp), e2]; exact heap_alloc_at
      · rw [e3, e2]; exact ((hf0 _).trans ((f1.alloc _).alloc _) (fun _ _ q => q)))
  show Calls _ _ #[.agg #[num ns 0, num ns 1, num ns 2, .int .u64 (T : Int), _, num ns 3, num ns 4, num ns 5, num ns 6, num ns 7, num ns 8, num ns 9, num ns 10, num ns 11]] _ _
  go_enter Tryz.func4, Tryz.ntmps4
  go_wp2_with (first
    | (go_at_call 8; refine (HRt _ (hf0 _)).out.mono ?_; rintro e w1 ⟨rfl, f1⟩; have F1 := hid f1; clear f1)
    | (go_at_call 9; refine (settings_any _).mono ?_; rintro e w3 ⟨rfl, e3⟩; have HS := hS w1 _ w3 F1.out rfl e3; clear e3 hS F1 HRt hf0))
  generalize w1.heap.size = b at *
  have HEb := hid (HE.out.none HS.out.2.2.2.1)
  have hwr0 : Wr b [] w3 := .inl ⟨Nat.le_refl b, .slice none 0 0, HS.out.2.2.1, ⟨rfl, .inl ⟨rfl, rfl⟩⟩, by simp [Value.ownBlock]⟩
  have HW0 := hid hwr0
  have HBb := hid (show B ≤ b from Nat.le_trans HE.out.1 (Nat.le_of_lt HS.out.2.2.2.2))
  clear hwr0
  go_loopw [21] (fun i wr => ∃ k : Nat, k ≤ 12 ∧ i = .int .i64 k ∧ Wr b (lns 10 (pre ns T rows k)) wr ∧ Kp b w3 wr) (fun i _ => 12 - (RowKit.intOf i).toNat)
  case atStart => exact ⟨0, by omega, rfl, HW0.out, Below.refl _ _, Lib.OthersKept.refl _ _ _⟩
  case round =>
    obtain ⟨k, hk, rfl, hw, hkp⟩ := hrel
    have hsb := hkp.heap HS.out.1 (by omega) (by decide)
    have hcb : wr.heap[w.heap.size]? = some (.cells (confCells ns T (.slice a rows.length c)).toArray 30 (0, 0)) := by rw [hkp.1.block _ HS.out.2.2.2.2]; exact HS.out.2.1
    have Hw := hid hw
    have Hkp := hid hkp
    have HEr := hid (HEb.out.kp hkp HBb.out)
    have HBr := hid (show b ≤ wr.heap.size from Nat.le_of_lt (hw.elim (·.lt) (·.lt)))
    clear hw hkp
    by_cases hlt : k < 12
    · have d := fun j (hj : j < 4) => (cell_of hsb (k * 4 + j)).trans (by rw [List.getElem?_toArray, setAll_at hlt j hj])
      have d0 := d 0 (by omega)
      have d1 := d 1 (by omega)
      have d2 := d 2 (by omega)
      have d3 := d 3 (by omega)
      have f0 := (cell_of hcb (0 + setOff k)).trans (by rw [List.getElem?_toArray, Nat.zero_add, confCells_at ns T _ hlt])
      have hset := fun W b o => hid (set_of hlt b o W)
      have eg := enters_set hlt
      have hs1 : b + 1 < wr.heap.size := lt_of_heap hsb
      have hs0 : w.heap.size < wr.heap.size := lt_of_heap hcb
      have hsize : (lns 10 (pre ns T rows (k + 1))).length ≤ 4000 := by
        have := pre_le ns T rows (12 - (k + 1)) (k + 1)
        rw [show k + 1 + (12 - (k + 1)) = 12 from by omega] at this
        have := Hlen.out
        omega
      have hnk := Hn.out k hlt
      have mixed : Tryz.prog.follows .mixedOrders = true := by kernel_rfl
      have Hdd := hid d
      have Hsize := hid hsize
      have Hcb := hid hcb
      clear d hsb hcb hsize
      simp only [setCells, num] at d0 d1 d2 d3 f0
      generalize hnm : txt (setNm.getD k []) = nm at d0 d1 d2 d3
      generalize hfn : setFn.getD k 0 = fn at d0 d1 d2 d3 hset eg
      generalize hlo : setLo.getD k 0 = lo at d0 d1 d2 d3
      generalize hhi : setHi.getD k 0 = hi at d0 d1 d2 d3
      generalize hoff : setOff k = off at hset f0
      generalize hnn : ns.getD k 0 = n at f0 hnk
      simp at d0 d1 d2 d3
      rw [Nat.zero_add] at f0
      have Hnm := hid hnm
      have Hnn := hid hnn
      have Hof := hid hoff
      clear hnm hnn hfn hlo hhi hoff
      go_upto_if 27 with (fail)
      clear d0 d1 d2 d3
      go_cut [] (fun wx => CutR b wr wx (lns 10 (pre ns T rows k ++ (if k = 3 then thrLine T :: rows.map rowLine else []))) #[.string nm, .func (.func fn) #[] #[], .int .i64 lo, .int .i64 hi])
      case first =>
        by_cases hk3 : k = 3
        · subst hk3
          have c3 := (cell_of Hcb.out 3).trans (show _ = some (Value.int .u64 (T : Int)) from rfl)
          have c4 := (cell_of Hcb.out 4).trans (show _ = some (Value.slice a rows.length c) from rfl)
          have zc := lt_of_heap Hcb.out
          have HD := fun W => hid (Digits_any (w := W) Hok.out.2.1)
          have hszT : (lns 10 (pre ns T rows 3)).length + (thrLine T).length + 1 ≤ 1000000 := by
            have := Hsize.out
            rw [pre, lns_append, lns_append, lns_one, if_pos rfl, List.length_append, List.length_append] at this
            have e : lns 10 (thrLine T :: rows.map rowLine) = thrLine T ++ [10] ++ lns 10 (rows.map rowLine) := by simp [lns]
            rw [e, List.length_append, List.length_append] at this
            simp at this
            omega
          have HLt := fun (W : World) (f : Frm None' wr W) (B' : Nat) (h : W.heap[B']? = some (Obj.cells #[.string ⟨#[116, 104, 114, 101, 115, 104, 111, 108, 100]⟩, .string (txt (digitsT T))] 9 (0, 0))) =>
            hid (line_any (ws := [thrNm, digitsT T]) (Hw.out.kept f) (RdW_two (show W.heap[B']? = some (Obj.cells #[.string (txt thrNm), .string (txt (digitsT T))] 9 (0, 0)) from h)) (by simp) (by simp) hszT)
          have HszT := hid hszT
          clear hszT
          generalize hdt : txt (digitsT T) = dt at HD HLt
          have Hdt := hid hdt
          clear hdt
          go_wp2_with (first
            | (go_at_call 10; ((with_reducible refine (HD _).out.mono ?_); rintro e w2 ⟨rfl, f2⟩; have F2 := hid (((Frm.refl None' wr).alloc (.cells #[.string nm, .func (.func fn) #[] #[], .int .i64 lo, .int .i64 hi] 48 (0, 0))).trans f2 (fun _ _ q => q)); have G2 := hid f2; clear f2))
            | (go_at_call 11; ((with_reducible refine (HLt _ (F2.out.alloc _) _ (by exact heap_alloc_at)).out.mono ?_); rintro e w4 ⟨rfl, x4, k4⟩; have k0 : Kp b (wr.alloc (.cells #[.string nm, .func (.func fn) #[] #[], .int .i64 lo, .int .i64 hi] 48 (0, 0))) w4 := (Kp.frm (by have := HBr.out; simp; omega) (G2.out.alloc _)).trans k4; have hc4 := k0.heap ((heap_alloc_lt (lt_of_heap Hcb.out)).trans Hcb.out) (Nat.ne_of_lt HS.out.2.2.2.2) (by decide); have c4' := (cell_of hc4 4).trans (show _ = some (Value.slice a rows.length c) from rfl); have X4 := hid x4; have K0 := hid k0; clear x4 k4 k0 hc4)))
          have hfw : ∀ W, Kp b (wr.alloc (.cells #[.string nm, .func (.func fn) #[] #[], .int .i64 lo, .int .i64 hi] 48 (0, 0))) W → Frm None' w W := fun W k =>
            Frm.of_below (HS.out.2.2.2.1.below.trans ((Hkp.out.trans ((Kp.frm HBr.out ((Frm.refl None' wr).alloc _)).trans k)).1.mono (Nat.le_of_lt HS.out.2.2.2.2)))
          have Hfw := hid hfw
          clear hfw c4' c3 c4 HD HLt
          obtain ⟨w0, hw0⟩ : ∃ w0, w0 = wr.alloc (.cells #[.string nm, .func (.func fn) #[] #[], .int .i64 lo, .int .i64 hi] 48 (0, 0)) := ⟨_, rfl⟩
          rw [← hw0] at K0 Hfw
          have Hw0 := hid hw0
          clear hw0
          obtain ⟨wq, rfl⟩ : ∃ wq : World, wq = wr := ⟨_, rfl⟩
          go_loopw [41] (fun j wx => ∃ m : Nat, m ≤ rows.length ∧ j = .int .i64 m ∧ Wr b (pre3 ns T rows m) wx ∧ Kp b w0 wx) (fun j _ => rows.length - (RowKit.intOf j).toNat)
          case atStart => exact ⟨0, by omega, rfl, by rw [pre3_zero]; exact X4.out, K0.out⟩
          case round =>
            obtain ⟨wx, rfl⟩ : ∃ wx : World, wx = wr := ⟨_, rfl⟩
            obtain ⟨m, hm, rfl, hwx, kwx⟩ := hrel
            have hwf := Hfw.out _ kwx
            have Hwx := hid hwx
            have Kwx := hid kwx
            have HEx := hid (HE.out.none hwf)
            have HRx := hid (H.out.frm hwf (fun _ _ q => q))
            clear hwx kwx hwf
            by_cases hml : m < rows.length
            · obtain ⟨g, o, cc, ar, cr, ev, hcell, hrd⟩ := HRx.out.at_ m hml
              injection ev with ev e2 e3
              clear e2 e3
              subst ev
              have hrow := Hok.out.2.2.2.1.1 rows[m] (List.getElem_mem _)
              have hle := pre3_le ns T rows hml
              have hsucc := pre3_succ ns T rows hml
              obtain ⟨row, hrowe⟩ : ∃ row, row = rows[m] := ⟨_, rfl⟩
              rw [← hrowe] at hcell hrd hrow hle hsucc
              have Hrowe := hid hrowe
              have Hrow := hid hrow
              have Hle := hid hle
              have Hsucc := hid hsucc
              clear hrowe hrow hle hsucc
              obtain ⟨L, hL⟩ : ∃ L, L = row.length := ⟨_, rfl⟩
              rw [← hL] at hcell hrd
              have HLn := hid hL
              have Hrd := hid hrd
              obtain ⟨_, _, er, hcr, hcr'⟩ := hrd.slice
              injection er with e1 e2 er
              subst er
              clear e1 e2
              have zg := Hrd
              obtain ⟨is, his⟩ := inf_str
              have HIs := hid his
              have hL20 : L ≤ 20 := by
                have h1 := sumRows_take_le rows (m + 1)
                rw [sumRows_take rows m hml, ← Hrowe.out, ← hL] at h1
                have := Hok.out.2.2.2.2
                omega
              clear hL hrd his zg
              have hgl : g < wx.heap.size := by
                by_cases hg : g < wx.heap.size
                · exact hg
                · exact absurd (Array.getElem?_eq_none (Nat.not_lt.1 hg)) (by intro q; simp [World.cell?, q] at hcell)
              go_wp2
              go_loopw [47, 11] (fun j lv wy => ∃ q : Nat, q ≤ L ∧ j = .int .i64 q ∧ Row (New' wx.heap.size) wy 9 1 lv q (strs (rowTexts (row.take q))) ∧ Frm None' wx wy) (fun j _ _ => L - (RowKit.intOf j).toNat)
              case atStart => exact ⟨0, by omega, rfl, Row.nil _ _ _ _, Frm.refl _ _⟩
              case round =>
                obtain ⟨q, hq, rfl, hrw, hfy⟩ := hrel
                have Hrw := hid hrw
                have Hfy := hid hfy
                obtain ⟨lr, lc, rfl⟩ := hrw.slice
                by_cases hql : q < L
                · obtain ⟨g2, o2, c2, e2, _, hlt2, _, hc2⟩ := (Hrd.out.frm hfy (fun _ _ q => q)).cells (by omega)
                  injection e2 with e2 e3 e4
                  clear e3 e4
                  subst e2
                  have hqr : q < row.length := by rw [← HLn.out]; exact hql
                  have hone := strs_one row hqr
                  have hcl := fun i (hi : i < 4) u (hu : (row[q]).cells[i]? = some u) => (show wr.cell? ⟨g2, o2 + q * 4 + i, none⟩ = some u from by rw [Nat.add_assoc]; exact hc2 _ _ (by rw [flat_get row q i hqr hi]; exact hu))
                  have hrok := Hrow.out.2 row[q] (List.getElem_mem _)
                  obtain ⟨r, hr⟩ : ∃ r, r = row[q] := ⟨_, rfl⟩
                  rw [← hr] at hone hcl hrok
                  obtain ⟨kd, ra, ky, vl, hcs⟩ : ∃ K A Y V, r.cells = [.int .u8 K, .int .i64 A, .string Y, .string V] := ⟨_, _, _, _, rfl⟩
                  have HWr := fun W (f : Frm None' wx W) => hid (written_any (HEx.out.none f) hrok)
                  rw [hcs] at hcl HWr
                  have x0 := hcl 0 (by omega) _ rfl
                  have x1 := hcl 1 (by omega) _ rfl
                  have x2 := hcl 2 (by omega) _ rfl
                  have x3 := hcl 3 (by omega) _ rfl
                  rw [Nat.add_zero] at x0
                  generalize txt (joinc 32 (ruleWords r)) = s1 at hone HWr
                  have Hone := hid hone
                  clear hcl hone hrok hr hcs hc2 hrw hfy hqr
                  go_wp2_with (first
                    | (go_at_call 12; ((with_reducible refine (HWr _ (Hfy.out.alloc _)).out.mono ?_); rintro e w6 ⟨rfl, f6⟩; have F6 := hid (((Frm.refl None' wr).alloc (.cells #[.int .u8 kd, .int .i64 ra, .string ky, .string vl] 53 (0, 0))).trans f6 (fun _ _ q => q)); clear f6))
                    | (with_reducible show wpList _ _ _ (Oper.mk (some 55) _ _ _ _ _ :: _) _ _; refine wpList_append_v _ rfl _ _ 33 33 rfl Tryz.underlying33 HIs.out.info HIs.out.zero HIs.out.size rfl (Hrw.out.frm0 (F6.out.alloc _)) (src_str w6 s1) rfl rfl (by rw [HIs.out.bytes]; omega) (by omega) ?_; intro a7 c7 w7 hR7 hF7 hs7; have HR7 := hid hR7; have HF7 := hid hF7; clear hR7 hF7 hs7))
                  go_roundw
                  case rel =>
                    refine ⟨q + 1, by omega, by go_num, ?_, ?_⟩
                    · rw [Hone.out]
                      refine HR7.out.mono (fun j hj e => ?_)
                      rcases e with e | e
                      · exact (Hrw.out.own e).1
                      · have h1 := Hfy.out.size
                        have h2 := F6.out.size
                        simp at e
                        unfold New'
                        omega
                    · exact ((Hfy.out.trans F6.out (fun _ _ q => q)).alloc _).trans HF7.out (fun i hi e => absurd (Hrw.out.own e).1 (by unfold New'; omega))
                  case measure => simp [RowKit.intOf]; omega
                · have hqL : q = L := by omega
                  subst hqL
                  have hrd2 : RdW (New' wx.heap.size) wr (.slice lr q lc) (rowTexts row) := by
                    have h := hrw.rd
                    rw [HLn.out, List.take_length] at h
                    have e : (rowTexts row).length = row.length := by simp [rowTexts]
                    unfold RdW
                    rw [e, ← HLn.out]
                    rw [← HLn.out] at h
                    exact h
                  have hrne : rowTexts row ≠ [] := by
                    intro e
                    have := congrArg List.length e
                    simp [rowTexts] at this
                    exact Hrow.out.1 this
                  have hjl : (Lib.join (rowTexts row) [32, 38, 32]) = joinc 32 (rowWords row) := join3 row Hrow.out.1
                  have hrl := rowText_len row Hrow.out.1 Hrow.out.2
                  have hj := Join_sep [32, 38, 32] hrd2 hrne (by simp [rowTexts]; rw [← HLn.out]; omega) (by simp) (by rw [hjl]; rw [← HLn.out] at hrl; omega)
                  rw [hjl] at hj
                  have HJ := hid hj
                  change Hid (Calls _ _ #[_, .string ⟨#[32, 38, 32]⟩] _ _) at HJ
                  have e9 : joinc 32 [ruleW, joinc 32 (rowWords row)] = rowLine row := rowLine_eq row Hrow.out.1
                  have HL2 := fun (W : World) (f : Frm None' wx W) (B' : Nat) (h : W.heap[B']? = some (Obj.cells #[.string ⟨#[114, 117, 108, 101]⟩, .string (txt (joinc 32 (rowWords row)))] 9 (0, 0))) =>
                    hid (line_any (ws := [ruleW, joinc 32 (rowWords row)]) (Hwx.out.kept f) (RdW_two (show W.heap[B']? = some (Obj.cells #[.string (txt ruleW), .string (txt (joinc 32 (rowWords row)))] 9 (0, 0)) from h)) (by simp) (by simp) (by rw [e9]; have h1 := Hle.out; have h2 := Hsize.out; omega))
                  have He9 := hid e9
                  clear e9 hj hjl hrl hrne hrd2 hrw hfy
                  generalize txt (joinc 32 (rowWords row)) = jx at HJ HL2
                  go_wp2_with (first
                    | (go_at_call 13; ((with_reducible refine HJ.out.mono ?_); rintro e w8 ⟨rfl, f8⟩; have F8 := hid (Hfy.out.trans f8 (fun _ _ q => q)); clear f8))
                    | (go_at_call 11; ((with_reducible refine (HL2 _ (F8.out.alloc _) _ (by exact heap_alloc_at)).out.mono ?_); rintro e w9 ⟨rfl, x9, k9⟩; have X9 := hid x9; have K9 := hid k9; clear x9 k9)))
                  go_roundw
                  case rel =>
                    refine ⟨m + 1, by omega, by go_num, by rw [Hsucc.out, ← He9.out]; exact X9.out, Kwx.out.trans ((Kp.frm ?_ (F8.out.alloc _)).trans K9.out)⟩
                    have h1 := Kwx.out.1.size
                    have h2 := HBr.out
                    have h3 : w0.heap.size = wq.heap.size + 1 := by rw [Hw0.out]; simp
                    omega
                  case measure => simp [RowKit.intOf]; omega
            · have hmr : m = rows.length := by omega
              subst hmr
              go_wp2
              go_meet
              have hw0 := Hw0.out
              have hbq : b < wq.heap.size := Hw.out.elim (·.lt) (·.lt)
              refine ⟨by rw [if_pos trivial]; have h := Hwx.out; unfold pre3 at h; rw [List.take_length] at h; exact h, (Kp.frm HBr.out (by rw [hw0]; exact (Frm.refl None' wq).alloc _)).trans Kwx.out, Kwx.out.heap (by rw [hw0]; exact heap_alloc_at) (Nat.ne_of_gt hbq) (by decide)⟩
        · have tk : ((k : Int) == 3) = false := by simp; omega
          have Hk3 := hid hk3
          clear hk3
          go_wp2
          go_meet
          refine ⟨?_, Kp.frm HBr.out ((Frm.refl None' wr).alloc _), heap_alloc_at⟩
          rw [if_neg Hk3.out, List.append_nil]
          exact Hw.out.kept ((Frm.refl None' wr).alloc _)
      case rest =>
        obtain ⟨hwc, kwc, hbc⟩ := hcut
        have hcc := kwc.heap Hcb.out (Nat.ne_of_lt HS.out.2.2.2.2) (by decide)
        have f0 := (cell_of hcc (0 + off)).trans (by rw [List.getElem?_toArray, Nat.zero_add, ← Hof.out, confCells_at ns T _ hlt])
        rw [Nat.zero_add] at f0
        unfold num at f0
        rw [Hnn.out] at f0
        have e0 := cell_of hbc
        have z0 := lt_of_heap hbc
        have zc := lt_of_heap hcc
        have HI := fun W (f : Frm None' wc W) => hid (Itoa_any (((HEr.out.kp kwc HBb.out)).none f) hnk)
        have hpre : lns 10 (pre ns T rows (k + 1)) = lns 10 (pre ns T rows k ++ (if k = 3 then thrLine T :: rows.map rowLine else [])) ++ (setLine ns k ++ [10]) := by rw [pre, lns_append, lns_one]
        have HL := fun (W : World) (f : Frm None' wc W) (B' : Nat) (h : W.heap[B']? = some (Obj.cells #[.string nm, .string (txt (dec n))] 9 (0, 0))) =>
          hid (line_any (ws := [setNm.getD k [], dec n]) (hwc.kept f) (RdW_two (by rw [Hnm.out]; exact h)) (by simp) (by simp) (by
            have e : (joinc 32 [setNm.getD k [], dec n]) = setLine ns k := by rw [← Hnn.out]; rfl
            have := Hsize.out
            rw [hpre, List.length_append, List.length_append] at this
            rw [e]; simp at this; omega))
        have Hpre := hid hpre
        have HWc := hid hwc
        have HKc := hid kwc
        have Hbc := hid hbc
        clear hwc kwc hbc hcc hnk hpre
        generalize hdn : txt (dec n) = dn at HI HL
        have Hdn := hid hdn
        clear hdn
        go_wp2
        go_region_with (first
          | (go_at_fn fn; refine (hset _ _ _).out.mono ?_; rintro e w2 ⟨rfl, h'⟩; subst w2)
          | (go_at_call 14; refine (HI _ (by first | exact (Frm.refl None' wc).drew | exact Frm.refl None' wc)).out.mono ?_; rintro e w2 ⟨rfl, f2⟩; have bx := f2.heap (k := wr.heap.size) Hbc.out (fun q => q); have x0 := cell_of bx 0; clear bx; have F2 : Hid (Frm None' wc w2) := hid (by first | exact ((Frm.refl None' wc).drew).trans f2 (fun _ _ q => q) | exact f2); clear f2 HI)
          | (go_at_call 11; refine (HL _ (by first | exact F2.out.alloc _ | exact F2.out.drew.alloc _) _ (by exact heap_alloc_at)).out.mono ?_; rintro e w4 ⟨rfl, x4, k4⟩; have X4 := hid x4; have K4 : Hid (Kp b wr w4) := hid (by first | exact HKc.out.trans ((Kp.frm (by have := HKc.out.1.size; have := HBr.out; omega) (F2.out.alloc _)).trans k4) | exact HKc.out.trans ((Kp.frm (by have := HKc.out.1.size; have := HBr.out; omega) (F2.out.drew.alloc _)).trans k4)); clear x4 k4 HL))
        all_goals
          go_wp2
          refine ⟨⟨k + 1, by omega, by go_num, ?_, Hkp.out.trans K4.out⟩, by simp [RowKit.intOf]; omega⟩
          rw [Hpre.out]
          have h := X4.out
          rw [← Hnn.out] at h
          exact h
    · have hk12 : k = 12 := by omega
      subst hk12
      have hne : lns 10 (pre ns T rows 12) ≠ [] := by
        intro e
        have := congrArg List.length e
        rw [pre, lns_append, lns_one] at this
        simp at this
      have HL := hid (Len_b Hw.out)
      have HT := hid (String_b Hw.out hne)
      have hq : ¬ (4000 : Int) < ((lns 10 (pre ns T rows 12)).length : Int) := by have := Hlen.out; omega
      clear hsb hcb hne
      generalize hx : lns 10 (pre ns T rows 12) = text at HL HT hq
      have HX := hid hx
      clear hx
      go_wp2_with (first
        | (go_at_call 15; refine HL.out.mono ?_; rintro e w4 ⟨rfl, rfl⟩)
        | (go_at_call 16; refine HT.out.mono ?_; rintro e w5 ⟨rfl, b5⟩; have B5 := hid b5; clear b5))
      go_ret2
      have hwb : w.heap.size ≤ b := Nat.le_of_lt HS.out.2.2.2.2
      have g1 := HS.out.2.2.2.1.below
      have g2 := Hkp.out.1.trans B5.out
      have g3 := g2.mono hwb
      have g4 := g1.trans g3
      refine ⟨?_, Frm.of_below g4⟩
      rw [HX.out]
      rfl
end Go.V
