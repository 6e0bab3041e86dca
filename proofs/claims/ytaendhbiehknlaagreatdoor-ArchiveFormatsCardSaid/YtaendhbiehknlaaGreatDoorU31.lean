/- What is proved here, of the given program: The ledger of no text; no dues. The archive: its policy's right, its fail and again, booted. -/
import Derived.Test.YtaendhbiehknlaaGreatDoorU30
import Derived.Carry
import Derived.Test.YtaendhbiehknlaaGreatDoorU24
import Derived.Test.YtaendhbiehknlaaGreatDoorU26
set_option linter.unusedVariables false
set_option linter.unusedSimpArgs false
set_option linter.constructorNameAsVariable false
namespace Go.Proofs.YtaendhbiehknlaaGreatDoor
open Go.RowKit Go.Shelf Go.Proofs

/-- A ledger at time nought. -/
def LedNil (w : World) (g : Nat) : Prop := w.cell? ⟨g, 1, none⟩ = some (.int .i64 0)
theorem LedNil.lt {w : World} {g : Nat} (h : LedNil w g) : g < w.heap.size := World.block_lt_of_cell? w _ h
theorem LedNil.pu {w w1 : World} {g : Nat} (h : LedNil w g) (hp : Pu w w1) : LedNil w1 g := (hp.pcell g _ h.lt).trans h
set_option maxRecDepth 100000 in
theorem ledgerNew (w : World) : Calls Tryz.prog 140 #[] w fun e w' => ∃ g, e = .returned (.pointer (some ⟨g, 0, none⟩)) ∧ LedNil w' g ∧ w.heap.size ≤ g ∧ Pu w w' := by
  have hmm := @run_makeMap Tryz.prog
  go_enter Tryz.func140, Tryz.ntmps140
  go_wp2
  go_ret
  refine ⟨_, rfl, ?_, ?_, (((Fr.refl _ _).alloc _).alloc _).alloc _⟩
  · have h := heap_alloc_new ((w.alloc (Obj.map #[] 0)).alloc (Obj.map #[] 0)) (.cells #[.int .i64 0, .int .i64 0, .slice none 0 0, .map (some w.heap.size), .map (some (w.heap.size + 1))] 191)
    have e : ((w.alloc (Obj.map #[] 0)).alloc (Obj.map #[] 0)).heap.size = w.heap.size + 1 + 1 := by simp
    rw [e] at h
    unfold LedNil
    rw [cell_of_row _ _ _ _ _ _ h]; rfl
  · omega
set_option maxRecDepth 100000 in
theorem ledgerOfNil (w : World) : Calls Tryz.prog 83 #[.slice none 0 0] w fun e w' => ∃ g, e = .returned (.tuple #[.pointer (some ⟨g, 0, none⟩), .int .i64 0]) ∧ LedNil w' g ∧ w.heap.size ≤ g ∧ Pu w w' := by
  go_enter Tryz.func83, Tryz.ntmps83
  go_wp2_with fail
  refine (ledgerNew w).mono ?_
  rintro e w1 ⟨g, rfl, hg, hs, hp⟩
  go_wp2_with fail
  refine wp_loop_rounds 1 ?_
  rw [rounds_succ]
  go_wp2
  go_ret2
  exact ⟨g, rfl, hg, hs, hp⟩
theorem ledgerTime (g : Nat) (w : World) (h : LedNil w g) : Calls Tryz.prog 42 #[.pointer (some ⟨g, 0, none⟩)] w fun e w' => e = .returned (.int .i64 0) ∧ w = w' := by
  unfold LedNil at h
  go_enter Tryz.func42, Tryz.ntmps42
  go_wp2
  go_ret
  exact ⟨rfl, rfl⟩
/-- A queue of no dues. -/
def DueNil (w : World) (g : Nat) : Prop := w.cell? ⟨g, 0, none⟩ = some (.slice none 0 0)
theorem DueNil.lt {w : World} {g : Nat} (h : DueNil w g) : g < w.heap.size := World.block_lt_of_cell? w _ h
theorem DueNil.pu {w w1 : World} {g : Nat} (h : DueNil w g) (hp : Pu w w1) : DueNil w1 g := (hp.pcell g _ h.lt).trans h
set_option maxRecDepth 100000 in
theorem dueNewNil (w : World) : Calls Tryz.prog 34 #[.slice none 0 0] w fun e w' => ∃ g, e = .returned (.pointer (some ⟨g, 0, none⟩)) ∧ DueNil w' g ∧ w.heap.size ≤ g ∧ Pu w w' := by
  go_enter Tryz.func34, Tryz.ntmps34
  go_wp2
  refine wp_loop_rounds 1 ?_
  rw [rounds_succ]
  go_wp2
  go_ret
  exact ⟨_, rfl, by unfold DueNil; rw [cell_of_row _ _ _ _ _ _ (heap_alloc_new _ _)]; rfl, by simp, (Fr.refl _ _).alloc _⟩
set_option maxRecDepth 100000 in
theorem dueNextNil (g : Nat) (w : World) (h : DueNil w g) : Calls Tryz.prog 58 #[.pointer (some ⟨g, 0, none⟩)] w fun e w' => e = .returned (.tuple #[.agg #[.int .i64 0, .int .i64 0], .bool false]) ∧ Pu w w' := by
  have hgl := h.lt
  unfold DueNil at h
  go_enter Tryz.func58, Tryz.ntmps58
  go_wp2
  have hb := heap_alloc_new w (.cells #[.int .i64 0, .int .i64 0] 109)
  have hp : Pu w (w.alloc (.cells #[.int .i64 0, .int .i64 0] 109)) := (Fr.refl _ _).alloc _
  generalize w.alloc (.cells #[.int .i64 0, .int .i64 0] 109) = wz at *
  have x0 : wz.cell? ⟨w.heap.size, 0, none⟩ = some (.int .i64 0) := by rw [cell_of_row _ _ _ _ _ _ hb]; rfl
  have x1 : wz.cell? ⟨w.heap.size, 1, none⟩ = some (.int .i64 0) := by rw [cell_of_row _ _ _ _ _ _ hb]; rfl
  exact bodyPost_ret (v := .tuple #[.agg #[.int .i64 0, .int .i64 0], .bool false]) (by simp [results, Tryz.results58, go_sem, x0, x1]) rfl ⟨rfl, hp⟩
set_option maxRecDepth 100000 in
theorem messageKindNil (w : World) : Calls Tryz.prog 66 #[.slice none 0 0] w fun e w' => e = .returned (.int .i64 0) ∧ Pu w w' := by
  have C1 := Lib.hid (eyeOpen (.slice none 0 0) [] Tr w (Sl.nil _ _ _) (by decide))
  go_enter Tryz.func66, Tryz.ntmps66
  go_wp2_with fail
  refine C1.out.mono ?_
  rintro e w1 ⟨g, rfl, he, hp⟩
  go_wp2_with fail
  refine (eyeU8 w g _ w1 he).mono ?_
  rintro e w2 ⟨rfl, he2, hf2⟩
  go_wp2
  go_ret
  exact ⟨rfl, he2.2.1⟩
end Go.Proofs.YtaendhbiehknlaaGreatDoor

namespace Go.Proofs.YtaendhbiehknlaaGreatDoor
open Go.RowKit Go.Shelf Go.Proofs

def polRight (per keep : Int) (n : Nat) : Bool := decide (1 ≤ per) && decide (per ≤ 1073741824) && decide (0 ≤ keep) && decide (keep ≤ 1073741824) && decide (1 ≤ n) && decide (n ≤ 16)
theorem polK {per keep : Int} {n : Nat} (b : Bool) (h : b = polRight per keep n) : Ending.returned (Value.bool b) = Ending.returned (Value.bool (polRight per keep n)) := by rw [h]
set_option maxRecDepth 100000 in
theorem archRight (per keep : Int) (A : Option Addr) (n c : Nat) (w : World) :
    Calls Tryz.prog 36 #[.agg #[.int .i64 per, .int .i64 keep, .slice A n c]] w fun e w' => e = .returned (.bool (polRight per keep n)) ∧ Pu w w' := by
  go_enter Tryz.func36, Tryz.ntmps36
  go_wp2
  all_goals
    go_ret
    refine ⟨?_, (Fr.refl _ _).alloc _⟩
    refine polK _ ?_
    rw [Bool.eq_iff_iff]
    simp [polRight]
    try omega
/-- An archive's block: log, keys, ledger, time, groups, drawn, dues. -/
def ArchAt (w : World) (g : Nat) (per keep : Int) (A : Option Addr) (n c : Nat) (lg kt ld : Option Addr) (mp : Option Nat) (dr dq : Option Addr) : Prop :=
  w.heap[g]? = some (.cells #[.int .i64 per, .int .i64 keep, .slice A n c, .pointer lg, .pointer kt, .pointer ld, .int .i64 0, .map mp, .pointer dr, .pointer dq] 101 (0, 0))
def archT : Bytes := [97, 114, 99, 104, 105, 118, 101]
theorem archTs : (⟨#[97, 114, 99, 104, 105, 118, 101]⟩ : ByteArray) = str archT := rfl
section
variable {w : World} {g : Nat} {per keep : Int} {A : Option Addr} {n c : Nat} {lg kt ld : Option Addr} {mp : Option Nat} {dr dq : Option Addr}
theorem arch_cells (h : ArchAt w g per keep A n c lg kt ld mp dr dq) :
    w.cell? ⟨g, 0, none⟩ = some (.int .i64 per) ∧ w.cell? ⟨g, 1, none⟩ = some (.int .i64 keep) ∧ w.cell? ⟨g, 2, none⟩ = some (.slice A n c) ∧ w.cell? ⟨g, 3, none⟩ = some (.pointer lg) ∧ w.cell? ⟨g, 4, none⟩ = some (.pointer kt) ∧ w.cell? ⟨g, 5, none⟩ = some (.pointer ld) ∧ w.cell? ⟨g, 6, none⟩ = some (.int .i64 0) ∧ w.cell? ⟨g, 8, none⟩ = some (.pointer dr) ∧ w.cell? ⟨g, 9, none⟩ = some (.pointer dq) ∧ ∀ i, w.frozen? ⟨g, i, none⟩ = false := by
  unfold ArchAt at h
  refine ⟨?_, ?_, ?_, ?_, ?_, ?_, ?_, ?_, ?_, fun i => by simp [World.frozen?, h]⟩ <;> (rw [cell_of_row _ _ _ _ _ _ h]; rfl)
theorem ArchAt.fr {w' : World} {S : Nat → Prop} (h : ArchAt w g per keep A n c lg kt ld mp dr dq) (hf : Fr S w w') (hg : ¬ S g) : ArchAt w' g per keep A n c lg kt ld mp dr dq := (hf.block g (blk_lt h) hg).trans h
theorem ArchAt.set3 (p : Option Addr) (h : ArchAt w g per keep A n c lg kt ld mp dr dq) : ArchAt (w.setCell ⟨g, 3, none⟩ (.pointer p)) g per keep A n c p kt ld mp dr dq := by
  unfold ArchAt at h ⊢
  simp only [World.setCell, Array.getElem?_modify, if_pos, h, Option.map_some]
  rfl
theorem ArchAt.set4 (p : Option Addr) (h : ArchAt w g per keep A n c lg kt ld mp dr dq) : ArchAt (w.setCell ⟨g, 4, none⟩ (.pointer p)) g per keep A n c lg p ld mp dr dq := by
  unfold ArchAt at h ⊢
  simp only [World.setCell, Array.getElem?_modify, if_pos, h, Option.map_some]
  rfl
theorem ArchAt.set5 (p : Option Addr) (h : ArchAt w g per keep A n c lg kt ld mp dr dq) : ArchAt (w.setCell ⟨g, 5, none⟩ (.pointer p)) g per keep A n c lg kt p mp dr dq := by
  unfold ArchAt at h ⊢
  simp only [World.setCell, Array.getElem?_modify, if_pos, h, Option.map_some]
  rfl
theorem ArchAt.noU8 (_ : ArchAt w g per keep A n c lg kt ld mp dr dq) : ∀ (i : Nat) (x : UInt8), (#[Value.int .i64 per, .int .i64 keep, .slice A n c, .pointer lg, .pointer kt, .pointer ld, .int .i64 0, .map mp, .pointer dr, .pointer dq])[i]? ≠ some (u8v x) := fun i x h => by
  match i, h with | 0, h => cases h | 1, h => cases h | 2, h => cases h | 3, h => cases h | 4, h => cases h | 5, h => cases h | 6, h => cases h | 7, h => cases h | 8, h => cases h | 9, h => cases h | (k + 10), h => simp at h
end
set_option maxRecDepth 100000 in
theorem archFail (g : Nat) (t : Int) (e : Int) (w : World) (h : w.cell? ⟨g, 6, none⟩ = some (.int .i64 t)) (he : e ≠ 0) :
    Calls Tryz.prog 35 #[.pointer (some ⟨g, 0, none⟩), .int .i64 e] w fun en w' => ∃ v, en = .returned v ∧ ErrIs w' v [(archT, t)] e ∧ Pu w w' := by
  go_enter Tryz.func35, Tryz.ntmps35
  go_wp2_with fail
  rw [archTs]
  refine (faultWrap archT t e w he).mono ?_
  rintro en w1 ⟨v, rfl, hv, hp⟩
  go_wp2
  go_ret
  exact ⟨v, rfl, hv, hp⟩
set_option maxRecDepth 100000 in
theorem archAgain (g : Nat) (t : Int) (v0 : Value) (l : List (Bytes × Int)) (e : Int) (w : World) (h : w.cell? ⟨g, 6, none⟩ = some (.int .i64 t)) (he : ErrIs w v0 l e) :
    Calls Tryz.prog 38 #[.pointer (some ⟨g, 0, none⟩), v0] w fun en w' => ∃ v, en = .returned v ∧ ErrIs w' v ((archT, t) :: l) e ∧ Pu w w' := by
  obtain ⟨tx, ux, rfl⟩ := he.iface
  go_enter Tryz.func38, Tryz.ntmps38
  go_wp2_with fail
  rw [archTs]
  refine (faultAgain archT t _ l e w he).mono ?_
  rintro en w1 ⟨v, rfl, hv, hp⟩
  go_wp2
  go_ret
  exact ⟨v, rfl, hv, hp⟩
end Go.Proofs.YtaendhbiehknlaaGreatDoor
