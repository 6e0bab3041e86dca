/- What is proved here, of the given program: Octets and their sum (crc.With). -/
import Derived.Test.YtaendhbiehknlaaGreatDoorU15
import Derived.Test.YtaendhbiehknlaaGreatDoorU12
set_option linter.unusedVariables false
set_option linter.unusedSimpArgs false
set_option linter.constructorNameAsVariable false
namespace Go.Proofs.YtaendhbiehknlaaGreatDoor
open Go.RowKit Go.Shelf Go.Proofs

theorem pen_crc (l : Bytes) : (Pen.new.raw l).small (crcOf l : Nat) 4 = ⟨crcWith l, false⟩ := by
  have := crcOf_lt l
  unfold Pen.small
  rw [if_pos (by omega)]
  simp [Pen.num, Pen.raw, Pen.new, crcWith]
theorem pen_raw_new (l : Bytes) : (Pen.new.raw l) = ⟨l, false⟩ := by simp [Pen.raw, Pen.new]
theorem crcWithW (v : Value) (l : Bytes) (S : Nat → Prop) (w : World) (hv : Bs S w v l) (hl : l.length ≤ 1099511627776) :
    Calls Tryz.prog 130 #[v] w fun e w' => ∃ v', e = .returned v' ∧ w'.ownsRow w.heap.size 5 1 v' (crcWith l).length (u8s (crcWith l)) ∧ Pu w w' := by
  obtain ⟨A, c, rfl, hlc, hm⟩ := hv.shape
  have Hv := Lib.hid hv
  clear hv
  go_enter Tryz.func130, Tryz.ntmps130
  go_wp2_with fail
  refine (penNew w).mono ?_
  rintro e w1 ⟨rfl, hp1, -⟩
  have Hp1 := Lib.hid hp1
  clear hp1
  go_wp2_with fail
  refine (penRaw w w.heap.size Pen.new _ l S w1 Hp1.out (Hv.out.pu Hp1.out.2.1) (by simp [Pen.new]; omega)).mono ?_
  rintro e w2 ⟨rfl, hp2, -⟩
  have Hp2 := Lib.hid hp2
  clear hp2
  go_wp2_with fail
  have hb := bss_new (S := Tr) (w := w2) (t := 23) (vs := [.slice A l.length c]) (ls := [l]) rfl (by simp) (fun i v l hv hl => by
    match i with
    | 0 => cases hv; cases hl; exact (Hv.out.pu Hp2.out.2.1).tr
    | i + 1 => simp at hv)
  refine (crcSum _ [l] _ _ hb).mono ?_
  rintro e w3 ⟨rfl, rfl⟩
  rw [show [l].flatten = l by simp]
  have hc := crcOf_lt l
  have hp3 := Hp2.out.pu ((Fr.refl No w2).alloc (.cells #[.slice A l.length c] 23))
  have Hp3 := Lib.hid hp3
  clear hb hp3
  go_wp2_with fail
  refine (penU32 w w.heap.size _ _ _ Hp3.out (by rw [pen_raw_new]; simp; omega) (by omega)).mono ?_
  rintro e w4 ⟨rfl, hp4, -⟩
  rw [pen_crc] at hp4
  have Hp4 := Lib.hid hp4
  clear hp4
  go_wp2_with fail
  refine (penBytes w w.heap.size _ w4 Hp4.out (by simp [crcWith_length]; omega)).mono ?_
  rintro e w5 ⟨v5, rfl, ho, hp⟩
  simp only [Bool.false_eq_true, if_false] at ho
  obtain ⟨A5, c5, rfl⟩ := own_shape ho
  have Ho := Lib.hid (own_base (base' := w.heap.size) ho Hp4.out.2.1.size)
  have Hp := Lib.hid (Hp4.out.2.1.pu hp)
  clear ho hp
  go_wp2
  go_ret
  exact ⟨_, rfl, Ho.out, Hp.out⟩
end Go.Proofs.YtaendhbiehknlaaGreatDoor
