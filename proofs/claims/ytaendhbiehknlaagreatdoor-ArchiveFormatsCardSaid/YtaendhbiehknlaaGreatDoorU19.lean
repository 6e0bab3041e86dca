/- What is proved here, of the given program: The disk: what a call's writes come to. Superblocks: Right, Octets, Sectors. -/
import Derived.Test.YtaendhbiehknlaaGreatDoorU18
import Derived.Lib.SlBytesConst
set_option linter.unusedVariables false
set_option linter.unusedSimpArgs false
set_option linter.constructorNameAsVariable false
namespace Go.Proofs.YtaendhbiehknlaaGreatDoor
open Go.RowKit Go.Shelf Go.Proofs

theorem partsOf_ok (a : Nat) (l : Bytes) (m n : Nat) (hl : l.length = m * 128) (h : (a + m) * 128 ≤ n) : ∀ j, j ≤ m → QOk n (partsOf a l j) := by
  intro j
  induction j with
  | zero => intro _ x hx; simp [partsOf] at hx
  | succ j ih =>
    intro hj x hx
    rw [partsOf, List.mem_append] at hx
    rcases hx with hx | hx
    · exact ih (by omega) x hx
    · obtain rfl : x = ((a : Int) + j, sect l j) := by simpa using hx
      refine ⟨by show (0 : Int) ≤ (a : Int) + j; omega, by show (sect l j).length = 128; rw [sect, List.length_take, List.length_drop]; omega, ?_⟩
      show ((a : Int) + j).toNat * 128 + 128 ≤ n
      rw [show ((a : Int) + j).toNat = a + j by omega]
      have : (a + j) * 128 + 128 ≤ (a + m) * 128 := by omega
      omega
/-- All writes of one call, laid: the octets as a whole. -/
theorem lay_parts (img l : Bytes) (a m : Nat) (hl : l.length = m * 128) (h : (a + m) * 128 ≤ img.length) : lay img (partsOf a l m) = patch img (a * 128) l := by
  suffices hh : ∀ j, j ≤ m → lay img (partsOf a l j) = img.take (a * 128) ++ l.take (j * 128) ++ img.drop (a * 128 + j * 128) by
    rw [hh m (Nat.le_refl _), List.take_of_length_le (show l.length ≤ m * 128 by omega), patch, hl]
  intro j
  induction j with
  | zero => intro _; simp [partsOf, lay]
  | succ j ih =>
    intro hj
    rw [partsOf, lay_snoc, ih (by omega)]
    show patch _ (((a : Int) + j).toNat * 128) (sect l j) = _
    rw [show ((a : Int) + j).toNat = a + j by omega]
    have hs : (sect l j).length = 128 := by rw [sect, List.length_take, List.length_drop]; omega
    have h1 : (img.take (a * 128) ++ l.take (j * 128)).length = (a + j) * 128 := by
      rw [List.length_append, List.length_take, List.length_take]; omega
    unfold patch
    rw [hs, List.take_left' h1, List.drop_append, h1, List.drop_of_length_le (by omega : (img.take (a * 128) ++ l.take (j * 128)).length ≤ (a + j) * 128 + 128), List.nil_append, List.drop_drop]
    have h2 : l.take ((j + 1) * 128) = l.take (j * 128) ++ sect l j := by
      rw [show (j + 1) * 128 = j * 128 + 128 by omega, List.take_add]; rfl
    rw [h2]
    simp only [List.append_assoc]
    congr 4
    omega
end Go.Proofs.YtaendhbiehknlaaGreatDoor

namespace Go.Proofs.YtaendhbiehknlaaGreatDoor
open Go.RowKit Go.Shelf Go.Proofs

structure Sup where
  (gen boot slots segs size : Int)
def Sup.v (s : Sup) : Value := .agg #[.int .i64 s.gen, .int .i64 s.boot, .int .i64 s.slots, .int .i64 s.segs, .int .i64 s.size]
def Sup.cells (s : Sup) : Array Value := #[.int .i64 s.gen, .int .i64 s.boot, .int .i64 s.slots, .int .i64 s.segs, .int .i64 s.size]
def withinB (n a b : Int) : Bool := decide (a ≤ n) && decide (n ≤ b)
theorem withinB_iff (n a b : Int) : withinB n a b = true ↔ a ≤ n ∧ n ≤ b := by simp [withinB]
def Sup.right (s : Sup) : Bool := withinB s.gen 1 1099511627776 && (withinB s.boot 0 1099511627776 && (withinB s.slots 1 64 && (withinB s.segs 1 256 && withinB s.size 2 512)))
theorem Sup.right_iff (s : Sup) : s.right = true ↔ (1 ≤ s.gen ∧ s.gen ≤ 1099511627776) ∧ (0 ≤ s.boot ∧ s.boot ≤ 1099511627776) ∧ (1 ≤ s.slots ∧ s.slots ≤ 64) ∧ (1 ≤ s.segs ∧ s.segs ≤ 256) ∧ (2 ≤ s.size ∧ s.size ≤ 512) := by simp [Sup.right, withinB_iff]
theorem superWithin (n a b : Int) (w : World) : Calls Tryz.prog 73 #[.int .i64 n, .int .i64 a, .int .i64 b] w fun e w' => e = .returned (.bool (withinB n a b)) ∧ w = w' := by
  by_cases h : a ≤ n
  · have hb : withinB n a b = decide (n ≤ b) := by simp [withinB, h]
    have Hb := Lib.hid hb
    clear hb
    go_enter Tryz.func73, Tryz.ntmps73
    go_wp2
    go_ret
    exact ⟨by rw [Hb.out]; rfl, rfl⟩
  · have hb : withinB n a b = false := by simp [withinB, h]
    have Hb := Lib.hid hb
    clear hb
    go_enter Tryz.func73, Tryz.ntmps73
    go_wp2
    go_ret
    exact ⟨by rw [Hb.out]; rfl, rfl⟩
theorem superRight (s : Sup) (w : World) : Calls Tryz.prog 23 #[s.v] w fun e w' => e = .returned (.bool s.right) ∧ Pu w w' := by
  obtain ⟨gen, boot, slots, segs, size⟩ := s
  have fin : ∀ b : Bool, b = Sup.right ⟨gen, boot, slots, segs, size⟩ → Hid (b = Sup.right ⟨gen, boot, slots, segs, size⟩) := fun b h => h
  unfold Sup.v
  cases h1 : withinB gen 1 1099511627776
  · have H := fin false (by simp [Sup.right, h1])
    clear fin
    go_enter Tryz.func23, Tryz.ntmps23
    go_wp2_with (go_at_call 73; refine (superWithin _ _ _ _).mono ?_; rintro e w' ⟨rfl, rfl⟩)
    go_ret
    exact ⟨by rw [← H.out]; rfl, (Fr.refl _ _).alloc _⟩
  · cases h2 : withinB boot 0 1099511627776
    · have H := fin false (by simp [Sup.right, h1, h2])
      clear fin
      go_enter Tryz.func23, Tryz.ntmps23
      go_wp2_with (go_at_call 73; refine (superWithin _ _ _ _).mono ?_; rintro e w' ⟨rfl, rfl⟩)
      go_ret
      exact ⟨by rw [← H.out]; rfl, (Fr.refl _ _).alloc _⟩
    · cases h3 : withinB slots 1 64
      · have H := fin false (by simp [Sup.right, h1, h2, h3])
        clear fin
        go_enter Tryz.func23, Tryz.ntmps23
        go_wp2_with (go_at_call 73; refine (superWithin _ _ _ _).mono ?_; rintro e w' ⟨rfl, rfl⟩)
        go_ret
        exact ⟨by rw [← H.out]; rfl, (Fr.refl _ _).alloc _⟩
      · cases h4 : withinB segs 1 256
        · have H := fin false (by simp [Sup.right, h1, h2, h3, h4])
          clear fin
          go_enter Tryz.func23, Tryz.ntmps23
          go_wp2_with (go_at_call 73; refine (superWithin _ _ _ _).mono ?_; rintro e w' ⟨rfl, rfl⟩)
          go_ret
          exact ⟨by rw [← H.out]; rfl, (Fr.refl _ _).alloc _⟩
        · have H := fin (withinB size 2 512) (by simp [Sup.right, h1, h2, h3, h4])
          clear fin
          go_enter Tryz.func23, Tryz.ntmps23
          go_wp2_with (go_at_call 73; refine (superWithin _ _ _ _).mono ?_; rintro e w' ⟨rfl, rfl⟩)
          go_ret
          exact ⟨by rw [← H.out]; rfl, (Fr.refl _ _).alloc _⟩
def engs : Bytes := [101, 110, 103, 115]
def Sup.raw (s : Sup) : Bytes := engs ++ number s.gen.toNat 8 ++ number s.boot.toNat 8 ++ number s.slots.toNat 4 ++ number s.segs.toNat 4 ++ number s.size.toNat 4
theorem Sup.raw_length (s : Sup) : s.raw.length = 32 := by simp [Sup.raw, engs, number_length]
def sector (l : Bytes) : Bytes := patch (zeros 128) 0 l
theorem sector_length (l : Bytes) (h : l.length ≤ 128) : (sector l).length = 128 := by rw [sector, patch_length _ _ _ (by rw [zeros_length]; omega), zeros_length]
def Sup.bytes (s : Sup) : Bytes := sector (crcWith s.raw)
theorem Sup.bytes_length (s : Sup) : s.bytes.length = 128 := sector_length _ (by rw [crcWith_length, s.raw_length]; omega)
set_option maxRecDepth 100000 in
set_option maxHeartbeats 1000000 in
theorem superOctets (s : Sup) (w : World) (h : s.right = true) : Calls Tryz.prog 76 #[s.v] w fun e w' => ∃ v, e = .returned (.tuple #[v, .bool true]) ∧ w'.ownsRow w.heap.size 5 1 v 128 (u8s s.bytes) ∧ Pu w w' := by
  have hr := s.right_iff.1 h
  have C := Lib.hid (fun w => superRight s w)
  rw [h] at C
  have hraw : s.raw = engs ++ number s.gen.toNat 8 ++ number s.boot.toNat 8 ++ number s.slots.toNat 4 ++ number s.segs.toNat 4 ++ number s.size.toNat 4 := rfl
  have Hraw := Lib.hid hraw
  have hsv : s.v = .agg #[.int .i64 s.gen, .int .i64 s.boot, .int .i64 s.slots, .int .i64 s.segs, .int .i64 s.size] := rfl
  rw [hsv]
  obtain ⟨gen, boot, slots, segs, size⟩ := s
  obtain ⟨⟨g1, g2⟩, ⟨b1, b2⟩, ⟨s1, s2⟩, ⟨n1, n2⟩, z1, z2⟩ := hr
  obtain ⟨gen, rfl⟩ := Int.eq_ofNat_of_zero_le (show 0 ≤ gen by have : 1 ≤ gen := g1; omega)
  obtain ⟨boot, rfl⟩ := Int.eq_ofNat_of_zero_le b1
  obtain ⟨slots, rfl⟩ := Int.eq_ofNat_of_zero_le (show 0 ≤ slots by have : 1 ≤ slots := s1; omega)
  obtain ⟨segs, rfl⟩ := Int.eq_ofNat_of_zero_le (show 0 ≤ segs by have : 1 ≤ segs := n1; omega)
  obtain ⟨size, rfl⟩ := Int.eq_ofNat_of_zero_le (show 0 ≤ size by have : 2 ≤ size := z1; omega)
  simp only [Int.toNat_natCast] at Hraw
  clear h hraw hsv
  have kc := fun (w : World) (C : Array Value) (n c : Nat) => Lib.run_convert_bytes_const (P := Tryz.prog) w 23 5 C n c Tryz.underlying23 Tryz.underlying5
  go_enter Tryz.func76, Tryz.ntmps76
  go_wp2_with fail
  refine (C.out _).mono ?_
  rintro e w1 ⟨rfl, hp1⟩
  have hb1 : w1.heap[w.heap.size]? = some (.cells #[.int .i64 (gen : Nat), .int .i64 (boot : Nat), .int .i64 (slots : Nat), .int .i64 (segs : Nat), .int .i64 (size : Nat)] 82 (0, 0)) := (hp1.block _ (by simp) (fun h => h)).trans (heap_alloc_new _ _)
  have hp1 : Pu w w1 := ((Fr.refl _ _).alloc _ : Pu w _).pu hp1
  have hlt1 := blk_lt hb1
  have Hb1 := Lib.hid hb1
  have Hp1 := Lib.hid hp1
  have Box := Lib.hid (fun (W : World) (h : Pu w1 W) => (show W.cell? ⟨w.heap.size, 0, none⟩ = some (.int .i64 (gen : Nat)) ∧ W.cell? ⟨w.heap.size, 1, none⟩ = some (.int .i64 (boot : Nat)) ∧ W.cell? ⟨w.heap.size, 2, none⟩ = some (.int .i64 (slots : Nat)) ∧ W.cell? ⟨w.heap.size, 3, none⟩ = some (.int .i64 (segs : Nat)) ∧ W.cell? ⟨w.heap.size, 4, none⟩ = some (.int .i64 (size : Nat)) from by
    have h2 := (h.block _ hlt1 (fun h => h)).trans Hb1.out
    refine ⟨?_, ?_, ?_, ?_, ?_⟩ <;> (rw [cell_of_row _ _ _ _ _ _ h2]; rfl)))
  clear hb1 hp1 C
  go_wp2_with fail
  refine (penNew w1).mono ?_
  rintro e w2 ⟨rfl, hp2, -⟩
  have Hp2 := Lib.hid hp2
  clear hp2
  have hbm : Bs (fun k => k = w2.heap.size) (w2.alloc (.cells #[.int .u8 101, .int .u8 110, .int .u8 103, .int .u8 115] 5 (4, 5))) (.slice (some ⟨w2.heap.size, 0, none⟩) 4 4) engs := bs_row w2 _ _ _ engs 4 (by decide) (by decide) (fun j u hu => by
    match j with
    | 0 => exact hu
    | 1 => exact hu
    | 2 => exact hu
    | 3 => exact hu
    | j + 4 => simp [u8s, engs] at hu)
  have Hbm := Lib.hid hbm
  clear hbm
  go_wp2_with fail
  refine (penRaw w1 w1.heap.size Pen.new _ engs _ _ (Hp2.out.pu ((Fr.refl _ _).alloc _)) Hbm.out (by decide)).mono ?_
  rintro e w3 ⟨rfl, hp3, -⟩
  have e3 : Pen.new.raw engs = ⟨engs, false⟩ := rfl
  rw [e3] at hp3
  have Hp3 := Lib.hid hp3
  obtain ⟨c0, c1, -, -, -⟩ := Box.out w3 hp3.2.1
  clear hp3 e3 kc c1
  go_wp2_with fail
  refine (penU64 w1 w1.heap.size _ gen w3 Hp3.out (by simp [engs])).mono ?_
  rintro e w4 ⟨rfl, hp4, -⟩
  have e4 : (Pen.mk engs false).num gen 8 = ⟨engs ++ number gen 8, false⟩ := rfl
  rw [e4] at hp4
  have Hp4 := Lib.hid hp4
  obtain ⟨-, c1, -, -, -⟩ := Box.out w4 hp4.2.1
  clear hp4 e4 c0
  go_wp2_with fail
  refine (penU64 w1 w1.heap.size _ boot w4 Hp4.out (by simp [engs, number_length])).mono ?_
  rintro e w5 ⟨rfl, hp5, -⟩
  have e5 : (Pen.mk (engs ++ number gen 8) false).num boot 8 = ⟨engs ++ number gen 8 ++ number boot 8, false⟩ := rfl
  rw [e5] at hp5
  have Hp5 := Lib.hid hp5
  obtain ⟨-, -, c2, c3, c4⟩ := Box.out w5 hp5.2.1
  have hlt5 := hp5.lt
  clear hp5 e5 c1
  obtain ⟨nums, hnums⟩ : ∃ nums : List Nat, nums = [slots, segs, size] := ⟨_, rfl⟩
  obtain ⟨penTo, hpt⟩ : ∃ penTo : Nat → Pen, penTo = fun j => ⟨engs ++ number gen 8 ++ number boot 8 ++ (nums.take j).flatMap (fun x => number x 4), false⟩ := ⟨_, rfl⟩
  have hp6 : PenIn w1 (w5.alloc (.cells #[.int .i64 (slots : Nat), .int .i64 (segs : Nat), .int .i64 (size : Nat)] 3)) w1.heap.size (penTo 0) := by
    rw [hpt]; simpa using Hp5.out.pu ((Fr.refl _ _).alloc _)
  have hb6 : (w5.alloc (.cells #[.int .i64 (slots : Nat), .int .i64 (segs : Nat), .int .i64 (size : Nat)] 3)).heap[w5.heap.size]? = some (.cells #[.int .i64 (slots : Nat), .int .i64 (segs : Nat), .int .i64 (size : Nat)] 3 (0, 0)) := heap_alloc_new _ _
  have Hp6 := Lib.hid hp6
  have Hb6 := Lib.hid hb6
  have Hnums := Lib.hid hnums
  have Hpt := Lib.hid hpt
  have Bd := Lib.hid (show slots ≤ 64 ∧ segs ≤ 256 ∧ size ≤ 512 from ⟨by omega, by omega, by omega⟩)
  clear hp6 hb6 hnums hpt g1 g2 b1 b2 s1 s2 n1 n2 z1 z2
  go_wp2
  clear c2 c3 c4
  go_loopw [6, 36] (fun _ i wr => ∃ j : Nat, j ≤ 3 ∧ i = .int .i64 j ∧ PenIn w1 wr w1.heap.size (penTo j) ∧ wr.heap[w5.heap.size]? = some (.cells #[.int .i64 (slots : Nat), .int .i64 (segs : Nat), .int .i64 (size : Nat)] 3 (0, 0))) (fun _ i _ => 3 - (intOf i).toNat)
  case atStart => exact ⟨0, by omega, rfl, Hp6.out, Hb6.out⟩
  case round =>
    obtain ⟨j, hj, rfl, hp, hb⟩ := hrel
    have Hpx := Lib.hid hp
    have Hbx := Lib.hid hb
    clear hp hb Hp6 Hb6
    by_cases hlt : j < 3
    · obtain ⟨x, hx⟩ : ∃ x, nums[j]? = some x := ⟨_, List.getElem?_eq_getElem (by rw [Hnums.out]; exact hlt)⟩
      have hxb : x ≤ 4294967295 := by
        rw [Hnums.out] at hx
        have := Bd.out
        match j with
        | 0 => simp at hx; omega
        | 1 => simp at hx; omega
        | 2 => simp at hx; omega
        | j + 3 => omega
      have hc : wr.cell? ⟨w5.heap.size, j, none⟩ = some (.int .i64 (x : Nat)) := by
        rw [cell_of_row _ _ _ _ _ _ Hbx.out]
        rw [Hnums.out] at hx
        match j with
        | 0 => simp at hx; rw [← hx]; rfl
        | 1 => simp at hx; rw [← hx]; rfl
        | 2 => simp at hx; rw [← hx]; rfl
        | j + 3 => omega
      have hnx : (penTo j).small (x : Int) 4 = penTo (j + 1) := by
        rw [Hpt.out]
        dsimp only
        rw [List.take_add_one, hx, Pen.small, if_pos (by omega)]
        simp [Pen.num, Pen.raw]
      have hln : (penTo j).b.length ≤ 17592186044416 := by
        rw [Hpt.out]
        dsimp only
        have : ((nums.take j).flatMap fun x => number x 4).length = 4 * (nums.take j).length := by
          generalize nums.take j = q
          induction q with
          | nil => rfl
          | cons a r ih => simp [number_length, ih]; omega
        simp only [List.length_append, number_length, this, List.length_take]
        simp [engs]; omega
      have Hnx := Lib.hid hnx
      have Hln := Lib.hid hln
      have Hxb := Lib.hid hxb
      clear hx hnx hln hxb
      have hltI : ((j : Nat) : Int) < 3 := by omega
      go_wp2_with fail
      refine (penU32 w1 w1.heap.size _ x wr Hpx.out Hln.out (by have := Hxb.out; omega)).mono ?_
      rintro e w6 ⟨rfl, hp7, hk7⟩
      rw [Hnx.out] at hp7
      have hb7 := hk7.keep _ _ _ _ Hbx.out (by decide) (by omega)
      have Hp7 := Lib.hid hp7
      have Hb7 := Lib.hid hb7
      clear hp7 hk7 hb7
      go_wp2
      exact ⟨⟨j + 1, by omega, by go_num, Hp7.out, Hb7.out⟩, by simp [intOf]; omega⟩
    · obtain rfl : j = 3 := by omega
      have hp3 : penTo 3 = ⟨Sup.raw ⟨gen, boot, slots, segs, size⟩, false⟩ := by
        rw [Hpt.out, Hraw.out]
        dsimp only
        rw [Hnums.out]
        simp
      rw [hp3] at Hpx
      clear hp3 hlt
      have hltI : ¬ ((3 : Nat) : Int) < 3 := by omega
      go_wp2_with fail
      refine (penBytes w1 w1.heap.size _ wr Hpx.out (by rw [Sup.raw_length]; omega)).mono ?_
      rintro e w7 ⟨v7, rfl, ho7, hp7⟩
      simp only [Bool.false_eq_true, if_false] at ho7
      obtain ⟨A7, c7, rfl⟩ := own_shape ho7
      have Ho7 := Lib.hid ho7
      have Hp7 := Lib.hid (Hpx.out.2.1.pu hp7)
      clear ho7 hp7
      obtain ⟨w8, hrun, ho8, hp8⟩ := run_zeros w7 128 (by omega)
      have hrun : (Instr.makeSlice 23 (.int .i64 128) (.int .i64 128)).run Tryz.prog w7 = .ok (.slice (some ⟨w7.heap.size, 0, none⟩) 128 128) w8 := hrun
      have Ho8 := Lib.hid ho8
      have Hp8 := Lib.hid hp8
      clear ho8 hp8
      go_wp2_with fail
      refine (crcWithW _ (Sup.raw ⟨gen, boot, slots, segs, size⟩) _ w8 ((Bs.own Ho7.out).pu Hp8.out) (by rw [Sup.raw_length]; omega)).mono ?_
      rintro e w9 ⟨v9, rfl, ho9, hp9⟩
      obtain ⟨A9, c9, rfl⟩ := own_shape ho9
      have hcl : (crcWith (Sup.raw ⟨gen, boot, slots, segs, size⟩)).length = 36 := by rw [crcWith_length, Sup.raw_length]
      have h9 := own_copy w9 w7.heap.size 128 128 w7.heap.size 0 128 128 c9 A9 _ (zeros 128) (crcWith (Sup.raw ⟨gen, boot, slots, segs, size⟩)) 3 (own_pu Ho8.out hp9) (Bs.own ho9) (by rw [hcl]; omega) (by rw [hcl]; omega)
      rw [hcl] at h9
      obtain ⟨w10, hrun2, ho10, hf10⟩ := h9
      rw [hcl]
      have hsz : w.heap.size ≤ w7.heap.size := Nat.le_trans Hp1.out.size Hp7.out.size
      have Ho10 := Lib.hid (own_base (base' := w.heap.size) ho10 hsz)
      have Hp10 := Lib.hid ((((Hp1.out.pu Hp7.out).pu Hp8.out).pu hp9).trans hf10 (fun m hm e => by have e : m = w7.heap.size := e; omega))
      clear ho9 hp9 ho10 hf10 hcl hsz
      go_wp2
      go_ret2
      exact ⟨_, rfl, Ho10.out, Hp10.out⟩
theorem superOctetsNo (s : Sup) (w : World) (h : s.right = false) : Calls Tryz.prog 76 #[s.v] w fun e w' => e = .returned (.tuple #[.slice none 0 0, .bool false]) ∧ Pu w w' := by
  have C := Lib.hid (fun w => superRight s w)
  rw [h] at C
  have hsv : s.v = .agg #[.int .i64 s.gen, .int .i64 s.boot, .int .i64 s.slots, .int .i64 s.segs, .int .i64 s.size] := rfl
  rw [hsv] at C ⊢
  obtain ⟨gen, boot, slots, segs, size⟩ := s
  clear h hsv
  go_enter Tryz.func76, Tryz.ntmps76
  go_wp2_with fail
  refine (C.out _).mono ?_
  rintro e w1 ⟨rfl, hp1⟩
  have Hp1 := Lib.hid (((Fr.refl _ _).alloc _ : Pu w _).pu hp1)
  clear hp1
  go_wp2
  go_ret2
  exact ⟨rfl, Hp1.out⟩
def Sup.sectors (s : Sup) : Int := 2 + 2 * s.slots + s.segs * s.size
theorem superSectors (s : Sup) (w : World) (h : s.right = true) : Calls Tryz.prog 25 #[s.v] w fun e w' => e = .returned (.int .i64 s.sectors) ∧ Pu w w' := by
  have C := Lib.hid (fun w => superRight s w)
  rw [h] at C
  have hr := s.right_iff.1 h
  have hsv : s.v = .agg #[.int .i64 s.gen, .int .i64 s.boot, .int .i64 s.slots, .int .i64 s.segs, .int .i64 s.size] := rfl
  rw [hsv] at C ⊢
  have hsc : s.sectors = 2 + 2 * s.slots + s.segs * s.size := rfl
  rw [hsc]
  obtain ⟨gen, boot, slots, segs, size⟩ := s
  obtain ⟨-, -, ⟨s1, s2⟩, ⟨n1, n2⟩, z1, z2⟩ := hr
  have hm : 0 ≤ segs * size ∧ segs * size ≤ 256 * 512 := ⟨Int.mul_nonneg (by have : 1 ≤ segs := n1; omega) (by have : 2 ≤ size := z1; omega), Int.mul_le_mul n2 z2 (by have : 2 ≤ size := z1; omega) (by omega)⟩
  dsimp only at *
  have hm1 := hm.1
  have hm2 := hm.2
  clear h hsv hsc hm
  go_enter Tryz.func25, Tryz.ntmps25
  go_wp2_with fail
  refine (C.out _).mono ?_
  rintro e w1 ⟨rfl, hp1⟩
  have hb1 : w1.heap[w.heap.size]? = some (.cells #[.int .i64 gen, .int .i64 boot, .int .i64 slots, .int .i64 segs, .int .i64 size] 82 (0, 0)) := (hp1.block _ (by simp) (fun h => h)).trans (heap_alloc_new _ _)
  have c2 : w1.cell? ⟨w.heap.size, 2, none⟩ = some (.int .i64 slots) := by rw [cell_of_row _ _ _ _ _ _ hb1]; rfl
  have c3 : w1.cell? ⟨w.heap.size, 3, none⟩ = some (.int .i64 segs) := by rw [cell_of_row _ _ _ _ _ _ hb1]; rfl
  have c4 : w1.cell? ⟨w.heap.size, 4, none⟩ = some (.int .i64 size) := by rw [cell_of_row _ _ _ _ _ _ hb1]; rfl
  have Hp1 := Lib.hid (((Fr.refl _ _).alloc _ : Pu w _).pu hp1)
  clear hp1 hb1
  go_wp2
  go_ret
  exact ⟨rfl, Hp1.out⟩
end Go.Proofs.YtaendhbiehknlaaGreatDoor
