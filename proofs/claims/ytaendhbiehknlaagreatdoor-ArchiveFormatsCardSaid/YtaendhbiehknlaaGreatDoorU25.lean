/- What is proved here, of the given program: Keys in slots: a sector of noughts has none. -/
import Derived.Test.YtaendhbiehknlaaGreatDoorU24
set_option linter.unusedVariables false
set_option linter.unusedSimpArgs false
set_option linter.constructorNameAsVariable false
namespace Go.Proofs.YtaendhbiehknlaaGreatDoor
open Go.RowKit Go.Shelf Go.Proofs

def engk : Bytes := [101, 110, 103, 107]
def keyRaw (bucket : Nat) (key : Bytes) : Bytes := engk ++ number bucket 8 ++ key
def keyBytes (bucket : Nat) (key : Bytes) : Bytes := sector (crcWith (keyRaw bucket key))
theorem keyRaw_length (bucket : Nat) (key : Bytes) : (keyRaw bucket key).length = 12 + key.length := by simp [keyRaw, engk, number_length]; omega
set_option maxRecDepth 100000 in
set_option maxHeartbeats 1000000 in
theorem keysOctets (bucket : Nat) (v : Value) (key : Bytes) (S : Nat → Prop) (w : World) (hk : bucket ≤ 1099511627776) (hv : Bs S w v key) (hl : key.length = 32) : Calls Tryz.prog 280 #[.int .i64 bucket, v] w fun e w' => ∃ v', e = .returned v' ∧ w'.ownsRow w.heap.size 5 1 v' 128 (u8s (keyBytes bucket key)) ∧ Pu w w' := by
  have kc := fun (w : World) (C : Array Value) (n c : Nat) => Lib.run_convert_bytes_const (P := Tryz.prog) w 23 5 C n c Tryz.underlying23 Tryz.underlying5
  have Hv := Lib.hid hv
  have Hl := Lib.hid hl
  clear hv hl
  go_enter Tryz.func280, Tryz.ntmps280
  go_wp2_with fail
  refine (penNew w).mono ?_
  rintro e w2 ⟨rfl, hp2, -⟩
  have Hp2 := Lib.hid hp2
  clear hp2
  have hbm : Bs (fun k => k = w2.heap.size) (w2.alloc (.cells #[.int .u8 101, .int .u8 110, .int .u8 103, .int .u8 107] 5 (4, 5))) (.slice (some ⟨w2.heap.size, 0, none⟩) 4 4) engk := bs_row w2 _ _ _ engk 4 (by decide) (by decide) (fun j u hu => by
    match j with
    | 0 => exact hu
    | 1 => exact hu
    | 2 => exact hu
    | 3 => exact hu
    | j + 4 => simp [u8s, engk] at hu)
  have Hbm := Lib.hid hbm
  clear hbm
  go_wp2_with fail
  refine (penRaw w w.heap.size Pen.new _ engk _ _ (Hp2.out.pu ((Fr.refl _ _).alloc _)) Hbm.out (by decide)).mono ?_
  rintro e w3 ⟨rfl, hp3, -⟩
  have e3 : Pen.new.raw engk = ⟨engk, false⟩ := rfl
  rw [e3] at hp3
  have Hp3 := Lib.hid hp3
  clear hp3 e3 kc
  go_wp2_with fail
  refine (penU64 w w.heap.size _ bucket w3 Hp3.out (by simp [engk])).mono ?_
  rintro e w4 ⟨rfl, hp4, -⟩
  have e4 : (Pen.mk engk false).num bucket 8 = ⟨engk ++ number bucket 8, false⟩ := rfl
  rw [e4] at hp4
  have Hp4 := Lib.hid hp4
  clear hp4 e4
  go_wp2_with fail
  refine (penRaw w w.heap.size _ v key S w4 Hp4.out (Hv.out.pu Hp4.out.2.1) (by simp [engk, number_length, Hl.out])).mono ?_
  rintro e w5 ⟨rfl, hp5, -⟩
  have e5 : (Pen.mk (engk ++ number bucket 8) false).raw key = ⟨keyRaw bucket key, false⟩ := rfl
  rw [e5] at hp5
  have Hp5 := Lib.hid hp5
  have hkl : (keyRaw bucket key).length = 44 := by rw [keyRaw_length, Hl.out]
  have Hkl := Lib.hid hkl
  clear hp5 e5 hkl hk
  go_wp2_with fail
  refine (penBytes w w.heap.size _ w5 Hp5.out (by rw [Hkl.out]; omega)).mono ?_
  rintro e w7 ⟨v7, rfl, ho7, hp7⟩
  simp only [Bool.false_eq_true, if_false] at ho7
  obtain ⟨A7, c7, rfl⟩ := own_shape ho7
  have Ho7 := Lib.hid ho7
  have Hp7 := Lib.hid (Hp5.out.2.1.pu hp7)
  clear ho7 hp7
  obtain ⟨w8, hrun, ho8, hp8⟩ := run_zeros w7 128 (by omega)
  have hrun : (Instr.makeSlice 23 (.int .i64 128) (.int .i64 128)).run Tryz.prog w7 = .ok (.slice (some ⟨w7.heap.size, 0, none⟩) 128 128) w8 := hrun
  have Ho8 := Lib.hid ho8
  have Hp8 := Lib.hid hp8
  clear ho8 hp8
  go_wp2_with fail
  refine (crcWithW _ (keyRaw bucket key) _ w8 ((Bs.own Ho7.out).pu Hp8.out) (by rw [Hkl.out]; omega)).mono ?_
  rintro e w9 ⟨v9, rfl, ho9, hp9⟩
  obtain ⟨A9, c9, rfl⟩ := own_shape ho9
  have hcl : (crcWith (keyRaw bucket key)).length = 48 := by rw [crcWith_length, Hkl.out]
  have h9 := own_copy w9 w7.heap.size 128 128 w7.heap.size 0 128 128 c9 A9 _ (zeros 128) (crcWith (keyRaw bucket key)) 3 (own_pu Ho8.out hp9) (Bs.own ho9) (by rw [hcl]; omega) (by rw [hcl]; omega)
  rw [hcl] at h9
  obtain ⟨w10, hrun2, ho10, hf10⟩ := h9
  rw [hcl]
  have Ho10 := Lib.hid (own_base (base' := w.heap.size) ho10 Hp7.out.size)
  have Hp10 := Lib.hid (((Hp7.out.pu Hp8.out).pu hp9).trans hf10 (fun m hm e => by have e : m = w7.heap.size := e; have := Hp7.out.size; omega))
  clear ho9 hp9 ho10 hf10 hcl
  go_wp2
  go_ret
  exact ⟨_, rfl, Ho10.out, Hp10.out⟩
theorem keysRightZero (v : Value) (key : Bytes) (S : Nat → Prop) (w : World) (hv : Bs S w v key) (hl : key.length = 32) : Calls Tryz.prog 279 #[.int .i64 0, v] w fun e w' => e = .returned (.bool true) ∧ w = w' := by
  obtain ⟨A, c, rfl, _, _⟩ := hv.shape
  rw [hl]
  clear hv hl
  go_enter Tryz.func279, Tryz.ntmps279
  go_wp2
  go_ret
  exact ⟨rfl, rfl⟩
theorem zeros_take (n k : Nat) : (zeros n).take k = zeros (min k n) := by simp [zeros, List.take_replicate]
theorem zeros_drop (n k : Nat) : (zeros n).drop k = zeros (n - k) := by simp [zeros]
theorem value_zeros (n : Nat) : value (zeros n) = 0 := by
  induction n with
  | zero => rfl
  | succ n ih =>
    have : zeros (n + 1) = zeros n ++ [0] := by rw [zeros, List.replicate_succ']; rfl
    rw [this, value_snoc, ih]; rfl
theorem patch0_head (c : UInt8) (r l : Bytes) : patch l 0 (c :: r) = c :: (r ++ l.drop (r.length + 1)) := by simp [patch]
theorem keyBytes_ne (bucket : Nat) (key : Bytes) : (keyBytes bucket key == zeros 128) = false := by
  rw [beq_eq_false_iff_ne]
  intro h
  have h1 : (keyBytes bucket key).head? = some 101 := rfl
  rw [h] at h1
  cases h1
set_option maxRecDepth 100000 in
set_option maxHeartbeats 1000000 in
theorem keysReadZero (v : Value) (S : Nat → Prop) (w : World) (hv : Bs S w v (zeros 128)) :
    Calls Tryz.prog 210 #[v] w fun e w' => e = .returned (.agg #[.bool false, .int .i64 0, .slice none 0 0]) ∧ Pu w w' := by
  have Hv := Lib.hid hv
  clear hv
  go_enter Tryz.func210, Tryz.ntmps210
  go_wp2_with fail
  have hp0 : Pu w (w.alloc (.cells #[.bool false, .int .i64 0, .slice none 0 0] 184)) := (Fr.refl _ _).alloc _
  have hb0 := heap_alloc_new w (.cells #[.bool false, .int .i64 0, .slice none 0 0] 184)
  generalize w.alloc (.cells #[.bool false, .int .i64 0, .slice none 0 0] 184) = w0 at *
  have Hp0 := Lib.hid hp0
  have Hb0 := Lib.hid hb0
  clear hp0 hb0
  refine (eyeOpen _ _ S w0 (Hv.out.pu Hp0.out) (by rw [zeros_length]; omega)).mono ?_
  rintro e w1 ⟨g, rfl, he1, hp1⟩
  have He1 := Lib.hid he1
  have Hp1 := Lib.hid hp1
  clear he1 hp1
  go_wp2_with fail
  refine (eyeRaw w0 g _ 4 w1 He1.out (by simp [zeros_length])).mono ?_
  rintro e w2 ⟨v2, rfl, ho2, he2, hf2⟩
  obtain ⟨A2, c2, rfl⟩ := own_shape ho2
  have Hf2 := Lib.hid (Fr.new Hp1.out hf2 He1.out.1)
  have He2 := Lib.hid (show EyeIn w0 w2 g ⟨zeros 124, 0⟩ by have := eye_next (zeros 128) 4 (by rw [zeros_length]; omega); rw [show ((4 : Nat) : Int) = 4 from rfl] at this; rw [this, zeros_drop] at he2; exact he2)
  clear ho2 he2 hf2
  go_wp2_with fail
  refine (eyeU64 w0 g _ w2 He2.out).mono ?_
  rintro e w3 ⟨rfl, he3, hf3⟩
  rw [eye_num _ 8 (by rw [zeros_length]; omega), zeros_drop] at he3
  rw [eye_num _ 8 (by rw [zeros_length]; omega), zeros_take, value_zeros]
  have Hf3 := Lib.hid (Fr.new Hf2.out hf3 He2.out.1)
  have He3 := Lib.hid (show EyeIn w0 w3 g ⟨zeros 116, 0⟩ from he3)
  clear he3 hf3
  go_wp2_with fail
  refine (eyeRaw w0 g _ 32 w3 He3.out (by simp [zeros_length])).mono ?_
  rintro e w4 ⟨v4, rfl, ho4, he4, hf4⟩
  have hz := eye_next (zeros 116) 32 (by rw [zeros_length]; omega)
  rw [show ((32 : Nat) : Int) = 32 from rfl] at hz
  rw [hz, zeros_take, zeros_length] at ho4
  have ho4 : w4.ownsRow w3.heap.size 5 1 v4 32 (u8s (zeros 32)) := ho4
  obtain ⟨A4, c4, rfl⟩ := own_shape ho4
  have Hf4 := Lib.hid (Fr.new Hf3.out hf4 He3.out.1)
  have Ho4 := Lib.hid ho4
  clear ho4 he4 hf4 hz
  go_wp2_with fail
  refine (keysRightZero _ (zeros 32) _ w4 (Bs.own Ho4.out) (zeros_length _)).mono ?_
  rintro e w' ⟨rfl, rfl⟩
  go_wp2_with fail
  refine (keysOctets 0 _ (zeros 32) _ w4 (by omega) (Bs.own Ho4.out) (zeros_length _)).mono ?_
  rintro e w5 ⟨v5, rfl, ho5, hp5⟩
  obtain ⟨A5, c5, rfl⟩ := own_shape ho5
  have Hp5 := Lib.hid (Hf4.out.pu hp5)
  have Ho5 := Lib.hid ho5
  clear ho5 hp5
  go_wp2_with fail
  refine (bytesEqual _ _ (keyBytes 0 (zeros 32)) (zeros 128) _ _ w5 (Bs.own Ho5.out) (Hv.out.pu (Hp0.out.pu Hp5.out))).mono ?_
  rintro e w' ⟨rfl, rfl⟩
  rw [keyBytes_ne]
  have Hbz := Lib.hid ((Hp5.out.block _ (blk_lt Hb0.out) (fun h => h)).trans Hb0.out)
  have z0 : w5.cell? ⟨w.heap.size, 0, none⟩ = some (.bool false) := by rw [cell_of_row _ _ _ _ _ _ Hbz.out]; rfl
  have z1 : w5.cell? ⟨w.heap.size, 1, none⟩ = some (.int .i64 0) := by rw [cell_of_row _ _ _ _ _ _ Hbz.out]; rfl
  have z2 : w5.cell? ⟨w.heap.size, 2, none⟩ = some (.slice none 0 0) := by rw [cell_of_row _ _ _ _ _ _ Hbz.out]; rfl
  have f0 : ∀ i, w5.frozen? ⟨w.heap.size, i, none⟩ = false := fun i => by simp [World.frozen?, Hbz.out]
  go_wp2_with fail
  obtain ⟨wz, hwz⟩ : ∃ wz, wz = ((w5.setCell ⟨w.heap.size, 0, none⟩ (.bool false)).setCell ⟨w.heap.size, 1, none⟩ (.int .i64 0)).setCell ⟨w.heap.size, 2, none⟩ (.slice none 0 0) := ⟨_, rfl⟩
  rw [← hwz]
  have hbz : wz.heap[w.heap.size]? = some (.cells #[.bool false, .int .i64 0, .slice none 0 0] 184 (0, 0)) := by rw [hwz]; simp [World.setCell, Array.getElem?_modify, Hbz.out]
  have x0 : wz.cell? ⟨w.heap.size, 0, none⟩ = some (.bool false) := by rw [cell_of_row _ _ _ _ _ _ hbz]; rfl
  have x1 : wz.cell? ⟨w.heap.size, 1, none⟩ = some (.int .i64 0) := by rw [cell_of_row _ _ _ _ _ _ hbz]; rfl
  have x2 : wz.cell? ⟨w.heap.size, 2, none⟩ = some (.slice none 0 0) := by rw [cell_of_row _ _ _ _ _ _ hbz]; rfl
  have hfz : Fr (At w.heap.size) w5 wz := by rw [hwz]; exact (((Fr.refl (At w.heap.size) w5).set ⟨w.heap.size, 0, none⟩ _ (fun _ => rfl)).set ⟨w.heap.size, 1, none⟩ _ (fun _ => rfl)).set ⟨w.heap.size, 2, none⟩ _ (fun _ => rfl)
  have hpz : Pu w wz := Fr.new (Hp0.out.pu Hp5.out) hfz (Nat.le_refl _)
  clear hwz z0 z1 z2 f0 hbz
  exact bodyPost_ret (v := .agg #[.bool false, .int .i64 0, .slice none 0 0]) (by simp [results, Tryz.results210, go_sem, x0, x1, x2]) rfl ⟨rfl, hpz⟩
end Go.Proofs.YtaendhbiehknlaaGreatDoor
