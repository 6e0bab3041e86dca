/- What is proved here, of the given program: Keys in slots: an empty region. Segments: a head; octets that are noughts begin with none. -/
import Derived.Test.YtaendhbiehknlaaGreatDoorU25
set_option linter.unusedVariables false
set_option linter.unusedSimpArgs false
set_option linter.constructorNameAsVariable false
namespace Go.Proofs.YtaendhbiehknlaaGreatDoor
open Go.RowKit Go.Shelf Go.Proofs

set_option maxRecDepth 100000 in
set_option maxHeartbeats 1000000 in
theorem keysTakeZero (tv sv v : Value) (S : Nat → Prop) (w : World) (hv : Bs S w v (zeros 256)) :
    Calls Tryz.prog 135 #[tv, sv, v] w fun e w' => e = .returned .nilIface ∧ Pu w w' := by
  obtain ⟨A, c, rfl, hc, hm⟩ := hv.shape
  obtain ⟨bb, oo, rfl, _, _, _⟩ := Bs.cells hv (by intro h; have := congrArg List.length h; rw [zeros_length] at this; simp at this)
  have h1 : Bs S w (.slice (some ⟨bb, oo, none⟩) 128 c) (zeros 128) := Bs.take (k := 128) hv (by rw [zeros_length]; omega) (by rw [zeros_length] at hc; omega) hm
  have h2 : Bs S w (.slice (some ⟨bb, oo + 128, none⟩) 128 (c - 128)) (zeros 128) := by
    have h3 := Bs.drop (k := 128) hv (by rw [zeros_length]; omega)
    rw [zeros_length] at hc
    rw [if_neg (by omega), zeros_drop, zeros_length] at h3
    simpa [Addr.add_lit] using h3
  rw [zeros_length] at hc ⊢
  have H1 := Lib.hid h1
  have H2 := Lib.hid h2
  obtain ⟨w0, hrun, ho0, hp0⟩ := run_zeros w 128 (by omega)
  have hrun : (Instr.makeSlice 23 (.int .i64 128) (.int .i64 128)).run Tryz.prog w = .ok (.slice (some ⟨w.heap.size, 0, none⟩) 128 128) w0 := hrun
  have Ho0 := Lib.hid ho0
  have Hp0 := Lib.hid hp0
  have hc0 : c ≠ 128 := by omega
  clear hv h1 h2 ho0 hp0
  go_enter Tryz.func135, Tryz.ntmps135
  go_wp2
  go_quiet (fail)
  have Hp1 := Lib.hid (Hp0.out.drewN nq)
  have Hz := Lib.hid (own_pu Ho0.out ((Fr.refl _ _).drewN nq))
  generalize w0.drewN nq = w1 at *
  clear hrun
  go_wp2_with fail
  refine (keysReadZero _ S w1 (H1.out.pu Hp1.out)).mono ?_
  rintro e w2 ⟨rfl, hp2⟩
  have Hp2 := Lib.hid (Hp1.out.pu hp2)
  have Hz2 := Lib.hid (own_pu Hz.out hp2)
  clear hp2
  have hbe : (zeros 128 == zeros 128) = true := beq_self_eq_true _
  go_wp2_with fail
  have hp3 : Pu w2 (w2.alloc (.cells #[.bool false, .int .i64 0, .slice none 0 0] 184)) := (Fr.refl _ _).alloc _
  generalize w2.alloc (.cells #[.bool false, .int .i64 0, .slice none 0 0] 184) = w3 at *
  have Hp3 := Lib.hid (Hp2.out.pu hp3)
  have Hz3 := Lib.hid (own_pu Hz2.out hp3)
  clear hp3
  refine (bytesEqual _ _ (zeros 128) (zeros 128) _ _ w3 (H1.out.pu Hp3.out) (Bs.own Hz3.out)).mono ?_
  rintro e w' ⟨rfl, rfl⟩
  rw [hbe]
  go_wp2_with fail
  refine (bytesEqual _ _ (zeros 128) (zeros 128) _ _ w3 (H2.out.pu Hp3.out) (Bs.own Hz3.out)).mono ?_
  rintro e w' ⟨rfl, rfl⟩
  rw [hbe]
  go_wp2
  go_ret
  exact ⟨rfl, Hp3.out⟩
theorem infoEnt : (Tryz.prog.info? 184).map (fun i => (i.zero, i.size, i.bytes)) = some (some (.agg #[.bool false, .int .i64 0, .slice none 0 0]), 3, 40) := by kernel_rfl
/-- A table that keeps no key. -/
def TabZero (w : World) (g n : Nat) : Prop := ∃ d f A c xs, w.heap[g]? = some (.cells #[d, f, .slice A n c, .bool false] 182 (0, 0)) ∧ w.ownsRow 0 184 3 (.slice A n c) n xs ∧ ∀ j, j < n → xs[3 * j]? = some (.bool false) ∧ xs[3 * j + 1]? = some (.int .i64 0) ∧ xs[3 * j + 2]? = some (.slice none 0 0)
theorem TabZero.pu {w w1 : World} {g n : Nat} (h : TabZero w g n) (hp : Pu w w1) : TabZero w1 g n := by
  obtain ⟨d, f, A, c, xs, h1, h2, h3⟩ := h
  exact ⟨d, f, A, c, xs, (hp.block g (blk_lt h1) (fun h => h)).trans h1, own_pu h2 hp, h3⟩
theorem ents_zero (n : Nat) : ∀ j, j < n → (madeCells (Value.agg #[.bool false, .int .i64 0, .slice none 0 0]).cells (n * 3)).toList[3 * j]? = some (.bool false) ∧ (madeCells (Value.agg #[.bool false, .int .i64 0, .slice none 0 0]).cells (n * 3)).toList[3 * j + 1]? = some (.int .i64 0) ∧ (madeCells (Value.agg #[.bool false, .int .i64 0, .slice none 0 0]).cells (n * 3)).toList[3 * j + 2]? = some (.slice none 0 0) := by
  intro j hj
  have e : (Value.agg #[.bool false, .int .i64 0, .slice none 0 0]).cells = #[.bool false, .int .i64 0, .slice none 0 0] := rfl
  rw [e]
  have hs : (#[Value.bool false, .int .i64 0, .slice none 0 0] : Array Value).size = 3 := rfl
  simp only [madeCells, hs, Array.toList_map, Array.toList_range, List.getElem?_map]
  refine ⟨?_, ?_, ?_⟩
  · rw [List.getElem?_range (by omega)]
    simp only [Option.map_some]
    rw [show 3 * j % 3 = 0 by omega]; rfl
  · rw [List.getElem?_range (by omega)]
    simp only [Option.map_some]
    rw [show (3 * j + 1) % 3 = 1 by omega]; rfl
  · rw [List.getElem?_range (by omega)]
    simp only [Option.map_some]
    rw [show (3 * j + 2) % 3 = 2 by omega]; rfl
theorem run_ents (w : World) (n : Nat) (hn : n ≤ 1000) : ∃ w' xs, (Instr.makeSlice 180 (.int .i64 n) (.int .i64 n)).run Tryz.prog w = .ok (.slice (some ⟨w.heap.size, 0, none⟩) n n) w' ∧ w'.ownsRow w.heap.size 184 3 (.slice (some ⟨w.heap.size, 0, none⟩) n n) n xs ∧ Pu w w' ∧ ∀ j, j < n → xs[3 * j]? = some (.bool false) ∧ xs[3 * j + 1]? = some (.int .i64 0) ∧ xs[3 * j + 2]? = some (.slice none 0 0) := by
  obtain ⟨i0, hi, hz0, hz1, hz2⟩ := info_parts infoEnt
  obtain ⟨w', h1, h2, h3⟩ := run_make_full (P := Tryz.prog) w w.heap.size 180 184 i0 _ 3 Tryz.underlying180 hi hz0 hz1 .i64 .i64 n (by rw [hz2]; omega) (by simp [maxLen]; omega) (Nat.le_refl _)
  exact ⟨w', _, h1, h2, (Fr.refl _ _).grown h3 (fun _ _ e => by cases e), ents_zero n⟩
set_option maxRecDepth 100000 in
set_option maxHeartbeats 1000000 in
theorem keysOpenZero (g : Nat) (img : Bytes) (calls : Int) (f n : Nat) (w : World) (h : DiskAt w g img [] calls) (hl : img.length ≤ 17592186044416) (hc : calls < 0) (hn : 1 ≤ n ∧ n ≤ 64) (hf : f ≤ 1099511627776) (ht : f + 2 * n ≤ img.length / 128) (hz : (img.drop (f * 128)).take (2 * n * 128) = zeros (2 * n * 128)) :
    Calls Tryz.prog 81 #[.pointer (some ⟨g, 0, none⟩), .int .i64 f, .int .i64 n] w fun e w' => ∃ t, e = .returned (.tuple #[.pointer (some ⟨t, 0, none⟩), .nilIface]) ∧ TabZero w' t n ∧ w.heap.size ≤ t ∧ Pu w w' := by
  have hR := diskRead g img [] calls f (2 * n) w h (fun x hx => by simp at hx) hl hc hf (by omega) ((thereB_iff _ _ _).2 (by omega))
  have e1 : ((lay img []).drop (f * 128)).take (2 * n * 128) = zeros (2 * n * 128) := hz
  rw [e1] at hR
  rw [show ((2 * n : Nat) : Int) = 2 * (n : Int) by omega] at hR
  have HR := Lib.hid hR
  clear h ht hz e1 hR
  obtain ⟨hn1, hn2⟩ := hn
  go_enter Tryz.func81, Tryz.ntmps81
  go_wp2_with fail
  refine HR.out.mono ?_
  rintro e w1 ⟨v1, rfl, ho1, hp1⟩
  obtain ⟨A1, c1, rfl, hc1, hm1⟩ := own_shape2 ho1
  obtain ⟨w2, xs, hrun, ho2, hp2, hxs⟩ := run_ents w1 n (by omega)
  have Ho1 := Lib.hid ho1
  have Hp1 := Lib.hid hp1
  have Ho2 := Lib.hid ho2
  have Hp2 := Lib.hid hp2
  have Hxs := Lib.hid hxs
  clear ho1 hp1 ho2 hp2 hxs HR
  obtain ⟨g1, k1, e1⟩ := own_form Ho1.out (by omega)
  injection e1 with e1 _ e2
  subst e1 e2
  go_wp2
  have hb3 := heap_alloc_new w2 (.cells #[.pointer (some ⟨g, 0, none⟩), .int .i64 (f : Nat), .slice (some ⟨w1.heap.size, 0, none⟩) n n, .bool false] 182)
  have hp3 : Pu w2 (w2.alloc (.cells #[.pointer (some ⟨g, 0, none⟩), .int .i64 (f : Nat), .slice (some ⟨w1.heap.size, 0, none⟩) n n, .bool false] 182)) := (Fr.refl _ _).alloc _
  generalize w2.alloc (.cells #[.pointer (some ⟨g, 0, none⟩), .int .i64 (f : Nat), .slice (some ⟨w1.heap.size, 0, none⟩) n n, .bool false] 182) = w3 at *
  have Hb3 := Lib.hid hb3
  have Hp3 := Lib.hid hp3
  clear hb3 hp3 hrun
  go_loopw [11, 12, 44] (fun _ _ i wr => ∃ j : Nat, j ≤ n ∧ i = .int .i64 j ∧ Pu w3 wr) (fun _ _ i _ => n - (intOf i).toNat)
  case atStart => exact ⟨0, Nat.zero_le _, rfl, Fr.refl _ _⟩
  case round =>
    obtain ⟨j, hj, rfl, hp⟩ := hrel
    have Hp := Lib.hid hp
    clear hp
    by_cases hlt : j < n
    · have hb : Bs Tr wr (.slice (some ⟨g1, 2 * j * 128, none⟩) 256 (c1 - 2 * j * 128)) (zeros 256) := by
        have h0 : Bs (fun k => w.heap.size ≤ k) w1 (.slice (some ⟨g1, 0, none⟩) (zeros (2 * n * 128)).length c1) (zeros (2 * n * 128)) := by rw [zeros_length]; exact Bs.own Ho1.out
        have h1 := Bs.drop (k := 2 * j * 128) (((h0.pu Hp2.out).pu Hp3.out).pu Hp.out).tr (by rw [zeros_length]; omega)
        rw [if_neg (by omega), zeros_drop] at h1
        have h2 := Bs.take (k := 256) (c' := c1 - 2 * j * 128) h1 (by rw [zeros_length]; omega) (by omega) (by omega)
        rw [zeros_take, Nat.min_eq_left (by omega)] at h2
        simpa [Addr.add_lit] using h2
      have Hb := Lib.hid hb
      clear hb
      go_wp2_with fail
      rw [show 2 * (j + 1) * 128 - 2 * j * 128 = 256 by omega]
      refine (keysTakeZero _ _ _ Tr wr Hb.out).mono ?_
      rintro e w4 ⟨rfl, hp4⟩
      have Hp4 := Lib.hid (Hp.out.pu hp4)
      clear hp4
      go_wp2
      exact ⟨⟨j + 1, by omega, by go_num, Hp4.out⟩, by simp [intOf]; omega⟩
    · obtain rfl : j = n := by omega
      go_wp2
      go_ret2
      refine ⟨w2.heap.size, rfl, ⟨_, _, _, _, xs, (Hp.out.block _ (blk_lt Hb3.out) (fun h => h)).trans Hb3.out, ?_, Hxs.out⟩, Nat.le_trans Hp1.out.size Hp2.out.size, ((Hp1.out.pu Hp2.out).pu Hp3.out).pu Hp.out⟩
      exact own_base (own_pu Ho2.out (Hp3.out.pu Hp.out)) (Nat.zero_le _)
set_option maxRecDepth 100000 in
theorem keysBucketsZero (t n : Nat) (w : World) (h : TabZero w t n) (hn : n ≤ 1000) :
    Calls Tryz.prog 39 #[.pointer (some ⟨t, 0, none⟩)] w fun e w' => e = .returned (.slice none 0 0) ∧ Pu w w' := by
  obtain ⟨d, f, A, c, xs, hb, ho, hx⟩ := h
  have c2 : w.cell? ⟨t, 2, none⟩ = some (.slice A n c) := by rw [cell_of_row _ _ _ _ _ _ hb]; rfl
  have Ho := Lib.hid ho
  have Hx := Lib.hid hx
  clear hb ho hx
  go_enter Tryz.func39, Tryz.ntmps39
  go_wp2
  go_loopw [3, 5, 11] (fun x _ i wr => ∃ j : Nat, j ≤ n ∧ i = .int .i64 j ∧ x = .slice none 0 0 ∧ Pu w wr) (fun _ _ i _ => n - (intOf i).toNat)
  case atStart => exact ⟨0, Nat.zero_le _, rfl, rfl, Fr.refl _ _⟩
  case round =>
    obtain ⟨j, hj, rfl, rfl, hp⟩ := hrel
    have Hp := Lib.hid hp
    clear hp
    by_cases hlt : j < n
    · obtain ⟨g1, k1, e1⟩ := own_form Ho.out (by omega)
      injection e1 with e1 _ e2
      subst e1 e2
      have hce := (own_pu Ho.out Hp.out).cells (g := g1) rfl
      obtain ⟨x0, x1, x2⟩ := Hx.out j hlt
      have y0 := hce _ _ x0
      have y1 := hce _ _ x1
      have y2 := hce _ _ x2
      rw [Addr.add_lit, Nat.zero_add, Nat.mul_comm 3 j] at y0 y1 y2
      clear hce x0 x1 x2
      go_wp2
      exact ⟨⟨j + 1, by omega, by go_num, rfl, Hp.out.alloc _⟩, by simp [intOf]; omega⟩
    · obtain rfl : j = n := by omega
      go_wp2
      go_ret
      exact ⟨rfl, Hp.out⟩
end Go.Proofs.YtaendhbiehknlaaGreatDoor

namespace Go.Proofs.YtaendhbiehknlaaGreatDoor
open Go.RowKit Go.Shelf Go.Proofs

def engr : Bytes := [101, 110, 103, 114]
def headRaw (number' count : Nat) (chain : Bytes) : Bytes := engr ++ number number' 4 ++ chain ++ number count 8
def headBytes (number' count : Nat) (chain : Bytes) : Bytes := sector (crcWith (headRaw number' count chain))
set_option maxRecDepth 100000 in
set_option maxHeartbeats 1000000 in
theorem segHead (nu co : Nat) (v : Value) (chain : Bytes) (S : Nat → Prop) (w : World) (hn : nu ≤ 4294967295) (hk : co ≤ 1099511627776) (hv : Bs S w v chain) (hl : chain.length = 32) : Calls Tryz.prog 290 #[.int .i64 nu, .int .i64 co, v] w fun e w' => ∃ v', e = .returned v' ∧ w'.ownsRow w.heap.size 5 1 v' 128 (u8s (headBytes nu co chain)) ∧ Pu w w' := by
  have kc := fun (w : World) (C : Array Value) (n c : Nat) => Lib.run_convert_bytes_const (P := Tryz.prog) w 23 5 C n c Tryz.underlying23 Tryz.underlying5
  obtain ⟨A, c, rfl, hc, hm⟩ := hv.shape
  have Hv := Lib.hid hv
  rw [hl] at Hv ⊢
  have Hl := Lib.hid hl
  clear hv hl
  go_enter Tryz.func290, Tryz.ntmps290
  go_wp2_with fail
  refine (penNew w).mono ?_
  rintro e w2 ⟨rfl, hp2, -⟩
  have Hp2 := Lib.hid hp2
  clear hp2
  have hbm : Bs (fun k => k = w2.heap.size) (w2.alloc (.cells #[.int .u8 101, .int .u8 110, .int .u8 103, .int .u8 114] 5 (4, 5))) (.slice (some ⟨w2.heap.size, 0, none⟩) 4 4) engr := bs_row w2 _ _ _ engr 4 (by decide) (by decide) (fun j u hu => by
    match j with
    | 0 => exact hu
    | 1 => exact hu
    | 2 => exact hu
    | 3 => exact hu
    | j + 4 => simp [u8s, engr] at hu)
  have Hbm := Lib.hid hbm
  clear hbm
  go_wp2_with fail
  refine (penRaw w w.heap.size Pen.new _ engr _ _ (Hp2.out.pu ((Fr.refl _ _).alloc _)) Hbm.out (by decide)).mono ?_
  rintro e w3 ⟨rfl, hp3, -⟩
  have e3 : Pen.new.raw engr = ⟨engr, false⟩ := rfl
  rw [e3] at hp3
  have Hp3 := Lib.hid hp3
  clear hp3 e3 kc
  go_wp2_with fail
  refine (penU32 w w.heap.size _ nu w3 Hp3.out (by simp [engr]) (by omega)).mono ?_
  rintro e w4 ⟨rfl, hp4, -⟩
  have e4 : (Pen.mk engr false).small (nu : Int) 4 = ⟨engr ++ number nu 4, false⟩ := by
    unfold Pen.small; rw [if_pos (by omega)]; simp [Pen.num, Pen.raw]
  rw [e4] at hp4
  have Hp4 := Lib.hid hp4
  clear hp4 e4
  go_wp2_with fail
  refine (penRaw w w.heap.size _ _ chain S w4 Hp4.out (Hv.out.pu Hp4.out.2.1) (by simp [engr, number_length, Hl.out])).mono ?_
  rintro e w5 ⟨rfl, hp5, -⟩
  have e5 : (Pen.mk (engr ++ number nu 4) false).raw chain = ⟨engr ++ number nu 4 ++ chain, false⟩ := rfl
  rw [e5] at hp5
  have Hp5 := Lib.hid hp5
  clear hp5 e5
  go_wp2_with fail
  refine (penU64 w w.heap.size _ co w5 Hp5.out (by simp [engr, number_length, Hl.out])).mono ?_
  rintro e w6 ⟨rfl, hp6, -⟩
  have e6 : (Pen.mk (engr ++ number nu 4 ++ chain) false).num co 8 = ⟨headRaw nu co chain, false⟩ := rfl
  rw [e6] at hp6
  have Hp6 := Lib.hid hp6
  have hkl : (headRaw nu co chain).length = 48 := by simp [headRaw, engr, number_length, Hl.out]
  have Hkl := Lib.hid hkl
  clear hp6 e6 hkl hk hn
  go_wp2_with fail
  refine (penBytes w w.heap.size _ w6 Hp6.out (by rw [Hkl.out]; omega)).mono ?_
  rintro e w7 ⟨v7, rfl, ho7, hp7⟩
  simp only [Bool.false_eq_true, if_false] at ho7
  obtain ⟨A7, c7, rfl⟩ := own_shape ho7
  have Ho7 := Lib.hid ho7
  have Hp7 := Lib.hid (Hp6.out.2.1.pu hp7)
  clear ho7 hp7
  obtain ⟨w8, hrun, ho8, hp8⟩ := run_zeros w7 128 (by omega)
  have hrun : (Instr.makeSlice 23 (.int .i64 128) (.int .i64 128)).run Tryz.prog w7 = .ok (.slice (some ⟨w7.heap.size, 0, none⟩) 128 128) w8 := hrun
  have Ho8 := Lib.hid ho8
  have Hp8 := Lib.hid hp8
  clear ho8 hp8
  go_wp2_with fail
  refine (crcWithW _ (headRaw nu co chain) _ w8 ((Bs.own Ho7.out).pu Hp8.out) (by rw [Hkl.out]; omega)).mono ?_
  rintro e w9 ⟨v9, rfl, ho9, hp9⟩
  obtain ⟨A9, c9, rfl⟩ := own_shape ho9
  have hcl : (crcWith (headRaw nu co chain)).length = 52 := by rw [crcWith_length, Hkl.out]
  have h9 := own_copy w9 w7.heap.size 128 128 w7.heap.size 0 128 128 c9 A9 _ (zeros 128) (crcWith (headRaw nu co chain)) 3 (own_pu Ho8.out hp9) (Bs.own ho9) (by rw [hcl]; omega) (by rw [hcl]; omega)
  rw [hcl] at h9
  obtain ⟨w10, hrun2, ho10, hf10⟩ := h9
  rw [hcl]
  have Ho10 := Lib.hid (own_base (base' := w.heap.size) ho10 Hp7.out.size)
  have Hp10 := Lib.hid (((Hp7.out.pu Hp8.out).pu hp9).trans hf10 (fun m hm e => by have e : m = w7.heap.size := e; have := Hp7.out.size; omega))
  clear ho9 hp9 ho10 hf10 hcl
  go_wp2
  go_ret
  exact ⟨_, rfl, Ho10.out, Hp10.out⟩
theorem headBytes_length (nu co : Nat) (chain : Bytes) (h : chain.length = 32) : (headBytes nu co chain).length = 128 := sector_length _ (by rw [crcWith_length]; simp [headRaw, engr, number_length, h])
theorem headBytes_zeros (nu co n : Nat) (chain : Bytes) : (headBytes nu co chain).isPrefixOf (zeros n) = false := by
  have h1 : (headBytes nu co chain).head? = some 101 := rfl
  cases hq : headBytes nu co chain with
  | nil => rw [hq] at h1; cases h1
  | cons x r =>
    rw [hq] at h1
    obtain rfl : x = 101 := by simpa using h1
    cases n with
    | zero => rfl
    | succ n => simp [zeros, List.replicate_succ, List.isPrefixOf]
theorem segBegins (v1 v2 : Value) (a b : Bytes) (S S' : Nat → Prop) (w : World) (h1 : Bs S w v1 a) (h2 : Bs S' w v2 b) (hb : 0 < b.length) :
    Calls Tryz.prog 289 #[v1, v2] w fun e w' => e = .returned (.bool (b.isPrefixOf a)) ∧ w = w' := by
  obtain ⟨A2, c2, rfl, _, _⟩ := h2.shape
  have C := Lib.hid (bytesHasPrefix _ _ _ _ _ _ w h1 h2)
  clear h1 h2
  go_enter Tryz.func289, Tryz.ntmps289
  go_wp2_with fail
  refine C.out.mono ?_
  rintro e w' ⟨rfl, rfl⟩
  go_wp2
  go_ret
  exact ⟨rfl, rfl⟩
set_option maxRecDepth 100000 in
set_option maxHeartbeats 1000000 in
theorem segParseZero (v vc : Value) (n nu co : Nat) (chain : Bytes) (S S' : Nat → Prop) (w : World) (hv : Bs S w v (zeros n)) (hc : Bs S' w vc chain) (hl : chain.length = 32) (hn : nu ≤ 4294967295) (hk : co ≤ 1099511627776) (hm : n % 128 = 0) (h2 : 256 ≤ n) :
    Calls Tryz.prog 212 #[v, .int .i64 nu, .int .i64 co, vc] w fun e w' => e = .returned (.tuple #[.agg #[.slice none 0 0, .slice none 0 0, .bool false, .int .i64 0], .bool false]) ∧ Pu w w' := by
  obtain ⟨A, c, rfl, hcc, hmm⟩ := hv.shape
  have Hv := Lib.hid hv
  have C := Lib.hid (fun (W : World) (hp : Pu w W) => segHead nu co vc chain S' W hn hk (hc.pu hp) hl)
  have Hhl := Lib.hid (headBytes_length nu co chain hl)
  rw [zeros_length] at hcc ⊢
  have hmI : ((n : Nat) : Int) % 128 = 0 := by omega
  have h2I : ¬ ((n : Nat) : Int) < 256 := by omega
  have Hz := Lib.hid (headBytes_zeros nu co n chain)
  clear hv hc hl hn hk hm
  go_enter Tryz.func212, Tryz.ntmps212
  go_wp2_with fail
  have hp0 : Pu w (w.alloc (.cells #[.slice none 0 0, .slice none 0 0, .bool false, .int .i64 0] 367)) := (Fr.refl _ _).alloc _
  have hb0 := heap_alloc_new w (.cells #[.slice none 0 0, .slice none 0 0, .bool false, .int .i64 0] 367)
  generalize w.alloc (.cells #[.slice none 0 0, .slice none 0 0, .bool false, .int .i64 0] 367) = w0 at *
  refine (C.out w0 hp0).mono ?_
  rintro e w1 ⟨v1, rfl, ho1, hp1⟩
  obtain ⟨A1, c1, rfl⟩ := own_shape ho1
  have Hb1 := Lib.hid ((hp1.block _ (blk_lt hb0) (fun h => h)).trans hb0)
  have Hp1 := Lib.hid (hp0.pu hp1)
  have Ho1 := Lib.hid ho1
  clear hp0 hb0 hp1 ho1 C
  go_wp2_with fail
  refine (segBegins _ _ (zeros n) (headBytes nu co chain) S _ w1 (by have := Hv.out.pu Hp1.out; rw [zeros_length] at this; exact this) (Bs.own Ho1.out) (by rw [Hhl.out]; omega)).mono ?_
  rintro e w' ⟨rfl, rfl⟩
  rw [Hz.out]
  have z0 : w1.cell? ⟨w.heap.size, 0, none⟩ = some (.slice none 0 0) := by rw [cell_of_row _ _ _ _ _ _ Hb1.out]; rfl
  have z1 : w1.cell? ⟨w.heap.size, 1, none⟩ = some (.slice none 0 0) := by rw [cell_of_row _ _ _ _ _ _ Hb1.out]; rfl
  have z2 : w1.cell? ⟨w.heap.size, 2, none⟩ = some (.bool false) := by rw [cell_of_row _ _ _ _ _ _ Hb1.out]; rfl
  have z3 : w1.cell? ⟨w.heap.size, 3, none⟩ = some (.int .i64 0) := by rw [cell_of_row _ _ _ _ _ _ Hb1.out]; rfl
  have f0 : ∀ i, w1.frozen? ⟨w.heap.size, i, none⟩ = false := fun i => by simp [World.frozen?, Hb1.out]
  go_wp2_with fail
  obtain ⟨wz, hwz⟩ : ∃ wz, wz = (((w1.setCell ⟨w.heap.size, 0, none⟩ (.slice none 0 0)).setCell ⟨w.heap.size, 1, none⟩ (.slice none 0 0)).setCell ⟨w.heap.size, 2, none⟩ (.bool false)).setCell ⟨w.heap.size, 3, none⟩ (.int .i64 0) := ⟨_, rfl⟩
  rw [← hwz]
  have hbz : wz.heap[w.heap.size]? = some (.cells #[.slice none 0 0, .slice none 0 0, .bool false, .int .i64 0] 367 (0, 0)) := by rw [hwz]; simp [World.setCell, Array.getElem?_modify, Hb1.out]
  have x0 : wz.cell? ⟨w.heap.size, 0, none⟩ = some (.slice none 0 0) := by rw [cell_of_row _ _ _ _ _ _ hbz]; rfl
  have x1 : wz.cell? ⟨w.heap.size, 1, none⟩ = some (.slice none 0 0) := by rw [cell_of_row _ _ _ _ _ _ hbz]; rfl
  have x2 : wz.cell? ⟨w.heap.size, 2, none⟩ = some (.bool false) := by rw [cell_of_row _ _ _ _ _ _ hbz]; rfl
  have x3 : wz.cell? ⟨w.heap.size, 3, none⟩ = some (.int .i64 0) := by rw [cell_of_row _ _ _ _ _ _ hbz]; rfl
  have hfz : Fr (At w.heap.size) w1 wz := by rw [hwz]; exact ((((Fr.refl (At w.heap.size) w1).set ⟨w.heap.size, 0, none⟩ _ (fun _ => rfl)).set ⟨w.heap.size, 1, none⟩ _ (fun _ => rfl)).set ⟨w.heap.size, 2, none⟩ _ (fun _ => rfl)).set ⟨w.heap.size, 3, none⟩ _ (fun _ => rfl)
  have hpz : Pu w wz := Fr.new Hp1.out hfz (Nat.le_refl _)
  clear hwz z0 z1 z2 z3 f0 hbz
  exact bodyPost_ret (v := .tuple #[.agg #[.slice none 0 0, .slice none 0 0, .bool false, .int .i64 0], .bool false]) (by simp [results, Tryz.results212, go_sem, x0, x1, x2, x3]) rfl ⟨rfl, hpz⟩
end Go.Proofs.YtaendhbiehknlaaGreatDoor
