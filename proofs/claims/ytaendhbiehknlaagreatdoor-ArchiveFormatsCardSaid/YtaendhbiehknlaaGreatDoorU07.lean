/- What is proved here, of the given program: SHA-256: a block's words. SHA-256: the walk of 'spread'. -/
import Derived.Test.YtaendhbiehknlaaGreatDoorU05
import Derived.Deep.MidRow
import Derived.Deep.RegionHeld3
import Derived.Test.YtaendhbiehknlaaGreatDoorU06
set_option linter.unusedVariables false
set_option linter.unusedSimpArgs false
set_option linter.constructorNameAsVariable false
namespace Go.Proofs.YtaendhbiehknlaaGreatDoor
open Go.RowKit Go.Proofs

/-! ### A block that is one array -/
def Arr (w : World) (g : Nat) (t : TypeId) (xs : List Value) : Prop := w.heap[g]? = some (.cells xs.toArray t (0, 0))
namespace Arr
variable {w w1 : World} {g : Nat} {t : TypeId} {xs : List Value}
theorem lt (h : Arr w g t xs) : g < w.heap.size := (Array.getElem?_eq_some_iff.1 h).1
theorem cell (h : Arr w g t xs) {j : Nat} {v : Value} (hj : xs[j]? = some v) : w.cell? ⟨g, j, none⟩ = some v := by
  rw [cell_of_row w g j _ _ _ h]; simpa using hj
theorem frozen (h : Arr w g t xs) (j : Nat) : w.frozen? ⟨g, j, none⟩ = false := frozen_of_row w g j _ _ h
theorem move (h : Arr w g t xs) (h2 : w1.heap[g]? = w.heap[g]?) : Arr w1 g t xs := h2.trans h
theorem drewN (h : Arr w g t xs) (n : Nat) : Arr (w.drewN n) g t xs := h
theorem set (h : Arr w g t xs) (j : Nat) (v : Value) : Arr (w.setCell ⟨g, j, none⟩ v) g t (xs.set j v) := by
  have := heap_setCell_same w g j _ t v h
  unfold Arr
  rw [this]; simp
theorem range (h : Arr w g t xs) : w.rangeAt g 0 xs := fun j v hv => by rw [Nat.zero_add]; exact h.cell hv
theorem there (h : Arr w g t xs) {n : Nat} (hn : n ≤ xs.length) : w.there g 0 n := fun j hj => by
  rw [Nat.zero_add]
  exact ⟨by rw [h.cell (List.getElem?_eq_getElem (by omega : j < xs.length))]; rfl, h.frozen j⟩
theorem setAll (h : Arr w g t xs) (vs : List Value) (hl : vs.length = xs.length) : Arr (w.setCells g 0 vs) g t vs := by
  have key : ∀ (vs : List Value) (o : Nat) (w : World) (ys : List Value), Arr w g t ys → o + vs.length = ys.length → Arr (w.setCells g o vs) g t (ys.take o ++ vs) := by
    intro vs
    induction vs with
    | nil => intro o w ys h hl; simp only [World.setCells]; rw [List.take_of_length_le (by simp at hl; omega)]; simpa using h
    | cons v r ih =>
      intro o w ys h hl
      simp only [List.length_cons] at hl
      have := ih (o + 1) _ _ (h.set o v) (by simp; omega)
      simp only [World.setCells]
      have he : (ys.set o v).take (o + 1) = ys.take o ++ [v] := by
        rw [List.take_succ_eq_append_getElem (by simp; omega), List.getElem_set_self, List.take_set_of_le (Nat.le_refl _)]
      rw [he] at this
      simpa using this
  have := key vs 0 w xs h (by omega)
  simpa using this
end Arr
theorem setCells_heap (w : World) (g : Nat) : ∀ (vs : List Value) (o k : Nat), k ≠ g → (w.setCells g o vs).heap[k]? = w.heap[k]? := by
  intro vs
  induction vs generalizing w with
  | nil => intros; rfl
  | cons v r ih => intro o k hk; simp only [World.setCells]; rw [ih _ _ _ hk, heap_setCell_other _ _ _ _ hk]
theorem Fr.setCells {S : Nat → Prop} {w w1 : World} (h : Fr S w w1) (g o : Nat) (vs : List Value) (hg : g < w.heap.size → S g) : Fr S w (w1.setCells g o vs) := by
  induction vs generalizing w1 o with
  | nil => exact h
  | cons v r ih => simp only [World.setCells]; exact ih (h.set ⟨g, o, none⟩ v hg) (o + 1)
def u32s (l : List Nat) : List Value := l.map (fun x : Nat => Value.int .u32 (x : Int))
theorem u32s_length (l : List Nat) : (u32s l).length = l.length := by simp [u32s]
theorem u32s_one (l : List Nat) : ∀ v ∈ u32s l, v.oneCell' = true := by
  intro v hv
  obtain ⟨_, _, rfl⟩ := List.mem_map.1 hv
  rfl
theorem u32s_get {l : List Nat} {j x : Nat} (h : l[j]? = some x) : (u32s l)[j]? = some (.int .u32 x) := by simp [u32s, h]

theorem run_index_agg {P : Program} (t e : TypeId) (n : Nat) (d : TypeDesc) (cs : List Value) (i : Nat) (v : Value) (w : World) (h : P.underlying t = some (.array n e)) (he : P.underlying e = some d) (hd : d.isRow = false)
    (hi : (P.info? e).map (·.size) = some 1) (hin : i < n) (hv : cs[i]? = some v) : (Instr.index t (.agg cs.toArray) (.int .i64 (i : Int))).run P w = .ok v w := by
  have hagg : (isAgg e).run P w = .ok false w := by
    unfold isAgg
    rw [Sem.run_bind, run_underlying he w]
    cases d <;> simp_all
  cases hq : P.info? e with
  | none => simp [hq] at hi
  | some j =>
    have hs : j.size = 1 := by simpa [hq] using hi
    simp [Instr.index, asIntOf, Sem.run_bind, run_underlying h, sizeOf, typeInfo, hq, hs, part, hagg, hin, hv]
theorem heap_alloc3_new (w : World) (A B C : Obj) : (((w.alloc A).alloc B).alloc C).heap[w.heap.size + 1 + 1]? = some C := by
  have e : ((w.alloc A).alloc B).heap.size = w.heap.size + 1 + 1 := by simp
  rw [← e]; exact heap_alloc_new _ _
/-! ### The words -/
def w32 (n : Nat) : Nat := Nat.mod n 4294967296
theorem w32_lt (n : Nat) : w32 n < 4294967296 := Nat.mod_lt _ (by decide)
theorem w32_int (n : Nat) : ((w32 n : Nat) : Int) = (n : Int) % 4294967296 := by
  show ((n % 4294967296 : Nat) : Int) = _
  omega
/-- The next word, behind sixteen and more (the last one first). -/
def nextWord (l : List Nat) : Nat := w32 (xor2s (l.getD 1 0) 17 19 10 + l.getD 6 0 + xor2s (l.getD 14 0) 7 18 3 + l.getD 15 0)
/-- The first words, the last one first. -/
def wordsTo (b : Bytes) : Nat → List Nat
  | 0 => []
  | j + 1 => (if j < 16 then value ((b.drop (4 * j)).take 4) else nextWord (wordsTo b j)) :: wordsTo b j
def spread (b : Bytes) : List Nat := (wordsTo b 64).reverse
theorem wordsTo_length (b : Bytes) (j : Nat) : (wordsTo b j).length = j := by induction j <;> simp_all [wordsTo]
theorem wordsTo_lt (b : Bytes) (j : Nat) : ∀ x ∈ wordsTo b j, x < 4294967296 := by
  induction j with
  | zero => simp [wordsTo]
  | succ j ih =>
    intro x hx
    simp only [wordsTo, List.mem_cons] at hx
    rcases hx with rfl | hx
    · split
      · refine Nat.lt_of_lt_of_le (value_lt _) ?_
        have : ((b.drop (4 * j)).take 4).length ≤ 4 := by simp; omega
        exact Nat.le_trans (Nat.pow_le_pow_right (by decide) this) (by decide)
      · exact w32_lt _
    · exact ih x hx
/-- The array when j words are there. -/
def spreadAt (b : Bytes) (j : Nat) : List Value := u32s ((wordsTo b j).reverse ++ List.replicate (64 - j) 0)
theorem spreadAt_length (b : Bytes) {j : Nat} (hj : j ≤ 64) : (spreadAt b j).length = 64 := by simp [spreadAt, u32s_length, wordsTo_length]; omega
theorem spreadAt_back (b : Bytes) {j k : Nat} (hk : k < j) : (spreadAt b j)[j - 1 - k]? = some (.int .u32 ((wordsTo b j).getD k 0 : Nat)) := by
  refine u32s_get ?_
  have hl := wordsTo_length b j
  rw [List.getElem?_append_left (by simp; omega), List.getElem?_reverse (by omega)]
  rw [hl, show j - 1 - (j - 1 - k) = k by omega, List.getD_eq_getElem?_getD, List.getElem?_eq_getElem (by omega)]
  rfl
theorem spreadAt_here (b : Bytes) {j : Nat} (hj : j < 64) : (spreadAt b j)[j]? = some (.int .u32 0) := by
  refine u32s_get ?_
  have hl := wordsTo_length b j
  rw [List.getElem?_append_right (by simp [hl]), List.length_reverse, hl, Nat.sub_self, List.getElem?_replicate, if_pos (by omega)]
theorem spreadAt_next (b : Bytes) {j : Nat} (hj : j < 64) (x : Nat) (hx : wordsTo b (j + 1) = x :: wordsTo b j) : (spreadAt b j).set j (.int .u32 x) = spreadAt b (j + 1) := by
  have hl := wordsTo_length b j
  unfold spreadAt
  rw [hx, show 64 - j = (64 - (j + 1)) + 1 by omega, List.replicate_succ]
  have : ((wordsTo b j).reverse ++ 0 :: List.replicate (64 - (j + 1)) 0).set j x = (x :: wordsTo b j).reverse ++ List.replicate (64 - (j + 1)) 0 := by
    rw [List.set_append_right _ _ (by simp; omega)]
    simp [hl]
  rw [← this, u32s, u32s, List.map_set]
end Go.Proofs.YtaendhbiehknlaaGreatDoor

namespace Go.Proofs.YtaendhbiehknlaaGreatDoor
open Go.RowKit Go.Proofs

theorem mixed : Tryz.prog.follows .mixedOrders = true := by kernel_rfl
theorem shaS1 (x : Nat) (w : World) (hx : x < 4294967296) : Calls Tryz.prog 344 #[.int .u32 x, .int .i64 17, .int .i64 19, .int .i64 10] w fun e w' => e = .returned (.int .u32 (xor2s x 17 19 10)) ∧ ∃ n, w' = w.drewN n := shaShifted x 17 19 10 w hx (by decide) (by decide) (by decide)
theorem shaS0 (x : Nat) (w : World) (hx : x < 4294967296) : Calls Tryz.prog 344 #[.int .u32 x, .int .i64 7, .int .i64 18, .int .i64 3] w fun e w' => e = .returned (.int .u32 (xor2s x 7 18 3)) ∧ ∃ n, w' = w.drewN n := shaShifted x 7 18 3 w hx (by decide) (by decide) (by decide)
theorem or256 (x y : Nat) (hx : x < 256) : y * 256 ||| x = y * 256 + x := by
  rw [show y * 256 = y <<< 8 from by rw [Nat.shiftLeft_eq], ← Nat.shiftLeft_add_eq_or_of_lt (by simpa using hx) y]
theorem set_same {xs : List Value} {j : Nat} {v : Value} (h : xs[j]? = some v) : xs.set j v = xs := by
  obtain ⟨hj, h⟩ := List.getElem?_eq_some_iff.1 h
  rw [← h, List.set_getElem_self]
theorem info64 : (Tryz.prog.info? 447).map (·.size) = some 64 := by kernel_rfl
set_option maxRecDepth 100000 in
theorem shaSpread (v : Value) (l : Bytes) (S : Nat → Prop) (w : World) (hv : Bs S w v l) (hl : l.length = 64) :
    Calls Tryz.prog 315 #[v] w fun e w' => e = .returned (.agg (u32s (spread l)).toArray) ∧ Pu w w' := by
  obtain ⟨A, c, rfl, hlc, hm⟩ := hv.shape
  obtain ⟨b, o, rfl, hS, hb, -⟩ := Bs.cells hv (by rintro rfl; simp at hl)
  rw [hl] at hv hlc ⊢
  have Hv := Lib.hid hv
  have Hl := Lib.hid hl
  clear hv hl
  go_enter Tryz.func315, Tryz.ntmps315
  go_wp2
  go_loopw [7] (fun i wr => ∃ j : Nat, j ≤ 64 ∧ i = .int .i64 j ∧ Arr wr (w.heap.size + 1) 447 (spreadAt l j) ∧ Arr wr w.heap.size 447 (spreadAt l 0) ∧ Pu w wr) (fun i _ => 64 - (intOf i).toNat)
  case atStart =>
    refine ⟨0, by omega, rfl, ?_, ?_, ?_⟩
    · exact heap_alloc2_new _ _ _
    · exact (heap_alloc_old _ _ (by simp)).trans (heap_alloc_new _ _)
    · exact ((Fr.refl _ _).alloc _).alloc _
  case round =>
    obtain ⟨j, hj, rfl, ha, h0, hp⟩ := hrel
    have Ha := Lib.hid ha
    have H0 := Lib.hid h0
    have Hp := Lib.hid hp
    clear ha h0 hp
    by_cases h64 : j < 64
    · by_cases h16 : j < 16
      · have hw1 : IntKind.i64.wrap (4 * (j : Int)) = 4 * (j : Int) := IntWalk.i64_in _ (by omega)
        have hw2 : IntKind.i64.wrap (4 * (j : Int) + 4) = 4 * (j : Int) + 4 := IntWalk.i64_in _ (by omega)
        obtain ⟨pc, hpc⟩ : ∃ pc, pc = (l.drop (4 * j)).take 4 := ⟨_, rfl⟩
        have hpl : pc.length = 4 := by rw [hpc]; simp [Hl.out]; omega
        have Hpc := Lib.hid hpc
        have Hpl := Lib.hid hpl
        clear hpc hpl
        go_wp2
        go_loopw [23] (fun i wr2 => ∃ k : Nat, k ≤ 4 ∧ i = .int .i64 k ∧ Arr wr2 (w.heap.size + 1) 447 ((spreadAt l j).set j (.int .u32 (value (pc.take k) : Nat))) ∧ Arr wr2 w.heap.size 447 (spreadAt l 0) ∧ Pu w wr2) (fun i _ => 4 - (intOf i).toNat)
        case atStart =>
          refine ⟨0, by omega, rfl, ?_, H0.out, Hp.out⟩
          have h1 := spreadAt_here l h64
          rw [show ((value (pc.take 0) : Nat) : Int) = 0 from rfl, set_same h1]
          exact Ha.out
        case round =>
          obtain ⟨k, hk, rfl, ha, h0, hp⟩ := hrel
          clear Ha H0 Hp
          have H0 := Lib.hid h0
          have Hp := Lib.hid hp
          clear h0 hp
          by_cases hk4 : k < 4
          · obtain ⟨x, hx⟩ : ∃ x, l[4 * j + k]? = some x := ⟨_, List.getElem?_eq_getElem (by rw [Hl.out]; omega)⟩
            obtain ⟨b', o', e, -, -, hc⟩ := Bs.cell (Hv.out.pu Hp.out) hx
            injection e with e
            injection e with e1 e2
            subst e1 e2
            rw [← Nat.add_assoc] at hc
            obtain ⟨n, hn⟩ : ∃ n, n = x.toNat := ⟨_, rfl⟩
            have hn8 : n < 256 := by rw [hn]; exact x.toNat_lt
            rw [u8v, ← hn] at hc
            have hvl := value_lt (pc.take k)
            obtain ⟨y, hy⟩ : ∃ y, y = value (pc.take k) := ⟨_, rfl⟩
            have hy24 : y < 16777216 := by
              rw [hy]
              refine Nat.lt_of_lt_of_le hvl ?_
              have : (pc.take k).length ≤ 3 := by rw [List.length_take]; omega
              exact Nat.le_trans (Nat.pow_le_pow_right (by decide) this) (by decide)
            rw [← hy] at ha
            have hcell := ha.cell (j := j) (by rw [List.getElem?_set_self (by rw [spreadAt_length _ (by omega)]; omega)])
            have hfr := ha.frozen j
            have Hx := Lib.hid hx
            have Hn := Lib.hid hn
            have Hy := Lib.hid hy
            have Ha := Lib.hid ha
            clear hx hn hy ha hvl
            go_wp2
            have h1 := u32_or_nat (y * 256) n (by omega) (by omega)
            rw [or256 n y hn8, Int.natCast_mul] at h1
            refine ⟨⟨k + 1, by omega, by go_num, ?_, ?_, Hp.out.set _ _ (fun h => absurd h (by show ¬ w.heap.size + 1 < w.heap.size; omega))⟩, by simp [intOf]; omega⟩
            · have h2 := Ha.out.set j (.int .u32 (value (pc.take (k + 1)) : Nat))
              rw [List.set_set] at h2
              have h3 : value (pc.take (k + 1)) = y * 256 + n := by
                have h4 : pc[k]? = some x := by rw [Hpc.out, List.getElem?_take_of_lt hk4, List.getElem?_drop]; exact Hx.out
                rw [List.take_add_one, h4, Option.toList_some, value_snoc, ← Hy.out, ← Hn.out]
              rw [h3] at h2 ⊢
              rw [show bits .or .u32 ((y : Int) * 256) (n : Int) = ((y * 256 + n : Nat) : Int) from h1]
              exact h2
            · exact H0.out.move (heap_setCell_other _ _ _ _ (by show w.heap.size ≠ w.heap.size + 1; omega))
          · go_wp2
            refine ⟨⟨j + 1, by omega, by go_num, ?_, H0.out, Hp.out⟩, by simp [intOf]; omega⟩
            rw [List.take_of_length_le (by rw [Hpl.out]; omega), spreadAt_next l h64 _ (by rw [wordsTo, if_pos h16, ← Hpc.out])] at ha
            exact ha
      · have hlt := wordsTo_lt l j
        have hll := wordsTo_length l j
        have key : ∀ (k : Nat) (d : Int), d = k + 1 → k < j → k < 16 → ∃ x i : Nat, x = (wordsTo l j).getD k 0 ∧ x < 4294967296 ∧ i < 64 ∧ (i : Int) < 64 ∧ IntKind.i64.wrap ((j : Int) - d) = (i : Int) ∧ wr.cell? ⟨w.heap.size + 1, i, none⟩ = some (.int .u32 (x : Nat)) ∧ i ≠ j := fun k d hd hk hk16 =>
          ⟨_, j - 1 - k, rfl, hlt _ (by rw [List.getD_eq_getElem?_getD, List.getElem?_eq_getElem (by omega)]; exact List.getElem_mem _), by omega, by omega, by rw [IntWalk.i64_in _ (by omega)]; omega, Ha.out.cell (spreadAt_back l hk), by omega⟩
        obtain ⟨x1, i1, hx1, hx1l, hi1, hi1', hw1, hc1, hne1⟩ := key 1 2 (by decide) (by omega) (by omega)
        obtain ⟨x6, i6, hx6, hx6l, hi6, hi6', hw6, hc6, hne6⟩ := key 6 7 (by decide) (by omega) (by omega)
        obtain ⟨x14, i14, hx14, hx14l, hi14, hi14', hw14, hc14, hne14⟩ := key 14 15 (by decide) (by omega) (by omega)
        obtain ⟨x15, i15, hx15, hx15l, hi15, hi15', hw15, hc15, hne15⟩ := key 15 16 (by decide) (by omega) (by omega)
        have hc0 := Ha.out.cell (spreadAt_here l h64)
        have hfr := Ha.out.frozen j
        have hn : nextWord (wordsTo l j) = w32 (xor2s x1 17 19 10 + x6 + xor2s x14 7 18 3 + x15) := by rw [nextWord, ← hx1, ← hx6, ← hx14, ← hx15]
        have Hn := Lib.hid hn
        clear key hx1 hx6 hx14 hx15 hn hlt hll
        go_wp2
        refine wp_region_tail 23 mixed ?hB ?hk ?_
        case hB => kernel_rfl
        case hk => exact of_decide_eq_true (by kernel_rfl)
        dsimp only [List.take]
        repeat (go_big_quiet_step (first
          | (go_at_call_of 344 (Value.int .u32 (x1 : Nat)); exact Calls.quiet_of (shaS1 x1 _ hx1l))
          | (go_at_call_of 344 (Value.int .u32 (x14 : Nat)); exact Calls.quiet_of (shaS0 x14 _ hx14l))))
        refine wpQuiet_nil ?_
        intro _ hw'
        obtain ⟨nq, hw''⟩ := hw'
        subst hw''
        dsimp only [List.drop]
        go_wp2
        have hv : ((xor2s x1 17 19 10 : Nat) : Int) + x6 + (xor2s x14 7 18 3 : Nat) + x15 = ((xor2s x1 17 19 10 + x6 + xor2s x14 7 18 3 + x15 : Nat) : Int) := by omega
        have hs := spreadAt_next l h64 (nextWord (wordsTo l j)) (by rw [wordsTo, if_neg h16])
        rw [Hn.out] at hs
        have hv2 : Value.int .u32 ((((xor2s x1 17 19 10 : Nat) : Int) + x6 + (xor2s x14 7 18 3 : Nat) + x15) % 4294967296) = .int .u32 ((w32 (xor2s x1 17 19 10 + x6 + xor2s x14 7 18 3 + x15) : Nat) : Int) := by
          rw [hv, w32_int]
        rw [hv2]
        refine ⟨⟨j + 1, by omega, by go_num, by rw [← hs]; exact (Ha.out.drewN _).set _ _, (H0.out.drewN _).move (heap_setCell_other _ _ _ _ (by show w.heap.size ≠ w.heap.size + 1; omega)), (Hp.out.drewN _).set _ _ (fun h => absurd h (by show ¬ w.heap.size + 1 < w.heap.size; omega))⟩, by simp [intOf]; omega⟩
    · obtain rfl : j = 64 := by omega
      go_wp2_with (first
        | (refine wpList_load_mid rfl 447 (.tmp 3) rfl (w.heap.size + 1) 0 rfl (spreadAt l 64) _ (Arr.range Ha.out) Tryz.underlying447 rfl (by rw [spreadAt_length _ (Nat.le_refl _)]; exact info64) ?_)
        | (refine wpList_store_mid rfl 447 (.tmp 2) (.tmp 61) rfl w.heap.size 0 (spreadAt l 64).toArray rfl rfl (Arr.there H0.out (by simp [spreadAt_length])) (by simpa [spreadAt_length] using info64) (all_oneCell_toArray (u32s_one _)) ?_))
      refine bodyPost_ret (results_cell_row rfl _ _ w.heap.size _ (spreadAt l 64).toArray _ _ rfl (Arr.setAll H0.out (spreadAt l 64) (by simp [spreadAt_length])) Tryz.underlying447 rfl (by simpa [spreadAt_length] using info64)) rfl ⟨?_, ?_⟩
      · simp [spreadAt, spread]
      · exact Hp.out.setCells _ _ _ (fun h => absurd h (Nat.lt_irrefl _))
end Go.Proofs.YtaendhbiehknlaaGreatDoor
