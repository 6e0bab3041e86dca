/- What is proved here, of the given program: The disk: Write. -/
import Derived.Test.YtaendhbiehknlaaGreatDoorU17
import Derived.Deep.RegionLaw
set_option linter.unusedVariables false
set_option linter.unusedSimpArgs false
set_option linter.constructorNameAsVariable false
namespace Go.Proofs.YtaendhbiehknlaaGreatDoor
open Go.RowKit Go.Shelf Go.Proofs

/-- A call, as one step of a region that draws. -/
theorem step_call {P : Program} {ops : Array Oper} {o : Oper} {a : Act} {w : World} {K : Act → World → Prop} {Q : Exit → Act → World → Prop} {E : Prop} (hgd : o.guard = none) (f : FuncId) (xs : List Operand) (ts : Array TypeId) (ho : o.op = .call { callee := .value (.func f), args := xs.toArray, argTypes := ts }) (args : List Value) (hx : xs.map a.eval = args) (he : Enters P f) {R : Ending → World → Prop} (hc : Calls P f args.toArray w R) (h : ∀ e w', R e w' → ∃ v, e = .returned v ∧ K (a.put o.dst v) w') :
    if Region.wanted o (yielded ops a.tmps) = true then Oper.wp P o a w K Q else E := by
  have hw : Region.wanted o (yielded ops a.tmps) = true := by simp [Region.wanted, hgd]
  have hrun : (execOp a.eval o).run P w = .ok (.enter f args.toArray) w := by
    have h1 := he args.toArray w
    have hx2 : xs.toArray.map a.eval = args.toArray := by rw [← hx]; simp
    simp [execOp, ho, resolve, invoke, hx, hx2, Deferred.ofValue, Act.eval, h1]
  rw [if_pos hw]
  unfold Oper.wp
  rw [hrun, Oper.upon_enter]
  refine hc.mono fun e w'' hh => ?_
  obtain ⟨v, rfl, hK⟩ := h e w'' hh
  exact hK
theorem write_round {w wr w2 w3 : World} {g j kq c0 c2 c3 B2 n : Nat} {A0 Aq A2 A3 : Option Addr} {a calls : Int} {l : Bytes} {cs : List Value} {o : Obj} (hf : Fr (At g) w wr) (ho : wr.ownsRow w.heap.size 127 2 (.slice Aq j kq) j cs)
    (hq : QRow wr (fun k => k ≠ g ∧ (Value.slice Aq j kq).ownBlock ≠ some k) cs (partsOf a l j)) (hp2 : Pu wr w2) (ho2 : w2.ownsRow B2 5 1 (.slice A2 128 c2) 128 (u8s (sect l j))) (hB2 : wr.heap.size ≤ B2) (hg : g < wr.heap.size)
    (hgrow : (w2.alloc o).grownBy w3 (Value.slice Aq j kq).ownBlock) (hown3 : w3.ownsRow w.heap.size 127 2 (.slice A3 (j + 1) c3) (j + 1) (cs ++ [.int .i64 (a + (j : Int)), .slice A2 128 c2]))
    (hat3 : (Value.slice A3 (j + 1) c3).ownBlock = (Value.slice Aq j kq).ownBlock ∨ (Value.slice A3 (j + 1) c3).ownBlock = some (w2.alloc o).heap.size) (hb3 : w3.heap[g]? = some (.cells #[.slice A0 n c0, .slice Aq j kq, .int .i64 calls] 73 (0, 0))) :
    (w3.setCell ⟨g, 1, none⟩ (.slice A3 (j + 1) c3)).heap[g]? = some (.cells #[.slice A0 n c0, .slice A3 (j + 1) c3, .int .i64 calls] 73 (0, 0)) ∧
    (w3.setCell ⟨g, 1, none⟩ (.slice A3 (j + 1) c3)).ownsRow w.heap.size 127 2 (.slice A3 (j + 1) c3) (j + 1) (cs ++ [.int .i64 (a + (j : Int)), .slice A2 128 c2]) ∧
    QRow (w3.setCell ⟨g, 1, none⟩ (.slice A3 (j + 1) c3)) (fun k => k ≠ g ∧ (Value.slice A3 (j + 1) c3).ownBlock ≠ some k) (cs ++ [.int .i64 (a + (j : Int)), .slice A2 128 c2]) (partsOf a l (j + 1)) ∧ Fr (At g) w (w3.setCell ⟨g, 1, none⟩ (.slice A3 (j + 1) c3)) := by
  have hsz : (w2.alloc o).heap.size = w2.heap.size + 1 := by simp
  have hsz2 := hp2.size
  have hrow : ∀ k, (Value.slice Aq j kq).ownBlock = some k → w.heap.size ≤ k ∧ k < wr.heap.size := own_lt ho
  have key : ∀ k, k ≠ g → (Value.slice Aq j kq).ownBlock ≠ some k → k < w2.heap.size → (Value.slice A3 (j + 1) c3).ownBlock ≠ some k ∧ (w3.setCell ⟨g, 1, none⟩ (.slice A3 (j + 1) c3)).heap[k]? = w2.heap[k]? := by
    intro k h1 h2 h3
    refine ⟨fun e => ?_, ?_⟩
    · rcases hat3 with h | h
      · rw [h] at e; exact h2 e
      · rw [h, hsz] at e; injection e with e; omega
    · rw [Below.heap_setCell _ _ _ _ h1, hgrow.block k (by rw [hsz]; omega) (fun e => h2 e.symm)]
      exact heap_alloc_old _ _ _ h3
  refine ⟨by simp [World.setCell, Array.getElem?_modify, hb3], own_set hown3 (blk_ne hb3 hown3 (by decide)) _, ?_, ?_⟩
  · have h1 := hq.mono (w' := w3.setCell ⟨g, 1, none⟩ (.slice A3 (j + 1) c3)) (S' := fun k => k ≠ g ∧ (Value.slice A3 (j + 1) c3).ownBlock ≠ some k) (fun k hk hlt => by
      have h3 := key k hk.1 hk.2 (by omega)
      exact ⟨⟨hk.1, h3.1⟩, h3.2.trans (hp2.block k hlt (fun h => h))⟩)
    have h2 : Bs (fun k => k ≠ g ∧ (Value.slice A3 (j + 1) c3).ownBlock ≠ some k) (w3.setCell ⟨g, 1, none⟩ (.slice A3 (j + 1) c3)) (.slice A2 128 c2) (sect l j) := by
      have hb : Bs (fun k => B2 ≤ k ∧ k < w2.heap.size) w2 (.slice A2 128 c2) (sect l j) := (Bs.own ho2).mono (fun k hk h => ⟨h, hk⟩)
      have hk : ∀ k, B2 ≤ k ∧ k < w2.heap.size → (k ≠ g ∧ (Value.slice A3 (j + 1) c3).ownBlock ≠ some k) ∧ (w3.setCell ⟨g, 1, none⟩ (.slice A3 (j + 1) c3)).heap[k]? = w2.heap[k]? := fun k h => by
        have h3 := key k (by omega) (fun e => by have := hrow k e; omega) h.2
        exact ⟨⟨by omega, h3.1⟩, h3.2⟩
      exact (hb.move (fun k h _ => (hk k h).2)).mono (fun k _ h => (hk k h).1)
    exact QRow.snoc (x := (a + (j : Int), sect l j)) h1 h2
  · exact ((hf.pu (hp2.alloc o)).grown hgrow (fun k hk e => by have := hrow k e; omega)).set _ _ (fun _ => rfl)
theorem entPart : Enters Tryz.prog 54 := enters_of Tryz.func54 (by kernel_rfl) rfl
theorem entClone : Enters Tryz.prog 33 := enters_of Tryz.func33 (by kernel_rfl) rfl
set_option maxRecDepth 100000 in
set_option maxHeartbeats 2000000 in
theorem diskWrite (g : Nat) (img : Bytes) (calls : Int) (a m : Nat) (v : Value) (l : Bytes) (S : Nat → Prop) (w : World) (hd : DiskNil w g img calls) (hv : Bs S w v l) (hl : img.length ≤ 17592186044416) (hm : l.length = m * 128) (hc : calls < 0) (ht : thereB (img.length / 128) a m = true) :
    Calls Tryz.prog 24 #[.pointer (some ⟨g, 0, none⟩), .int .i64 a, v] w fun e w' => e = .returned (.int .i64 0) ∧ DiskAt w' g img (partsOf a l m) calls ∧ Fr (At g) w w' := by
  obtain ⟨h, hnil⟩ := hd
  have Ct := Lib.hid (diskThere g img [] calls a m w h hl (by have := (thereB_iff _ _ _).1 ht; omega))
  have Cc := Lib.hid (diskCall g img [] calls w h hc)
  obtain ⟨A0, c0, B0, k0, -, c1, -, -, -, -, -, -, -, -, hblk, hs, -⟩ := h.cells
  rw [hnil] at c1
  obtain ⟨rfl, -, rfl⟩ : none = B0 ∧ True ∧ 0 = k0 := by injection c1 with c1; injection c1 with e1 e2 e3; exact ⟨e1, trivial, e3⟩
  have hv := hv.ne (g := g) (fun o x => by
    rw [cell_of_row w g o _ _ _ hblk]
    match o with
    | 0 => simp [u8v]
    | 1 => simp [u8v]
    | 2 => simp [u8v]
    | o + 3 => simp)
  obtain ⟨A, c, rfl, hcl, hmx⟩ := hv.shape
  have hgl := blk_lt hblk
  rw [ht] at Ct
  have htb := (thereB_iff _ _ _).1 ht
  have hmI : ((l.length : Nat) : Int) % 128 = 0 := by omega
  have hdI : ((l.length : Nat) : Int) / 128 = (m : Int) := by omega
  have Hm := Lib.hid hm
  have Hv := Lib.hid hv
  have Hs := Lib.hid hs
  have Hblk := Lib.hid hblk
  have hlm : m * 128 ≤ 17592186044416 := by omega
  have ham : a + m ≤ 17592186044416 := by omega
  clear h ht hv hm hs hblk htb hnil c1
  go_enter Tryz.func24, Tryz.ntmps24
  go_wp2_with fail
  refine Ct.out.mono ?_
  rintro e w' ⟨rfl, rfl⟩
  go_wp2_with fail
  refine Cc.out.mono ?_
  rintro e w' ⟨rfl, rfl⟩
  go_wp2
  go_loopw [8, 28] (fun _ i wr => ∃ (j : Nat) (vq : Value) (cs : List Value), j ≤ m ∧ i = .int .i64 j ∧ wr.heap[g]? = some (.cells #[.slice A0 img.length c0, vq, .int .i64 calls] 73 (0, 0)) ∧ wr.ownsRow w.heap.size 127 2 vq j cs ∧ QRow wr (fun k => k ≠ g ∧ vq.ownBlock ≠ some k) cs (partsOf a l j) ∧ Fr (At g) w wr) (fun _ i _ => m - (intOf i).toNat)
  case atStart => exact ⟨0, .slice none 0 0, [], Nat.zero_le _, rfl, Hblk.out, World.ownsRow_nil _ _ _ _, ⟨rfl, fun j x hj => by simp [partsOf] at hj⟩, Fr.refl _ _⟩
  case round =>
    obtain ⟨j, vq, cs, hj, rfl, hb, ho, hq, hf⟩ := hrel
    obtain ⟨Aq, kq, rfl⟩ := own_shape ho
    have d1 : wr.cell? ⟨g, 1, none⟩ = some (.slice Aq j kq) := by rw [cell_of_row wr g 1 _ _ _ hb]; rfl
    have hglr := blk_lt hb
    have Hb := Lib.hid hb
    have Ho := Lib.hid ho
    have Hq := Lib.hid hq
    have Hf := Lib.hid hf
    clear hb ho hq hf
    by_cases hlt : j < m
    · have hb1 : Bs (fun k => k ≠ g) wr (.slice A l.length c) l := Hv.out.fr Hf.out (fun k _ hk e => hk e)
      obtain ⟨bb, oo, rfl, _, _, _⟩ := Bs.cells hb1 (by intro e; have := Hm.out; rw [e] at this; simp at this; omega)
      have hpart : Bs (fun k => k ≠ g) wr (.slice (some ⟨bb, oo + j * 128, none⟩) 128 (c - j * 128)) (sect l j) := by
        have h1 := Bs.drop (k := j * 128) hb1 (by have := Hm.out; omega)
        rw [if_neg (by have := Hm.out; omega)] at h1
        have h2 := Bs.take (k := 128) (c' := c - j * 128) h1 (by rw [List.length_drop]; have := Hm.out; omega) (by have := Hm.out; omega) (by omega)
        simpa [Addr.add_lit, sect] using h2
      have hsl : (sect l j).length = 128 := by rw [sect, List.length_take, List.length_drop]; have := Hm.out; omega
      have Hpart := Lib.hid (fun W : World => qs (diskPart bb oo l.length c j W (by have := Hm.out; omega) hcl hmx))
      have Hpt := Lib.hid hpart
      have Hsl := Lib.hid hsl
      clear hpart hsl hb1
      have haj : (a : Int) + (j : Int) ≤ 17592186044416 := by omega
      have haj0 : (0 : Int) ≤ (a : Int) + (j : Int) := by omega
      have hwaj : IntKind.i64.wrap ((a : Int) + (j : Int)) = (a : Int) + (j : Int) := IntWalk.i64_in _ (by omega)
      go_wp2
      go_region_law
        (first
          | (refine step_append_any (P := Tryz.prog) (w2.alloc (.cells #[.int .i64 ((a : Int) + (j : Int)), .slice A2 128 c2] 127)) (by rfl) (.tmp 35) (.tmp 44) 71 (by rfl) w.heap.size 127 (.agg #[.int .i64 0, .slice none 0 0]) 2 32 Tryz.underlying71 infoW (by rfl) (by decide) (.slice Aq j kq) j cs (by rfl) (Hown2.out.alloc _) (some ⟨w2.heap.size, 0, none⟩) 1 1 [.int .i64 ((a : Int) + (j : Int)), .slice A2 128 c2] (by rfl) (rds_new w2 [.int .i64 ((a : Int) + (j : Int)), .slice A2 128 c2] 127 1 2 (by rfl)) (by simp [Value.oneCell']) (by omega) (by have := Hsz2.out.1; simp; omega) ?_; intro v3 w3 hown3 hgrow3 hat3; obtain ⟨A3, c3, rfl⟩ := own_shape hown3; have hb3 : w3.heap[g]? = some (.cells #[.slice A0 img.length c0, .slice Aq j kq, .int .i64 calls] 73 (0, 0)) := (hgrow3.block g (by have := Hsz2.out.2; simp; omega) (blk_ne Hb.out Ho.out (by decide))).trans ((heap_alloc_old _ _ _ Hsz2.out.2).trans ((Hpw2.out.block g hglr (fun h => h)).trans Hb.out)); have x3 : w3.cell? ⟨g, 1, none⟩ = some (.slice Aq j kq) := (by rw [cell_of_row w3 g 1 _ _ _ hb3]; rfl); have f3 : w3.frozen? ⟨g, 1, none⟩ = false := (by simp [World.frozen?, hb3]); have Hb3 := Lib.hid hb3; clear hb3)
          | (go_simp; first
              | (go_at_call 54; refine (Hpart.out _).mono ?_; rintro e w' ⟨rfl, rfl⟩)
              | (go_at_call 33; refine (cloneBytes (.slice (some ⟨bb, oo + j * 128, none⟩) 128 (c - j * 128)) (sect l j) (fun k => k ≠ g) _ (Hpt.out.pu ((Fr.refl _ _).drew)) (by rw [Hsl.out]; omega)).mono ?_; rintro e w2 ⟨v2, rfl, ho2, hp2⟩; rw [Hsl.out] at ho2; obtain ⟨A2, c2, rfl⟩ := own_shape ho2; have hpw2 : Pu wr w2 := ((Fr.refl No wr).drew).pu hp2; have Hown2 := Lib.hid (own_pu Ho.out hpw2); have Hsz2 := Lib.hid (show w.heap.size ≤ w2.heap.size ∧ g < w2.heap.size from ⟨Nat.le_trans Hf.out.size hpw2.size, Nat.lt_of_lt_of_le hglr hpw2.size⟩); have hg2 := Hsz2.out.2; have d2 := (hpw2.pcell g 1 hglr).trans d1; have Hpw2 := Lib.hid hpw2; have Ho2 := Lib.hid ho2; clear hpw2 ho2 hp2)
             go_wp2_with fail))
      all_goals go_wp2
      all_goals
        have hwr := write_round (A0 := A0) (c0 := c0) (n := img.length) (calls := calls) Hf.out Ho.out Hq.out Hpw2.out Ho2.out (Nat.le_refl _) hglr hgrow3 hown3 hat3 Hb3.out
        exact ⟨⟨j + 1, _, _, by omega, by go_num, hwr⟩, by simp [intOf]; omega⟩
    · obtain rfl : j = m := by omega
      go_wp2
      go_ret
      have hq2 : QRow wr (fun k => k ≠ g) cs (partsOf (a : Int) l j) := Hq.out.mono (fun k hk _ => ⟨hk.1, rfl⟩)
      have hsl := hq2.sl (base := w.heap.size) (v := .slice Aq j kq) (by rw [partsOf_length]; exact Ho.out) (fun k hk e => blk_ne Hb.out Ho.out (by decide) (by rw [hk, e]))
      exact ⟨rfl, ⟨_, _, Hb.out, Hs.out.fr Hf.out (fun k _ hk e => hk e), hsl⟩, Hf.out⟩
end Go.Proofs.YtaendhbiehknlaaGreatDoor
