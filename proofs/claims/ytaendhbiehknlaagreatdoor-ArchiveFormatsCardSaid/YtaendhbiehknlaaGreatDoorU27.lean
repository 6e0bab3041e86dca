/- What is proved here, of the given program: The log of an empty region: its end, what it tells. The log of an empty region: trim. -/
import Derived.Test.YtaendhbiehknlaaGreatDoorU26
import Derived.Lib.SliceRun
set_option linter.unusedVariables false
set_option linter.unusedSimpArgs false
set_option linter.constructorNameAsVariable false
namespace Go.Proofs.YtaendhbiehknlaaGreatDoor
open Go.RowKit Go.Shelf Go.Proofs

theorem logOctets (d f s : Value) (size : Nat) (w : World) (hs : size ≤ 1000) :
    Calls Tryz.prog 213 #[.agg #[d, f, s, .int .i64 size]] w fun e w' => e = .returned (.int .i64 ((size * 128 : Nat) : Int)) ∧ Pu w w' := by
  go_enter Tryz.func213, Tryz.ntmps213
  go_wp2
  go_ret
  exact ⟨by show _ = Ending.returned _; simp, (Fr.refl _ _).alloc _⟩
/-- The log's block. -/
def LogAt (w : World) (g d : Nat) (f s size : Nat) (vb : Value) (last used clean : Int) (vt vc : Value) (sure : Int) : Prop :=
  w.heap[g]? = some (.cells #[.pointer (some ⟨d, 0, none⟩), .int .i64 f, .int .i64 s, .int .i64 size, vb, .int .i64 last, .int .i64 used, .int .i64 clean, vt, vc, .int .i64 sure, .bool false, .bool false] 222 (0, 0))
theorem log_cells {w : World} {g d f s size : Nat} {vb vt vc : Value} {last used clean sure : Int} (h : LogAt w g d f s size vb last used clean vt vc sure) :
    w.cell? ⟨g, 0, none⟩ = some (.pointer (some ⟨d, 0, none⟩)) ∧ w.cell? ⟨g, 1, none⟩ = some (.int .i64 f) ∧ w.cell? ⟨g, 2, none⟩ = some (.int .i64 s) ∧ w.cell? ⟨g, 3, none⟩ = some (.int .i64 size) ∧ w.cell? ⟨g, 4, none⟩ = some vb ∧ w.cell? ⟨g, 5, none⟩ = some (.int .i64 last) ∧ w.cell? ⟨g, 6, none⟩ = some (.int .i64 used) ∧ w.cell? ⟨g, 8, none⟩ = some vt ∧ w.cell? ⟨g, 9, none⟩ = some vc ∧ ∀ i, w.frozen? ⟨g, i, none⟩ = false := by
  unfold LogAt at h
  refine ⟨?_, ?_, ?_, ?_, ?_, ?_, ?_, ?_, ?_, fun i => by simp [World.frozen?, h]⟩ <;> (rw [cell_of_row _ _ _ _ _ _ h]; rfl)
set_option maxRecDepth 100000 in
set_option maxHeartbeats 2000000 in
theorem logEndZero (g d f s size : Nat) (w : World) (hs : size ≤ 1000) (c0 : w.cell? ⟨g, 0, none⟩ = some (.pointer (some ⟨d, 0, none⟩))) (c1 : w.cell? ⟨g, 1, none⟩ = some (.int .i64 f)) (c2 : w.cell? ⟨g, 2, none⟩ = some (.int .i64 s)) (c3 : w.cell? ⟨g, 3, none⟩ = some (.int .i64 size))
    (c5 : w.cell? ⟨g, 5, none⟩ = some (.int .i64 0)) (c6 : w.cell? ⟨g, 6, none⟩ = some (.int .i64 0)) :
    Calls Tryz.prog 139 #[.pointer (some ⟨g, 0, none⟩)] w fun e w' => e = .returned (.int .i64 0) ∧ Pu w w' := by
  have hgl := World.block_lt_of_cell? w _ c0
  have hgl : g < w.heap.size := hgl
  go_enter Tryz.func139, Tryz.ntmps139
  go_wp2
  go_region_held3 (fun w' => w'.cell? ⟨g, 0, none⟩ = some (.pointer (some ⟨d, 0, none⟩)) ∧ w'.cell? ⟨g, 1, none⟩ = some (.int .i64 f) ∧ w'.cell? ⟨g, 2, none⟩ = some (.int .i64 s) ∧ w'.cell? ⟨g, 3, none⟩ = some (.int .i64 size) ∧ w'.cell? ⟨g, 5, none⟩ = some (.int .i64 0) ∧ w'.cell? ⟨g, 6, none⟩ = some (.int .i64 0))
    (first | go_keep | (refine ⟨?_, ?_, ?_, ?_, ?_, ?_⟩ <;> (rw [hp2.pcell g _ hgl]; assumption)))
    (first | (go_at_call 213; refine (logOctets _ _ _ size _ hs).mono ?_; rintro e w2 ⟨rfl, hp2⟩))
  all_goals go_wp2
  all_goals go_ret
  all_goals exact ⟨rfl, ((Fr.refl _ _).drew).pu hp2⟩
abbrev LC (w : World) (g d f s size n bb oo c c9 : Nat) (A9 : Option Addr) (w' : World) : Prop := w'.cell? ⟨g, 0, none⟩ = some (.pointer (some ⟨d, 0, none⟩)) ∧ w'.cell? ⟨g, 1, none⟩ = some (.int .i64 f) ∧ w'.cell? ⟨g, 2, none⟩ = some (.int .i64 s) ∧ w'.cell? ⟨g, 3, none⟩ = some (.int .i64 size) ∧ w'.cell? ⟨g, 4, none⟩ = some (.slice (some ⟨bb, oo, none⟩) n c) ∧ w'.cell? ⟨g, 8, none⟩ = some (.slice none 0 0) ∧ w'.cell? ⟨g, 9, none⟩ = some (.slice A9 32 c9) ∧ Pu w w'
theorem LC.pu {w1 : World} {g d f s size n bb oo c c9 : Nat} {A9 : Option Addr} {w w' : World} (hp : Pu w w') (h : LC w1 g d f s size n bb oo c c9 A9 w) : LC w1 g d f s size n bb oo c c9 A9 w' := by
  obtain ⟨h0, h1, h2, h3, h4, h5, h6, h7⟩ := h
  have hg : g < w.heap.size := World.block_lt_of_cell? w _ h0
  exact ⟨(hp.pcell g _ hg).trans h0, (hp.pcell g _ hg).trans h1, (hp.pcell g _ hg).trans h2, (hp.pcell g _ hg).trans h3, (hp.pcell g _ hg).trans h4, (hp.pcell g _ hg).trans h5, (hp.pcell g _ hg).trans h6, h7.pu hp⟩
theorem LC.out {w1 : World} {g d f s size n bb oo c c9 : Nat} {A9 : Option Addr} {w : World} (h : LC w1 g d f s size n bb oo c c9 A9 w) : Pu w1 w := h.2.2.2.2.2.2.2
theorem LC.drew {w1 : World} {g d f s size n bb oo c c9 : Nat} {A9 : Option Addr} {w : World} (h : LC w1 g d f s size n bb oo c c9 A9 w) : LC w1 g d f s size n bb oo c c9 A9 w.drew := LC.pu (Fr.refl _ _).drew h
theorem LC.alloc {w1 : World} {g d f s size n bb oo c c9 : Nat} {A9 : Option Addr} {w : World} (o : Obj) (h : LC w1 g d f s size n bb oo c c9 A9 w) : LC w1 g d f s size n bb oo c c9 A9 (w.alloc o) := LC.pu ((Fr.refl _ _).alloc o) h
theorem LC.set {w1 : World} {g d f s size n bb oo c c9 : Nat} {A9 : Option Addr} {w : World} (b i : Nat) (v : Value) (hb : w1.heap.size ≤ b) (hg : g ≠ b) (h : LC w1 g d f s size n bb oo c c9 A9 w) : LC w1 g d f s size n bb oo c c9 A9 (w.setCell ⟨b, i, none⟩ v) := by
  obtain ⟨h0, h1, h2, h3, h4, h5, h6, h7⟩ := h
  have k : ∀ o, (w.setCell ⟨b, i, none⟩ v).cell? ⟨g, o, none⟩ = w.cell? ⟨g, o, none⟩ := fun o => World.cell?_of_block (a := ⟨g, o, none⟩) (Below.heap_setCell _ _ _ _ hg)
  exact ⟨(k _).trans h0, (k _).trans h1, (k _).trans h2, (k _).trans h3, (k _).trans h4, (k _).trans h5, (k _).trans h6, h7.set ⟨b, i, none⟩ v (fun h => absurd h (by show ¬ b < w1.heap.size; omega))⟩
theorem parsed_block {W : World} {g : Nat} {a b c d : Value} {t : TypeId} (h : W.heap[g]? = some (.cells #[a, b, c, d] t (0, 0))) :
    W.cell? ⟨g, 0, none⟩ = some a ∧ W.cell? ⟨g, 1, none⟩ = some b ∧ W.cell? ⟨g, 2, none⟩ = some c ∧ W.cell? ⟨g, 3, none⟩ = some d ∧ (∀ i, W.frozen? ⟨g, i, none⟩ = false) := by
  refine ⟨?_, ?_, ?_, ?_, fun i => by simp [World.frozen?, h]⟩ <;> (rw [cell_of_row _ _ _ _ _ _ h]; rfl)
set_option maxRecDepth 100000 in
set_option maxHeartbeats 2000000 in
theorem logScanZero (g d f s size : Nat) (vb vc : Value) (n : Nat) (S S' : Nat → Prop) (w : World) (hs : 1 ≤ s ∧ s ≤ 256) (hz : 2 ≤ size ∧ size ≤ 512) (hn : n = s * size * 128) (h : LogAt w g d f s size vb 0 0 0 (.slice none 0 0) vc 0) (hb : Bs S w vb (zeros n)) (hc : Bs S' w vc (zeros 32)) :
    Calls Tryz.prog 137 #[.pointer (some ⟨g, 0, none⟩)] w fun e w' => e = .returned (.tuple #[]) ∧ Pu w w' := by
  obtain ⟨c0, c1, c2, c3, c4, -, -, c8, c9, -⟩ := log_cells h
  have hgl : g < w.heap.size := blk_lt h
  have hpos : 1 * 256 ≤ s * (size * 128) := Nat.mul_le_mul hs.1 (by omega)
  have hmx : s * (size * 128) ≤ 256 * 65536 := Nat.mul_le_mul hs.2 (by omega)
  have hn' : n = s * (size * 128) := by rw [hn, Nat.mul_assoc]
  have hle : size * 128 ≤ n := by rw [hn']; exact Nat.le_trans (by omega) (Nat.mul_le_mul hs.1 (Nat.le_refl (size * 128)))
  obtain ⟨A, c, rfl, hcc, hmm⟩ := hb.shape
  rw [zeros_length] at hcc
  obtain ⟨bb, oo, rfl, _, _, _⟩ := Bs.cells hb (by intro h; have := congrArg List.length h; rw [zeros_length] at this; simp at this; omega)
  have hpart : Bs S w (.slice (some ⟨bb, oo, none⟩) (size * 128) c) (zeros (size * 128)) := by
    have := Bs.take (k := size * 128) hb (by rw [zeros_length]; exact hle) (Nat.le_trans hle hcc) hmm
    rwa [zeros_take, Nat.min_eq_left hle] at this
  rw [zeros_length] at c4
  obtain ⟨A9, c9', rfl, _, _⟩ := hc.shape
  rw [zeros_length] at c9 hc
  have Hpart := Lib.hid hpart
  have Hc := Lib.hid (show Bs S' w (.slice A9 (zeros 32).length c9') (zeros 32) by rw [zeros_length]; exact hc)
  rw [zeros_length] at Hc
  have hs1 := hs.1
  have hsz2 := hz.2
  have hsz1 := hz.1
  have hcs : size * 128 ≤ c := Nat.le_trans hle hcc
  have hw0 : IntKind.i64.wrap 0 = 0 := rfl
  have hw2 : IntKind.i64.wrap 1 = 1 := rfl
  have hw1 : IntKind.i64.wrap ((size : Int) * 128) = (size : Int) * 128 := IntWalk.i64_in _ (by omega)
  have hI0 : (0 : Int) ≤ (size : Int) * 128 := by omega
  have hI1 : (size : Int) * 128 ≤ (c : Int) := by omega
  have hIn : ((size : Int) * 128).toNat = size * 128 := by omega
  have hc0 : ¬ c = 0 := by omega
  have Hle := Lib.hid hle
  have Hcs := Lib.hid hcs
  have Hcc := Lib.hid hcc
  clear hle hcs hcc
  clear h hb hc hn hn' hpart hpos hmx hs hz
  go_enter Tryz.func137, Tryz.ntmps137
  go_wp2
  refine wp_loop_rounds 1 ?_
  rw [rounds_succ]
  go_wp2
  have hL : LC w g d f s size n bb oo c c9' A9 w := ⟨c0, c1, c2, c3, c4, c8, c9, Fr.refl _ _⟩
  go_region_held3 (fun w' => w'.cell? ⟨g, 0, none⟩ = some (.pointer (some ⟨d, 0, none⟩)) ∧ w'.cell? ⟨g, 1, none⟩ = some (.int .i64 f) ∧ w'.cell? ⟨g, 2, none⟩ = some (.int .i64 s) ∧ w'.cell? ⟨g, 3, none⟩ = some (.int .i64 size) ∧ w'.cell? ⟨g, 4, none⟩ = some (.slice (some ⟨bb, oo, none⟩) n c) ∧ w'.cell? ⟨g, 8, none⟩ = some (.slice none 0 0) ∧ w'.cell? ⟨g, 9, none⟩ = some (.slice A9 32 c9') ∧ Pu w w')
    (first | with_reducible exact hk | with_reducible exact LC.drew hL | with_reducible exact LC.drew (LC.alloc _ hL) | with_reducible exact LC.alloc _ (by assumption) | with_reducible exact LC.set _ _ _ (by first | omega | (simp; omega)) (by first | omega | (simp; omega)) (LC.set _ _ _ (by first | omega | (simp; omega)) (by first | omega | (simp; omega)) (LC.set _ _ _ (by first | omega | (simp; omega)) (by first | omega | (simp; omega)) (LC.set _ _ _ (by first | omega | (simp; omega)) (by first | omega | (simp; omega)) (by assumption)))))
    (first
      | (go_at_call 213; refine (logOctets _ _ _ size _ (by omega)).mono ?_; rintro e w2 ⟨rfl, hp2⟩; have hk := LC.pu (w1 := w) (g := g) (d := d) (f := f) (s := s) (size := size) (n := n) (bb := bb) (oo := oo) (c := c) (c9 := c9') (A9 := A9) hp2 (by assumption); have hsz := (LC.out (w1 := w) (g := g) (d := d) (f := f) (s := s) (size := size) (n := n) (bb := bb) (oo := oo) (c := c) (c9 := c9') (A9 := A9) hk).size; (first | (have hn := (hp2.block _ (blk_lt hn) (fun h => h)).trans hn; obtain ⟨y0, y1, y2, y3, yf⟩ := parsed_block hn) | (have hn := (hp2.block _ (by simp) (fun h => h)).trans (heap_alloc_new _ _); obtain ⟨y0, y1, y2, y3, yf⟩ := parsed_block hn) | (have hn := (hp2.block w.heap.size (by simp) (fun h => h)).trans (show (w.alloc (.cells #[.slice none 0 0, .slice none 0 0, .bool false, .int .i64 0] 367)).drew.heap[w.heap.size]? = some (.cells #[.slice none 0 0, .slice none 0 0, .bool false, .int .i64 0] 367 (0, 0)) from heap_alloc_new w _); obtain ⟨y0, y1, y2, y3, yf⟩ := parsed_block hn) | skip); have Hp2 := Lib.hid hp2; clear hp2)
      | (go_at_call 212; refine (segParseZero _ _ (size * 128) 0 0 (zeros 32) S S' _ (Hpart.out.pu (LC.out (w1 := w) (g := g) (d := d) (f := f) (s := s) (size := size) (n := n) (bb := bb) (oo := oo) (c := c) (c9 := c9') (A9 := A9) (by assumption))) (Hc.out.pu (LC.out (w1 := w) (g := g) (d := d) (f := f) (s := s) (size := size) (n := n) (bb := bb) (oo := oo) (c := c) (c9 := c9') (A9 := A9) (by assumption))) (zeros_length _) (by omega) (by omega) (by omega) (by omega)).mono ?_; rintro e w2 ⟨rfl, hp2⟩; have hk := LC.pu (w1 := w) (g := g) (d := d) (f := f) (s := s) (size := size) (n := n) (bb := bb) (oo := oo) (c := c) (c9 := c9') (A9 := A9) hp2 (by assumption); have hsz := (LC.out (w1 := w) (g := g) (d := d) (f := f) (s := s) (size := size) (n := n) (bb := bb) (oo := oo) (c := c) (c9 := c9') (A9 := A9) hk).size; (first | (have hn := (hp2.block _ (blk_lt hn) (fun h => h)).trans hn; obtain ⟨y0, y1, y2, y3, yf⟩ := parsed_block hn) | (have hn := (hp2.block _ (by simp) (fun h => h)).trans (heap_alloc_new _ _); obtain ⟨y0, y1, y2, y3, yf⟩ := parsed_block hn) | (have hn := (hp2.block w.heap.size (by simp) (fun h => h)).trans (show (w.alloc (.cells #[.slice none 0 0, .slice none 0 0, .bool false, .int .i64 0] 367)).drew.heap[w.heap.size]? = some (.cells #[.slice none 0 0, .slice none 0 0, .bool false, .int .i64 0] 367 (0, 0)) from heap_alloc_new w _); obtain ⟨y0, y1, y2, y3, yf⟩ := parsed_block hn) | skip); have Hp2 := Lib.hid hp2; clear hp2))
  all_goals
    rename_i hHeld
    have HH := Lib.hid (LC.out (w1 := w) (g := g) (d := d) (f := f) (s := s) (size := size) (n := n) (bb := bb) (oo := oo) (c := c) (c9 := c9') (A9 := A9) hHeld)
    clear hHeld
    go_wp2
    exact bodyPost_ret (results_none rfl _ _ _) rfl ⟨rfl, HH.out⟩
end Go.Proofs.YtaendhbiehknlaaGreatDoor

namespace Go.Proofs.YtaendhbiehknlaaGreatDoor
open Go.RowKit Go.Shelf Go.Proofs

theorem zeroU8 (w : World) : (zeroValue 5).run Tryz.prog w = .ok (.int .u8 0) w := by kernel_rfl
theorem own_clear (w : World) (base n cap g : Nat) (l : Bytes) (ho : w.ownsRow base 5 1 (.slice (some ⟨g, 0, none⟩) n cap) n (u8s l)) (hn : 0 < n) :
    ∃ w', (∀ ty, (Builtin.clear_ #[23] ty #[.slice (some ⟨g, 0, none⟩) n cap]).run Tryz.prog w = .ok (.tuple #[]) w') ∧ w'.ownsRow base 5 1 (.slice (some ⟨g, 0, none⟩) n cap) n (u8s (zeros n)) ∧ Fr (At g) w w' := by
  have hl : l.length = n := by have := ho.1; simpa [u8s] using this
  have hcell : ∀ j, j < n → ∃ u, w.cell? ⟨g, j, none⟩ = some u ∧ w.frozen? ⟨g, j, none⟩ = false := by
    intro j hj
    obtain ⟨x, hx⟩ : ∃ x, (u8s l)[j]? = some x := ⟨_, List.getElem?_eq_getElem (by simpa [u8s, hl] using hj)⟩
    have h1 := ho.cells (g := g) rfl j x hx
    rw [Addr.add_lit, Nat.zero_add] at h1
    refine ⟨x, h1, ?_⟩
    rcases ho.2 with ⟨h, _⟩ | ⟨g', cap', cur, h, _, hh, _⟩
    · cases h
    · injection h with h _ _
      injection h with h
      injection h with h
      subst h
      simp [World.frozen?, hh]
  refine ⟨w.setCells g 0 (List.replicate n (.int .u8 0)), fun ty => Lib.run_clear_slice w 23 5 ty (.int .u8 0) Tryz.underlying23 zeroU8 rfl rfl g 0 n cap hn (fun j hj => ?_) (fun j hj => ?_), ?_, (Fr.refl _ _).setCells _ _ _ (fun _ => rfl)⟩
  · obtain ⟨u, h1, _⟩ := hcell j hj
    rw [Nat.zero_add, h1]; rfl
  · obtain ⟨u, _, h2⟩ := hcell j hj
    rw [Nat.zero_add]; exact h2
  · have h1 := own_setPart (List.replicate n (Value.int .u8 0)) 0 w _ ho (by simp [u8s, hl])
    have h2 : (u8s l).take 0 ++ List.replicate n (Value.int .u8 0) ++ (u8s l).drop (0 + (List.replicate n (Value.int .u8 0)).length) = u8s (zeros n) := by
      have : u8s (zeros n) = List.replicate n (Value.int .u8 0) := by rw [u8s, zeros, List.map_replicate]; rfl
      rw [this]; simp [u8s, hl]
    rw [h2] at h1
    exact h1
theorem patch_same (img : Bytes) (o n : Nat) (h : (img.drop o).take n = zeros n) (hl : o + n ≤ img.length) : patch img o (zeros n) = img := by
  rw [patch, zeros_length, ← h, List.append_assoc, ← List.drop_drop, List.take_append_drop, List.take_append_drop]
theorem LogAt.fr {w w' : World} {S : Nat → Prop} {g d f s size : Nat} {vb vt vc : Value} {last used clean sure : Int} (h : LogAt w g d f s size vb last used clean vt vc sure) (hf : Fr S w w') (hg : ¬ S g) : LogAt w' g d f s size vb last used clean vt vc sure := (hf.block g (blk_lt h) hg).trans h
set_option maxRecDepth 100000 in
set_option maxHeartbeats 2000000 in
theorem logTrimZero (w0 : World) (g gd gb f s size base cb : Nat) (vc : Value) (n : Nat) (img : Bytes) (calls : Int) (w : World) (hs : 1 ≤ s ∧ s ≤ 256) (hz : 2 ≤ size ∧ size ≤ 512) (hf : f ≤ 1000) (hn : n = s * size * 128)
    (h : LogAt w g gd f s size (.slice (some ⟨gb, 0, none⟩) n cb) 0 0 0 (.slice none 0 0) vc 0) (hb : w.ownsRow base 5 1 (.slice (some ⟨gb, 0, none⟩) n cb) n (u8s (zeros n))) (hd : DiskNil w0 gd img calls) (hp0 : Pu w0 w) (hgb : w0.heap.size ≤ gb) (hg : w0.heap.size ≤ g) (hne : gb ≠ g) (hc : calls < 0) (hl : img.length ≤ 17592186044416) (ht : f + s * size ≤ img.length / 128) (hi : (img.drop (f * 128)).take n = zeros n) :
    Calls Tryz.prog 138 #[.pointer (some ⟨g, 0, none⟩)] w fun e w' => e = .returned (.int .i64 0) ∧ LogAt w' g gd f s size (.slice (some ⟨gb, 0, none⟩) n cb) 0 0 0 (.slice none 0 0) vc 0 ∧ DiskNil w' gd img calls ∧ Fr (At gd) w0 w' ∧ w.heap.size ≤ w'.heap.size := by
  have hgd : gd < w0.heap.size := hd.at_.lt
  have hss : 1 ≤ s * size ∧ s * size ≤ 131072 := ⟨Nat.mul_pos (by omega) (by omega), Nat.le_trans (Nat.mul_le_mul hs.2 hz.2) (by decide)⟩
  have hn0 : 0 < n := by rw [hn]; omega
  have hnm : n ≤ 16777216 := by rw [hn]; omega
  obtain ⟨_, _, e1, hcb, hmb⟩ := own_shape2 hb
  injection e1 with e2 _ e1
  subst e1 e2
  have hpatch : patch img (f * 128) (zeros n) = img := patch_same img (f * 128) n hi (by rw [hn]; omega)
  have Hn := Lib.hid hn
  have Hl := Lib.hid h
  have Hb := Lib.hid hb
  have Hd := Lib.hid hd
  have Hp0 := Lib.hid hp0
  have Ht := Lib.hid ht
  have Hpatch := Lib.hid hpatch
  have Hss := Lib.hid hss
  have hs1 := hs.1
  have hz1 := hz.1
  have hz2 := hz.2
  have hs2 := hs.2
  obtain ⟨c0, c1, c2, c3, -, c5, c6, -, -, -⟩ := log_cells h
  have C1 := Lib.hid (logEndZero g gd f s size w (by omega) c0 c1 c2 c3 c5 c6)
  clear h hb hd hp0 ht hi hpatch hn hss hs hz c0 c1 c2 c3 c5 c6
  go_enter Tryz.func138, Tryz.ntmps138
  go_wp2_with fail
  refine C1.out.mono ?_
  rintro e w1 ⟨rfl, hp1⟩
  have Hl1 := Lib.hid (Hl.out.fr hp1 (fun h => h))
  have Hb1 := Lib.hid (own_pu Hb.out hp1)
  obtain ⟨w2, hclr, hb2, hf2⟩ := own_clear w1 base n cb gb (zeros n) Hb1.out hn0
  obtain ⟨-, -, -, -, c4, -, -, -, -, -⟩ := log_cells Hl1.out
  have Hl2 := Lib.hid (Hl1.out.fr hf2 (fun e => hne e.symm))
  have Hp2 := Lib.hid (Fr.new (Hp0.out.pu hp1) hf2 hgb)
  have Hs2 := Lib.hid (Nat.le_trans hp1.size hf2.size)
  have Hb2 := Lib.hid hb2
  clear hp1 hf2 hb2 C1 Hl
  go_wp2_with fail
  obtain ⟨c0, c1, c2, c3, c4', c5, c6, -, -, -⟩ := log_cells Hl2.out
  clear c4 hclr
  have hmul : IntKind.i64.wrap ((s : Int) * (size : Int)) = ((s * size : Nat) : Int) := by rw [← Int.natCast_mul]; exact IntWalk.i64_in _ (by have := Hss.out; omega)
  have hpos : (0 : Int) < ((s * size : Nat) : Int) := by have := Hss.out; omega
  go_quiet (fail)
  have hposI : (0 : Int) < (s : Int) * (size : Int) := by rw [← Int.natCast_mul]; exact hpos
  have hposB : decide ((0 : Int) < (s : Int) * (size : Int)) = true := by simpa using hposI
  have Hl3 := Lib.hid (Hl2.out.fr ((Fr.refl No w2).drewN nq) (fun h => h))
  have Hp3 := Lib.hid (Hp2.out.drewN nq)
  have Hs3 := Lib.hid (show w.heap.size ≤ (w2.drewN nq).heap.size from Hs2.out)
  have Hb3 := Lib.hid (own_pu Hb2.out ((Fr.refl No w2).drewN nq))
  generalize w2.drewN nq = w3 at *
  clear c0 c1 c2 c3 c4' c5 c6 Hl2
  obtain ⟨c0, c1, c2, c3, c4, c5, c6, -, -, -⟩ := log_cells Hl3.out
  go_wp2
  refine wp_region_tail 19 mixed ?hB ?hk ?_
  case hB => kernel_rfl
  case hk => exact of_decide_eq_true (by kernel_rfl)
  dsimp only [List.take]
  repeat (go_big_quiet_step (fail))
  refine wpQuiet_nil ?_
  intro _ hw'
  obtain ⟨nr, hw''⟩ := hw'
  subst hw''
  dsimp only [List.drop]
  have Hl4 := Lib.hid (Hl3.out.fr ((Fr.refl No w3).drewN nr) (fun h => h))
  have Hp4 := Lib.hid (Hp3.out.drewN nr)
  have Hs4 := Lib.hid (show w.heap.size ≤ (w3.drewN nr).heap.size from Hs3.out)
  have Hb4 := Lib.hid (own_pu Hb3.out ((Fr.refl No w3).drewN nr))
  generalize w3.drewN nr = w4 at *
  clear c0 c1 c2 c3 c4 c5 c6
  go_wp2_with fail
  have hW := diskWrite gd img calls f (s * size) (.slice (some ⟨gb, 0, none⟩) n cb) (zeros n) _ w4 (Hd.out.pu Hp4.out) (by have h9 := Bs.own Hb4.out; exact h9) hl (by rw [zeros_length]; exact Hn.out) hc ((thereB_iff _ _ _).2 (by have := Ht.out; omega))
  refine hW.mono ?_
  rintro e w5 ⟨rfl, hd5, hf5⟩
  have Hd5 := Lib.hid hd5
  have Hl5 := Lib.hid (Hl4.out.fr hf5 (fun e => by have e : g = gd := e; omega))
  have Hf5 := Lib.hid (Hp4.out.any.trans hf5 (fun _ _ h => h))
  have Hs5 := Lib.hid (Nat.le_trans Hs4.out hf5.size)
  clear hd5 hf5 hW
  obtain ⟨c0, -, -, -, -, -, -, -, -, -⟩ := log_cells Hl5.out
  have hq5 : QOk img.length (partsOf (f : Int) (zeros n) (s * size)) := partsOf_ok f (zeros n) (s * size) img.length (by rw [zeros_length]; exact Hn.out) (by have := Ht.out; omega) (s * size) (Nat.le_refl _)
  have hlay : lay img (partsOf (f : Int) (zeros n) (s * size)) = img := by rw [lay_parts img (zeros n) f (s * size) (by rw [zeros_length]; exact Hn.out) (by have := Ht.out; omega)]; exact Hpatch.out
  have Hq5 := Lib.hid hq5
  have Hlay := Lib.hid hlay
  clear hq5 hlay
  go_wp2_with fail
  refine (diskFlush gd img _ calls w5 Hd5.out Hq5.out hl hc).mono ?_
  rintro e w6 ⟨rfl, hd6, hf6⟩
  rw [Hlay.out] at hd6
  have Hd6 := Lib.hid hd6
  have Hl6 := Lib.hid (Hl5.out.fr hf6 (fun e => by have e : g = gd := e; omega))
  have Hf6 := Lib.hid (Hf5.out.trans hf6 (fun _ _ h => h))
  have Hs6 := Lib.hid (Nat.le_trans Hs5.out hf6.size)
  clear hd6 hf6
  go_wp2
  go_ret
  exact ⟨rfl, Hl6.out, Hd6.out, Hf6.out, Hs6.out⟩
end Go.Proofs.YtaendhbiehknlaaGreatDoor
