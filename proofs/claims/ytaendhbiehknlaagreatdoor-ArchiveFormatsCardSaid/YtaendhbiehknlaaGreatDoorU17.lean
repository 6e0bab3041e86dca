/- What is proved here, of the given program: The disk: its parts. The disk: New, Read, Flush, Write. -/
import Derived.Test.YtaendhbiehknlaaGreatDoorU14
import Derived.Test.YtaendhbiehknlaaGreatDoorU16
import Derived.Deep.RegionHeld3
set_option linter.unusedVariables false
set_option linter.unusedSimpArgs false
set_option linter.constructorNameAsVariable false
namespace Go.Proofs.YtaendhbiehknlaaGreatDoor
open Go.RowKit Go.Shelf Go.Proofs

theorem own_setPart {base e n cap g : Nat} : ∀ (vs : List Value) (o : Nat) (w : World) (xs : List Value), w.ownsRow base e 1 (.slice (some ⟨g, 0, none⟩) n cap) n xs → o + vs.length ≤ xs.length → (w.setCells g o vs).ownsRow base e 1 (.slice (some ⟨g, 0, none⟩) n cap) n (xs.take o ++ vs ++ xs.drop (o + vs.length)) := by
  intro vs
  induction vs with
  | nil => intro o w ys h hl; simpa [World.setCells] using h
  | cons v r ih =>
    intro o w ys h hl
    simp only [List.length_cons] at hl
    have := ih (o + 1) _ _ (h.stored o v).1 (by simp; omega)
    simp only [World.setCells]
    have he : (ys.set o v).take (o + 1) = ys.take o ++ [v] := by
      rw [List.take_succ_eq_append_getElem (by simp; omega), List.getElem_set_self, List.take_set_of_le (Nat.le_refl _)]
    have hd : (ys.set o v).drop (o + 1 + r.length) = ys.drop (o + (v :: r).length) := by
      rw [List.drop_set_of_lt (by omega), List.length_cons, show o + 1 + r.length = o + (r.length + 1) by omega]
    rw [he, hd] at this
    simpa using this
def patch (l : Bytes) (o : Nat) (b : Bytes) : Bytes := l.take o ++ b ++ l.drop (o + b.length)
theorem patch_length (l : Bytes) (o : Nat) (b : Bytes) (h : o + b.length ≤ l.length) : (patch l o b).length = l.length := by simp [patch]; omega
/-- copy(out[off:..], b), out a row of the call's own. -/
theorem own_copy (w : World) (base n cap g off dLen dCap c : Nat) (A : Option Addr) (S : Nat → Prop) (l b : Bytes) (ty : TypeId) (ho : w.ownsRow base 5 1 (.slice (some ⟨g, 0, none⟩) n cap) n (u8s l)) (hv : Bs S w (.slice A b.length c) b) (hd : b.length ≤ dLen) (hoff : off + b.length ≤ n) :
    ∃ w', (Builtin.copy_ #[23, 23] ty #[.slice (some ⟨g, off, none⟩) dLen dCap, .slice A b.length c]).run Tryz.prog w = .ok (.int .i64 (b.length : Nat)) w' ∧ w'.ownsRow base 5 1 (.slice (some ⟨g, 0, none⟩) n cap) n (u8s (patch l off b)) ∧ Fr (fun k => k = g) w w' := by
  have hl : l.length = n := by have := ho.1; simpa [u8s] using this
  by_cases hn : b.length = 0
  · have hb0 : b = [] := List.eq_nil_of_length_eq_zero hn
    subst hb0
    exact ⟨w, run_copy_none w _ _ _ _ _ _ _ _ _ _ Tryz.underlying23 infoU8s (by simp), by simpa [patch] using ho, Fr.refl _ _⟩
  · obtain ⟨b', o', rfl, _, _, hc⟩ := Bs.cells hv (by rintro rfl; simp at hn)
    have hcell : ∀ j, j < l.length → ∃ u, w.cell? ⟨g, j, none⟩ = some u ∧ w.frozen? ⟨g, j, none⟩ = false := by
      intro j hj
      obtain ⟨x, hx⟩ : ∃ x, (u8s l)[j]? = some x := ⟨_, List.getElem?_eq_getElem (by simpa [u8s] using hj)⟩
      have h1 := ho.cells (g := g) rfl j x hx
      rw [Addr.add_lit, Nat.zero_add] at h1
      refine ⟨x, h1, ?_⟩
      rcases ho.2 with ⟨h, _⟩ | ⟨g', cap', cur, h, _, hh, _⟩
      · cases h
      · injection h with h _ _
        injection h with h
        injection h with h
        subst h
        simp [World.frozen?, hh]
    refine ⟨_, (run_copy_cells w _ _ ty _ g off dLen dCap ⟨b', o', none⟩ b.length c (u8s b) Tryz.underlying23 infoU8s (by rw [u8s_length]; exact (Nat.min_eq_left hd).symm) (fun j u hu => by rw [Addr.add_lit]; exact hc j u hu) (fun j hj => ?_) (fun j hj => ?_) (u8s_one _)).trans (by rw [u8s_length]; rfl), ?_, (Fr.refl _ _).setCells _ _ _ (fun _ => rfl)⟩
    · rw [u8s_length] at hj
      obtain ⟨u, h1, _⟩ := hcell (off + j) (by omega)
      rw [h1]; rfl
    · rw [u8s_length] at hj
      obtain ⟨u, _, h2⟩ := hcell (off + j) (by omega)
      exact h2
    · have h1 := own_setPart (u8s b) off w _ ho (by rw [u8s_length, u8s_length]; omega)
      have h2 : (u8s l).take off ++ u8s b ++ (u8s l).drop (off + (u8s b).length) = u8s (patch l off b) := by simp [u8s, patch]
      rw [h2] at h1
      exact h1
/-- The disk at block g: what is safe, what waits. -/
abbrev KdW : Kd (Int × Bytes) := Kd.pair (Kd.int .i64) (Kd.slice Kd.u8)
def DiskAt (w : World) (g : Nat) (img : Bytes) (q : List (Int × Bytes)) (calls : Int) : Prop :=
  ∃ vs vq, w.heap[g]? = some (.cells #[vs, vq, .int .i64 calls] 73 (0, 0)) ∧ Bs (fun k => k ≠ g) w vs img ∧ Sl KdW (fun k => k ≠ g) w vq q
theorem DiskAt.lt {w : World} {g : Nat} {img : Bytes} {q : List (Int × Bytes)} {calls : Int} (h : DiskAt w g img q calls) : g < w.heap.size := by
  obtain ⟨_, _, h, _⟩ := h
  exact blk_lt h
theorem DiskAt.pu {w w1 : World} {g : Nat} {img : Bytes} {q : List (Int × Bytes)} {calls : Int} (h : DiskAt w g img q calls) (hp : Pu w w1) : DiskAt w1 g img q calls := by
  obtain ⟨vs, vq, h1, h2, h3⟩ := h
  exact ⟨vs, vq, (hp.block g (blk_lt h1) (fun h => h)).trans h1, h2.pu hp, h3.pu hp⟩
theorem DiskAt.cells {w : World} {g : Nat} {img : Bytes} {q : List (Int × Bytes)} {calls : Int} (h : DiskAt w g img q calls) : ∃ A c B k, w.cell? ⟨g, 0, none⟩ = some (.slice A img.length c) ∧ w.cell? ⟨g, 1, none⟩ = some (.slice B q.length k) ∧ w.cell? ⟨g, 2, none⟩ = some (.int .i64 calls) ∧
    w.frozen? ⟨g, 0, none⟩ = false ∧ w.frozen? ⟨g, 1, none⟩ = false ∧ w.frozen? ⟨g, 2, none⟩ = false ∧ img.length ≤ c ∧ c ≤ 9223372036854775807 ∧ q.length ≤ k ∧ k ≤ 9223372036854775807 ∧ w.heap[g]? = some (.cells #[.slice A img.length c, .slice B q.length k, .int .i64 calls] 73 (0, 0)) ∧ Bs (fun k => k ≠ g) w (.slice A img.length c) img ∧ Sl KdW (fun k => k ≠ g) w (.slice B q.length k) q := by
  obtain ⟨vs, vq, h1, h2, h3⟩ := h
  obtain ⟨A, c, rfl, ha, hb⟩ := h2.shape
  obtain ⟨B, k, rfl, hc, hd⟩ := h3.shape
  refine ⟨A, c, B, k, ?_, ?_, ?_, ?_, ?_, ?_, ha, hb, hc, hd, h1, h2, h3⟩
  · rw [cell_of_row w g 0 _ _ _ h1]; rfl
  · rw [cell_of_row w g 1 _ _ _ h1]; rfl
  · rw [cell_of_row w g 2 _ _ _ h1]; rfl
  · simp [World.frozen?, h1]
  · simp [World.frozen?, h1]
  · simp [World.frozen?, h1]

/-- Nothing waits. -/
structure DiskNil (w : World) (g : Nat) (img : Bytes) (calls : Int) : Prop where
  at_ : DiskAt w g img [] calls
  nil : w.cell? ⟨g, 1, none⟩ = some (.slice none 0 0)
theorem DiskNil.pu {w w1 : World} {g : Nat} {img : Bytes} {calls : Int} (h : DiskNil w g img calls) (hp : Pu w w1) : DiskNil w1 g img calls := ⟨h.at_.pu hp, (hp.pcell g 1 h.at_.lt).trans h.nil⟩
theorem diskSize (g : Nat) (img : Bytes) (q : List (Int × Bytes)) (calls : Int) (w : World) (h : DiskAt w g img q calls) :
    Calls Tryz.prog 124 #[.pointer (some ⟨g, 0, none⟩)] w fun e w' => e = .returned (.int .i64 (img.length / 128 : Nat)) ∧ w = w' := by
  obtain ⟨A, c, B, k, c0, -, -, -, -, -, hc, hm, -⟩ := h.cells
  clear h
  go_enter Tryz.func124, Tryz.ntmps124
  go_wp2
  go_ret
  exact ⟨rfl, rfl⟩
def thereB (n : Nat) (at' m : Int) : Bool := decide (0 ≤ at') && (decide (0 ≤ m) && (decide (at' ≤ (n : Int)) && decide (m ≤ (n : Int) - at')))
theorem thereB_iff (n : Nat) (a m : Int) : thereB n a m = true ↔ 0 ≤ a ∧ 0 ≤ m ∧ a ≤ n ∧ m ≤ n - a := by simp [thereB]
theorem diskThere (g : Nat) (img : Bytes) (q : List (Int × Bytes)) (calls : Int) (a m : Int) (w : World) (h : DiskAt w g img q calls) (hl : img.length ≤ 17592186044416) (ha : -9223372036854775808 ≤ a ∧ a ≤ 9223372036854775807) :
    Calls Tryz.prog 74 #[.pointer (some ⟨g, 0, none⟩), .int .i64 a, .int .i64 m] w fun e w' => e = .returned (.bool (thereB (img.length / 128) a m)) ∧ w = w' := by
  have C := Lib.hid (diskSize g img q calls w h)
  clear h
  by_cases h0 : 0 ≤ a
  · by_cases h1 : 0 ≤ m
    · by_cases h2 : a ≤ ((img.length / 128 : Nat) : Int)
      · have hb : thereB (img.length / 128) a m = decide (m ≤ ((img.length / 128 : Nat) : Int) - a) := by simp only [thereB, h0, h1, h2]; simp
        have Hb := Lib.hid hb
        clear hb
        go_enter Tryz.func74, Tryz.ntmps74
        go_wp2_with (go_at_call 124; refine C.out.mono ?_; rintro e w' ⟨rfl, rfl⟩)
        go_ret
        exact ⟨by rw [Hb.out]; rfl, rfl⟩
      · have hb : thereB (img.length / 128) a m = false := by simp only [thereB, h0, h1, h2]; simp
        have Hb := Lib.hid hb
        clear hb
        go_enter Tryz.func74, Tryz.ntmps74
        go_wp2_with (go_at_call 124; refine C.out.mono ?_; rintro e w' ⟨rfl, rfl⟩)
        go_ret
        exact ⟨by rw [Hb.out]; rfl, rfl⟩
    · have hb : thereB (img.length / 128) a m = false := by simp only [thereB, h0, h1]; simp
      have Hb := Lib.hid hb
      clear hb
      go_enter Tryz.func74, Tryz.ntmps74
      go_wp2_with (go_at_call 124; refine C.out.mono ?_; rintro e w' ⟨rfl, rfl⟩)
      go_ret
      exact ⟨by rw [Hb.out]; rfl, rfl⟩
  · have hb : thereB (img.length / 128) a m = false := by simp only [thereB, h0]; simp
    have Hb := Lib.hid hb
    clear hb
    go_enter Tryz.func74, Tryz.ntmps74
    go_wp2_with (go_at_call 124; refine C.out.mono ?_; rintro e w' ⟨rfl, rfl⟩)
    go_ret
    exact ⟨by rw [Hb.out]; rfl, rfl⟩
/-- The power is on for good. -/
theorem diskCall (g : Nat) (img : Bytes) (q : List (Int × Bytes)) (calls : Int) (w : World) (h : DiskAt w g img q calls) (hc : calls < 0) :
    Calls Tryz.prog 75 #[.pointer (some ⟨g, 0, none⟩)] w fun e w' => e = .returned (.bool true) ∧ w = w' := by
  obtain ⟨A, c, B, k, -, -, c2, -⟩ := h.cells
  clear h
  have h0 : ¬ 0 < calls := by omega
  go_enter Tryz.func75, Tryz.ntmps75
  go_wp2
  go_ret
  exact ⟨by simp, rfl⟩
theorem diskPart (b o n c k : Nat) (w : World) (hk : k * 128 + 128 ≤ n) (hc : n ≤ c) (hm : c ≤ 9223372036854775807) :
    Calls Tryz.prog 54 #[.slice (some ⟨b, o, none⟩) n c, .int .i64 k] w fun e w' => e = .returned (.slice (some ⟨b, o + k * 128, none⟩) 128 (c - k * 128)) ∧ w = w' := by
  go_enter Tryz.func54, Tryz.ntmps54
  go_wp2
  go_ret
  rw [show (k + 1) * 128 - k * 128 = 128 by omega]
  exact ⟨rfl, rfl⟩
/-- What is seen: the writes that wait, laid over what is safe. -/
def lay (img : Bytes) (q : List (Int × Bytes)) : Bytes := q.foldl (fun im x => patch im (x.1.toNat * 128) x.2) img
def QOk (n : Nat) (q : List (Int × Bytes)) : Prop := ∀ x ∈ q, 0 ≤ x.1 ∧ x.2.length = 128 ∧ x.1.toNat * 128 + 128 ≤ n
theorem lay_snoc (img : Bytes) (q : List (Int × Bytes)) (x : Int × Bytes) : lay img (q ++ [x]) = patch (lay img q) (x.1.toNat * 128) x.2 := by simp [lay]
theorem lay_length (img : Bytes) (q : List (Int × Bytes)) (h : QOk img.length q) : (lay img q).length = img.length := by
  suffices hh : ∀ (q : List (Int × Bytes)) (im : Bytes), im.length = img.length → QOk img.length q → (lay im q).length = img.length from hh q img rfl h
  intro q
  induction q with
  | nil => intro im h _; exact h
  | cons x r ih =>
    intro im h hq
    have hx := hq x (by simp)
    exact ih _ (by rw [patch_length _ _ _ (by omega)]; exact h) (fun y hy => hq y (by simp [hy]))
theorem Sl.write {S : Nat → Prop} {w : World} {A : Option Addr} {n c : Nat} {q : List (Int × Bytes)} (h : Sl KdW S w (.slice A n c) q) {j : Nat} (hj : j < q.length) :
    ∃ b o A1 c1, A = some ⟨b, o, none⟩ ∧ b < w.heap.size ∧ S b ∧ w.cell? ⟨b, o + j * 2, none⟩ = some (.int .i64 (q[j]).1) ∧ w.cell? ⟨b, o + j * 2 + 1, none⟩ = some (.slice A1 (q[j]).2.length c1) ∧ (q[j]).2.length ≤ c1 ∧ c1 ≤ 9223372036854775807 ∧ Hid (Bs S w (.slice A1 (q[j]).2.length c1) (q[j]).2) := by
  obtain ⟨b, o, cs, e, hb, hlt, ⟨c0, c1, rfl, h0, h1⟩, hc⟩ := h.at_ (List.getElem?_eq_getElem hj)
  obtain rfl : c0 = [.int .i64 (q[j]).1] := h0
  obtain ⟨v, rfl, hv⟩ : ∃ v, c1 = [v] ∧ Bs S w v (q[j]).2 := h1
  obtain ⟨A1, c1, rfl, h1, h2⟩ := hv.shape
  have e2 : KdW.sz = 2 := rfl
  rw [e2] at hc
  exact ⟨b, o, A1, c1, e, hlt, hb, by simpa using hc 0 _ rfl, by simpa using hc 1 _ rfl, h1, h2, hv⟩
theorem own_form {w : World} {base size n : Nat} {e : TypeId} {v : Value} {xs : List Value} (h : w.ownsRow base e size v n xs) (hn : 0 < n) : ∃ g cap, v = .slice (some ⟨g, 0, none⟩) n cap := by
  rcases h.2 with ⟨_, h0⟩ | ⟨g, cap, _, hv, _⟩
  · omega
  · exact ⟨g, cap, hv⟩
set_option maxRecDepth 100000 in
set_option maxHeartbeats 1000000 in
theorem diskImage (g : Nat) (img : Bytes) (q : List (Int × Bytes)) (calls : Int) (w : World) (h : DiskAt w g img q calls) (hq : QOk img.length q) (hl : img.length ≤ 17592186044416) :
    Calls Tryz.prog 12 #[.pointer (some ⟨g, 0, none⟩)] w fun e w' => ∃ v', e = .returned v' ∧ w'.ownsRow w.heap.size 5 1 v' img.length (u8s (lay img q)) ∧ Pu w w' := by
  obtain ⟨A, c, B, k, c0, c1, -, -, -, -, hc, hm, hk, hmk, hblk, hs, hqs⟩ := h.cells
  have Hs := Lib.hid hs
  have Hqs := Lib.hid hqs
  have Hblk := Lib.hid hblk
  have Hq := Lib.hid hq
  have hg := blk_lt hblk
  clear h hs hqs hblk hq
  go_enter Tryz.func12, Tryz.ntmps12
  go_wp2_with fail
  refine (cloneBytes _ img _ w Hs.out hl).mono ?_
  rintro e w1 ⟨v1, rfl, ho, hp⟩
  have d1 := (hp.pcell g 1 hg).trans c1
  have Ho := Lib.hid ho
  have Hp := Lib.hid hp
  clear ho hp
  go_wp2
  go_loopw [5, 16] (fun _ i wr => ∃ j : Nat, j ≤ q.length ∧ i = .int .i64 j ∧ wr.ownsRow w.heap.size 5 1 v1 img.length (u8s (lay img (q.take j))) ∧ Pu w wr) (fun _ i _ => q.length - (intOf i).toNat)
  case atStart => exact ⟨0, Nat.zero_le _, rfl, Ho.out, Hp.out⟩
  case round =>
    obtain ⟨j, hj, rfl, ho, hp⟩ := hrel
    clear d1
    by_cases hlt : j < q.length
    · have Hox := Lib.hid ho
      have Hpx := Lib.hid hp
      clear ho hp Ho Hp
      obtain ⟨b, o, A1, k1, rfl, hbl, hbg, x0, x1, hk1, hm1, Hw⟩ := (Hqs.out.pu Hpx.out).write hlt
      have hqk : lay img (q.take (j + 1)) = patch (lay img (q.take j)) ((q[j]).1.toNat * 128) (q[j]).2 := by
        rw [List.take_succ_eq_append_getElem hlt, lay_snoc]
      obtain ⟨hx0, hx1, hx2⟩ := Hq.out (q[j]) (List.getElem_mem _)
      have hx01 : (q[j]).1 = (((q[j]).1.toNat : Nat) : Int) := by omega
      rw [hx01] at x0
      generalize hxx : q[j] = x at *
      obtain ⟨a, ha⟩ : ∃ a, a = x.1.toNat := ⟨_, rfl⟩
      rw [← ha] at x0 hx2 hqk
      rw [hx1] at x1 hk1 Hw
      have Hqk := Lib.hid hqk
      obtain ⟨g1, k1', rfl⟩ := own_form Hox.out (by omega)
      have hg1 := own_lt Hox.out g1 rfl
      obtain ⟨_, _, e1, hc1, hm1'⟩ := own_shape2 Hox.out
      injection e1 with e2 _ e1
      subst e1 e2
      have hcopy := fun n => own_copy ((wr.alloc (.cells #[.int .i64 (a : Int), .slice A1 128 k1] 127)).drewN n) w.heap.size img.length k1' g1 (a * 128) 128 (k1' - a * 128) k1 A1 _ (lay img (q.take j)) x.2 3 (own_pu Hox.out (((Fr.refl _ _).alloc _).drewN n)) (by rw [hx1]; exact Hw.out.pu (((Fr.refl _ _).alloc _).drewN n)) (by omega) (by omega)
      rw [hx1] at hcopy
      have Hcopy := Lib.hid hcopy
      have Hpart := Lib.hid (fun W : World => by have h9 := diskPart g1 0 img.length k1' a W hx2 hc1 hm1'; rw [Nat.zero_add] at h9; exact qs h9)
      have hx128 := Lib.hid hx1
      clear hxx hx0 hx1 hx01 ha hqk hcopy
      have z0 : (wr.alloc (.cells #[.int .i64 (a : Int), .slice A1 128 k1] 127)).cell? ⟨wr.heap.size, 0, none⟩ = some (.int .i64 (a : Int)) := by simp
      go_wp2
      refine wp_region_tail 6 mixed ?hB ?hk ?_
      case hB => kernel_rfl
      case hk => exact of_decide_eq_true (by kernel_rfl)
      dsimp only [List.take]
      repeat (go_big_quiet_step ((go_at_call 54; exact Calls.quiet_of_same (Hpart.out _))))
      refine wpQuiet_nil ?_
      intro _ hw'
      obtain ⟨nq, hw''⟩ := hw'
      subst hw''
      obtain ⟨wc, hrun, hoc, hfc⟩ := Hcopy.out nq
      have Hoc := Lib.hid hoc
      have Hpc := Lib.hid (((Hpx.out.alloc _).drewN nq).trans hfc (fun m hm e => by have e : m = g1 := e; omega))
      clear hoc hfc
      dsimp only [List.drop]
      go_wp2
      refine ⟨⟨j + 1, by omega, by go_num, by rw [Hqk.out]; exact Hoc.out, Hpc.out⟩, by simp [intOf]; omega⟩
    · have hjj : j = q.length := by omega
      subst hjj
      rw [List.take_of_length_le (Nat.le_refl _)] at ho
      have Hox := Lib.hid ho
      have Hpx := Lib.hid hp
      clear ho hp Ho Hp
      go_wp2
      go_ret
      exact ⟨_, rfl, Hox.out, Hpx.out⟩
end Go.Proofs.YtaendhbiehknlaaGreatDoor

namespace Go.Proofs.YtaendhbiehknlaaGreatDoor
open Go.RowKit Go.Shelf Go.Proofs

def zeros (n : Nat) : Bytes := List.replicate n 0
theorem zeros_length (n : Nat) : (zeros n).length = n := by simp [zeros]
theorem u8s_zeros (n : Nat) : (madeCells (Value.int .u8 0).cells n).toList = u8s (zeros n) := by
  rw [show (Value.int .u8 0).cells = #[.int .u8 0] from rfl, toList_madeCells_one, u8s, zeros, List.map_replicate]; rfl
/-- make([]byte, n). -/
theorem run_zeros (w : World) (n : Nat) (hn : n ≤ 17592186044416) : ∃ w', (Instr.makeSlice 23 (.int .i64 n) (.int .i64 n)).run Tryz.prog w = .ok (.slice (some ⟨w.heap.size, 0, none⟩) n n) w' ∧ w'.ownsRow w.heap.size 5 1 (.slice (some ⟨w.heap.size, 0, none⟩) n n) n (u8s (zeros n)) ∧ Pu w w' := by
  obtain ⟨i0, hi, hz0, hz1, hz2⟩ := info_parts infoU8
  obtain ⟨w', h1, h2, h3⟩ := run_make_full (P := Tryz.prog) w w.heap.size 23 5 i0 (.int .u8 0) 1 Tryz.underlying23 hi hz0 hz1 .i64 .i64 n (by rw [hz2]; omega) (by simp [maxLen]; omega) (Nat.le_refl _)
  refine ⟨w', h1, ?_, (Fr.refl _ _).grown h3 (fun _ _ e => by cases e)⟩
  rw [Nat.mul_one, u8s_zeros] at h2
  exact h2
set_option maxRecDepth 100000 in
theorem diskNew (n : Nat) (w : World) (h1 : 1 ≤ n) (hn : n ≤ 65536) :
    Calls Tryz.prog 5 #[.int .i64 n] w fun e w' => ∃ g, e = .returned (.tuple #[.pointer (some ⟨g, 0, none⟩), .int .i64 0]) ∧ w.heap.size ≤ g ∧ DiskNil w' g (zeros (n * 128)) (-1) ∧ Pu w w' := by
  obtain ⟨w1, hrun, ho, hp⟩ := run_zeros w (n * 128) (by omega)
  rw [show ((n * 128 : Nat) : Int) = (n : Int) * 128 by omega] at hrun
  have Ho := Lib.hid ho
  have Hp := Lib.hid hp
  clear ho hp
  go_enter Tryz.func5, Tryz.ntmps5
  go_wp2
  go_ret2
  have hsz := (own_lt Ho.out _ rfl).2
  have hbn := heap_alloc_new w1 (.cells #[.slice (some ⟨w.heap.size, 0, none⟩) (n * 128) (n * 128), .slice none 0 0, .int .i64 (-1)] 73)
  refine ⟨w1.heap.size, rfl, Hp.out.size, ⟨⟨_, _, hbn, ?_, Sl.nil _ _ _⟩, by rw [cell_of_row _ _ _ _ _ _ hbn]; rfl⟩, Hp.out.alloc _⟩
  have h2 : Bs (fun k => k ≠ w1.heap.size) w1 (.slice (some ⟨w.heap.size, 0, none⟩) (n * 128) (n * 128)) (zeros (n * 128)) := (Bs.of_own Ho.out).mono (fun k hk _ => by omega)
  exact h2.pu ((Fr.refl _ _).alloc _)
theorem diskRead (g : Nat) (img : Bytes) (q : List (Int × Bytes)) (calls : Int) (a m : Nat) (w : World) (h : DiskAt w g img q calls) (hq : QOk img.length q) (hl : img.length ≤ 17592186044416) (hc : calls < 0) (ha : a ≤ 1099511627776) (hm : m ≤ 1099511627776) (ht : thereB (img.length / 128) a m = true) :
    Calls Tryz.prog 134 #[.pointer (some ⟨g, 0, none⟩), .int .i64 a, .int .i64 m] w fun e w' => ∃ v, e = .returned (.tuple #[v, .int .i64 0]) ∧ w'.ownsRow w.heap.size 5 1 v (m * 128) (u8s (((lay img q).drop (a * 128)).take (m * 128))) ∧ Pu w w' := by
  have Ct := Lib.hid (diskThere g img q calls a m w h hl (by omega))
  have Cc := Lib.hid (diskCall g img q calls w h hc)
  have Ci := Lib.hid (diskImage g img q calls w h hq hl)
  have hb := (thereB_iff _ _ _).1 ht
  have hll := lay_length img q hq
  have Hll := Lib.hid hll
  rw [ht] at Ct
  clear h hq ht hll
  go_enter Tryz.func134, Tryz.ntmps134
  go_wp2_with fail
  refine Ct.out.mono ?_
  rintro e w' ⟨rfl, rfl⟩
  go_wp2_with fail
  refine Cc.out.mono ?_
  rintro e w' ⟨rfl, rfl⟩
  go_wp2_with fail
  refine Ci.out.mono ?_
  rintro e w1 ⟨v1, rfl, ho, hp⟩
  obtain ⟨A1, c1, rfl, hc1, hm1⟩ := own_shape2 ho
  have Ho := Lib.hid ho
  have Hp := Lib.hid hp
  clear ho hp
  have hb2 : Bs Tr w1 (.slice (if c1 = a * 128 then A1 else A1.map (·.add (a * 128))) ((a + m) * 128 - a * 128) (c1 - a * 128)) (((lay img q).drop (a * 128)).take (m * 128)) := by
    have h2 : Bs (fun k => w.heap.size ≤ k) w1 (.slice A1 (lay img q).length c1) (lay img q) := by rw [Hll.out]; exact Bs.own Ho.out
    have h1 := Bs.drop (k := a * 128) h2.tr (by rw [Hll.out]; omega)
    have h3 := Bs.take (k := m * 128) (c' := c1 - a * 128) h1 (by rw [List.length_drop, Hll.out]; omega) (by omega) (by omega)
    rw [show (a + m) * 128 - a * 128 = m * 128 by omega]
    exact h3
  have hlen : (((lay img q).drop (a * 128)).take (m * 128)).length = m * 128 := by rw [List.length_take, List.length_drop, Hll.out]; omega
  have Hlen := Lib.hid hlen
  have Hb2 := Lib.hid hb2
  have hbl : m * 128 ≤ 17592186044416 := by omega
  clear hb2 hlen
  by_cases hcap : c1 = a * 128
  · rw [if_pos hcap] at Hb2
    go_wp2_with fail
    rw [show c1 - a * 128 = 0 by omega] at Hb2
    refine (cloneBytes _ _ _ w1 Hb2.out (by rw [Hlen.out]; exact hbl)).mono ?_
    rintro e w2 ⟨v2, rfl, ho, hp⟩
    rw [Hlen.out] at ho
    have Ho2 := Lib.hid (own_base (base' := w.heap.size) ho Hp.out.size)
    have Hp2 := Lib.hid (Hp.out.pu hp)
    clear ho hp
    obtain ⟨A2, c2, rfl⟩ := own_shape Ho2.out
    go_wp2
    go_ret2
    exact ⟨_, rfl, Ho2.out, Hp2.out⟩
  · rw [if_neg hcap] at Hb2
    go_wp2_with fail
    refine (cloneBytes _ _ _ w1 Hb2.out (by rw [Hlen.out]; exact hbl)).mono ?_
    rintro e w2 ⟨v2, rfl, ho, hp⟩
    rw [Hlen.out] at ho
    have Ho2 := Lib.hid (own_base (base' := w.heap.size) ho Hp.out.size)
    have Hp2 := Lib.hid (Hp.out.pu hp)
    clear ho hp
    obtain ⟨A2, c2, rfl⟩ := own_shape Ho2.out
    go_wp2
    go_ret2
    exact ⟨_, rfl, Ho2.out, Hp2.out⟩
theorem diskReadNo (g : Nat) (img : Bytes) (q : List (Int × Bytes)) (calls : Int) (a m : Int) (w : World) (h : DiskAt w g img q calls) (hl : img.length ≤ 17592186044416) (ha : -9223372036854775808 ≤ a ∧ a ≤ 9223372036854775807) (ht : thereB (img.length / 128) a m = false) :
    Calls Tryz.prog 134 #[.pointer (some ⟨g, 0, none⟩), .int .i64 a, .int .i64 m] w fun e w' => e = .returned (.tuple #[.slice none 0 0, .int .i64 20]) ∧ w = w' := by
  have Ct := Lib.hid (diskThere g img q calls a m w h hl ha)
  rw [ht] at Ct
  clear h ht
  go_enter Tryz.func134, Tryz.ntmps134
  go_wp2_with fail
  refine Ct.out.mono ?_
  rintro e w' ⟨rfl, rfl⟩
  go_wp2
  go_ret2
  exact ⟨rfl, rfl⟩
theorem diskFlush (g : Nat) (img : Bytes) (q : List (Int × Bytes)) (calls : Int) (w : World) (h : DiskAt w g img q calls) (hq : QOk img.length q) (hl : img.length ≤ 17592186044416) (hc : calls < 0) :
    Calls Tryz.prog 26 #[.pointer (some ⟨g, 0, none⟩)] w fun e w' => e = .returned (.int .i64 0) ∧ DiskNil w' g (lay img q) calls ∧ Fr (At g) w w' := by
  have Cc := Lib.hid (diskCall g img q calls w h hc)
  have Ci := Lib.hid (diskImage g img q calls w h hq hl)
  have hg := h.lt
  have Hd := Lib.hid h
  have Hll := Lib.hid (lay_length img q hq)
  clear h hq
  go_enter Tryz.func26, Tryz.ntmps26
  go_wp2_with fail
  refine Cc.out.mono ?_
  rintro e w' ⟨rfl, rfl⟩
  go_wp2_with fail
  refine Ci.out.mono ?_
  rintro e w1 ⟨v1, rfl, ho, hp⟩
  obtain ⟨A1, c1, rfl, hc1, hm1⟩ := own_shape2 ho
  obtain ⟨A, c, B, k, c0, c1', -, f0, f1, -, -, -, -, -, hblk, -, -⟩ := (Hd.out.pu hp).cells
  have hg1 := blk_lt hblk
  have Ho := Lib.hid ho
  have Hp := Lib.hid hp
  have Hblk := Lib.hid hblk
  clear ho hp hblk
  go_wp2
  have hfr : ∀ u u' : Value, Fr (At g) w1 ((w1.setCell ⟨g, 0, none⟩ u).setCell ⟨g, 1, none⟩ u') := fun u u' => ((Fr.refl (At g) w1).set ⟨g, 0, none⟩ u (fun _ => rfl)).set ⟨g, 1, none⟩ u' (fun _ => rfl)
  go_ret
  have hbo : Bs (fun k => k ≠ g) w1 (.slice A1 img.length c1) (lay img q) := (Bs.own Ho.out).mono (fun k _ hk => by omega)
  have hbn : ((w1.setCell ⟨g, 0, none⟩ (.slice A1 img.length c1)).setCell ⟨g, 1, none⟩ (.slice none 0 0)).heap[g]? = some (.cells #[.slice A1 img.length c1, .slice none 0 0, .int .i64 calls] 73 (0, 0)) := by simp [World.setCell, Array.getElem?_modify, Hblk.out]
  exact ⟨rfl, ⟨⟨.slice A1 img.length c1, .slice none 0 0, hbn, hbo.fr (hfr _ _) (fun _ _ h => h), Sl.nil _ _ _⟩, by rw [cell_of_row _ _ _ _ _ _ hbn]; rfl⟩, Hp.out.any.trans (hfr _ _) (fun _ _ h => h)⟩
theorem diskWriteNo (g : Nat) (img : Bytes) (q : List (Int × Bytes)) (calls : Int) (a : Int) (v : Value) (l : Bytes) (m : Nat) (S : Nat → Prop) (w : World) (h : DiskAt w g img q calls) (hv : Bs S w v l) (hl : img.length ≤ 17592186044416) (ha : -9223372036854775808 ≤ a ∧ a ≤ 9223372036854775807) (hm : l.length = m * 128) (ht : thereB (img.length / 128) a m = false) :
    Calls Tryz.prog 24 #[.pointer (some ⟨g, 0, none⟩), .int .i64 a, v] w fun e w' => e = .returned (.int .i64 20) ∧ w = w' := by
  obtain ⟨A, c, rfl, hc, hmx⟩ := hv.shape
  have Ct := Lib.hid (diskThere g img q calls a m w h hl ha)
  rw [ht] at Ct
  have hmI : ((l.length : Nat) : Int) % 128 = 0 := by omega
  have hdI : ((l.length : Nat) : Int) / 128 = (m : Int) := by omega
  clear h ht hv hm
  go_enter Tryz.func24, Tryz.ntmps24
  go_wp2_with fail
  refine Ct.out.mono ?_
  rintro e w' ⟨rfl, rfl⟩
  go_wp2
  go_ret
  exact ⟨rfl, rfl⟩
/-- The sectors of octets. -/
def sect (l : Bytes) (j : Nat) : Bytes := (l.drop (j * 128)).take 128
def partsOf (a : Int) (l : Bytes) : Nat → List (Int × Bytes)
  | 0 => []
  | j + 1 => partsOf a l j ++ [(a + j, sect l j)]
/-- What waits, in a row. -/
def QRow (w : World) (S : Nat → Prop) (cs : List Value) (q : List (Int × Bytes)) : Prop :=
  cs.length = 2 * q.length ∧ ∀ j x, q[j]? = some x → ∃ v, cs[2 * j]? = some (.int .i64 x.1) ∧ cs[2 * j + 1]? = some v ∧ Bs S w v x.2
theorem partsOf_length (a : Int) (l : Bytes) (j : Nat) : (partsOf a l j).length = j := by induction j <;> simp_all [partsOf]
theorem QRow.mono {w w' : World} {S S' : Nat → Prop} {cs : List Value} {q : List (Int × Bytes)} (h : QRow w S cs q) (hm : ∀ k, S k → k < w.heap.size → S' k ∧ w'.heap[k]? = w.heap[k]?) : QRow w' S' cs q := by
  refine ⟨h.1, fun j x hj => ?_⟩
  obtain ⟨v, h1, h2, h3⟩ := h.2 j x hj
  exact ⟨v, h1, h2, ((h3.mono (S' := fun k => S k ∧ S' k) (fun k hlt hk => ⟨hk, (hm k hk hlt).1⟩)).move (fun k hk hlt => (hm k hk.1 hlt).2)).mono (fun k _ hk => hk.2)⟩
theorem QRow.snoc {w : World} {S : Nat → Prop} {cs : List Value} {q : List (Int × Bytes)} (h : QRow w S cs q) {x : Int × Bytes} {v : Value} (hv : Bs S w v x.2) : QRow w S (cs ++ [.int .i64 x.1, v]) (q ++ [x]) := by
  refine ⟨by simp [h.1]; omega, fun j y hj => ?_⟩
  rcases Nat.lt_or_ge j q.length with hlt | hge
  · rw [List.getElem?_append_left hlt] at hj
    obtain ⟨v', h1, h2, h3⟩ := h.2 j y hj
    exact ⟨v', by rw [List.getElem?_append_left (by rw [h.1]; omega)]; exact h1, by rw [List.getElem?_append_left (by rw [h.1]; omega)]; exact h2, h3⟩
  · rw [List.getElem?_append_right hge] at hj
    have hj0 : j = q.length := by
      have := (List.getElem?_eq_some_iff.1 hj).1
      simp at this; omega
    subst hj0
    simp at hj
    subst hj
    exact ⟨v, by rw [List.getElem?_append_right (by rw [h.1]; omega), h.1]; simp, by rw [List.getElem?_append_right (by rw [h.1]; omega), h.1, show 2 * q.length + 1 - 2 * q.length = 1 by omega]; rfl, hv⟩
theorem QRow.sl {w : World} {base : Nat} {S : Nat → Prop} {v : Value} {cs : List Value} {q : List (Int × Bytes)} (h : QRow w S cs q) (ho : w.ownsRow base 127 2 v q.length cs) (hS : ∀ k, v.ownBlock = some k → S k) : Sl KdW S w v q := by
  rcases ho.2 with ⟨rfl, h0⟩ | ⟨g, cap, cur, rfl, hb, hg, hn, hm, hs, ht⟩
  · obtain rfl : q = [] := List.eq_nil_of_length_eq_zero h0
    exact Sl.nil _ _ _
  · refine ⟨_, cap, rfl, hn, hm, fun _ => ⟨g, 0, rfl, hS g rfl, (Array.getElem?_eq_some_iff.1 hg).1, fun j x hj => ?_⟩⟩
    obtain ⟨u, h1, h2, h3⟩ := h.2 j x hj
    have hc := ho.cells (g := g) rfl
    refine ⟨[.int .i64 x.1, u], ⟨_, _, rfl, rfl, u, rfl, h3⟩, fun i y hy => ?_⟩
    have e2 : KdW.sz = 2 := rfl
    rw [e2]
    match i with
    | 0 => cases hy; have := hc _ _ h1; rw [Addr.add_lit] at this; rw [Nat.mul_comm j 2]; exact this
    | 1 => cases hy; have := hc _ _ h2; rw [Addr.add_lit] at this; rw [Nat.mul_comm j 2]; exact this
    | i + 2 => simp at hy
theorem Bs.ne {S : Nat → Prop} {w : World} {v : Value} {l : Bytes} {g : Nat} (h : Bs S w v l) (hg : ∀ o x, w.cell? ⟨g, o, none⟩ ≠ some (u8v x)) : Bs (fun k => k ≠ g) w v l := by
  obtain ⟨A, c, rfl, h1, h2, h3⟩ := id h
  refine ⟨A, c, rfl, h1, h2, fun hx => ?_⟩
  obtain ⟨b, o, rfl, hb, hlt, hc⟩ := h3 hx
  refine ⟨b, o, rfl, ?_, hlt, hc⟩
  rintro rfl
  obtain ⟨x, r, rfl⟩ := List.exists_cons_of_ne_nil hx
  obtain ⟨b', o', e, _, _, hcell⟩ := h.cell (j := 0) (x := x) rfl
  injection e with e
  injection e with e1 e2
  subst e1 e2
  exact hg _ _ hcell
theorem infoW : (Tryz.prog.info? 127).map (fun i => (i.zero, i.size, i.bytes)) = some (some (.agg #[.int .i64 0, .slice none 0 0]), 2, 32) := by kernel_rfl
end Go.Proofs.YtaendhbiehknlaaGreatDoor
