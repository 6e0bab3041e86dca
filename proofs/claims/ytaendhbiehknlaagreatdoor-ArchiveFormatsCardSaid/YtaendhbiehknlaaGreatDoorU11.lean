/- What is proved here, of the given program: HMAC: the walk of Tag. The key derivation: Expand. -/
import Derived.Test.YtaendhbiehknlaaGreatDoorU10
import Derived.Shelf.Spec.SlicesInsert
set_option linter.unusedVariables false
set_option linter.unusedSimpArgs false
set_option linter.constructorNameAsVariable false
namespace Go.Proofs.YtaendhbiehknlaaGreatDoor
open Go.RowKit Go.Shelf Go.Proofs

theorem info64b : (Tryz.prog.info? 397).map (·.size) = some 64 := by kernel_rfl
set_option maxRecDepth 100000 in
set_option maxHeartbeats 1000000 in
theorem macTagW (v vp : Value) (key : Bytes) (ms : List Bytes) (S : Nat → Prop) (w : World) (hG : Globs w) (hv : Bs S w v key) (hp : Bss S w vp ms) (hk : key.length ≤ 4398046511104) (hm : ms.flatten.length ≤ 4398046511104) :
    Calls Tryz.prog 180 #[v, vp] w fun e w' => ∃ v', e = .returned v' ∧ w'.ownsRow w.heap.size 5 1 v' 32 (u8s (macTag key ms.flatten)) ∧ Pu w w' := by
  obtain ⟨A, c, rfl, hlc, hmc⟩ := hv.shape
  have Hv := Lib.hid hv
  have Hp := Lib.hid hp
  have HG := Lib.hid hG
  clear hv hp hG
  go_enter Tryz.func180, Tryz.ntmps180
  by_cases h : 64 < key.length
  · go_wp2_with fail
    refine (shaSum _ [key] _ _ (HG.out.pu ((Fr.refl _ _).alloc _)) (bss_new (S := S) (vs := [.slice A key.length c]) rfl (by simp) (fun j v l hv hl => ?_)) (by simp; omega)).mono ?_
    · match j with
      | 0 => cases hv; cases hl; exact Hv.out
      | j + 1 => simp at hv
    rintro e w1 ⟨v1, rfl, ho1, hp1⟩
    obtain ⟨A1, c1, rfl⟩ := own_shape ho1
    rw [show [key].flatten = key by simp, sha_length] at ho1
    rw [show [key].flatten = key by simp, sha_length]
    have hp1' : Pu w w1 := ((Fr.refl _ _).alloc _).pu hp1
    have hb1 : Bs (fun k => k < w1.heap.size) w1 (.slice A1 (sha key).length c1) (sha key) := by
      rw [sha_length]; exact (Bs.of_own ho1).mono (fun k hk _ => hk)
    have Hb1 := Lib.hid hb1
    have Hp1 := Lib.hid hp1'
    clear hp1 hp1' hb1 ho1
    have hcopy : ∀ wz, wz = w1.alloc (.cells (u8s (List.replicate 64 0)).toArray 397) → ∃ wc, (Builtin.copy_ #[23, 23] 3 #[.slice (some ⟨w1.heap.size, 0, none⟩) 64 64, .slice A1 32 c1]).run Tryz.prog wz = .ok (.int .i64 (32 : Nat)) wc ∧ Arr wc w1.heap.size 397 (u8s (macBlock key)) ∧ Pu w wc := by
      rintro wz rfl
      obtain ⟨wc, hrun, hac, hfc⟩ := copyKey _ w1.heap.size A1 c1 (fun k => k < w1.heap.size) (sha key) 3 (by rw [sha_length]; omega) (Hb1.out.pu ((Fr.refl _ _).alloc _)) (heap_alloc_new w1 (.cells (u8s (List.replicate 64 0)).toArray 397))
      rw [sha_length] at hrun
      have hsz := Hp1.out.size
      refine ⟨wc, hrun, ?_, (Hp1.out.alloc _).trans hfc (fun m hm e => by have e : m = w1.heap.size := e; omega)⟩
      rw [macBlock, macKey, if_pos h]; exact hac
    have Hcopy := Lib.hid hcopy
    clear hcopy
    go_wp2_with (first
      | (refine wpList_load_mid rfl 397 (.tmp 5) rfl w1.heap.size 0 rfl (u8s (macBlock key)) _ (Arr.range Hac.out) Tryz.underlying397 rfl (by rw [u8s_length, macBlock_length]; exact info64b) ?_)
      | (refine wpList_copy_runI _ rfl (.tmp 13) (.tmp 14) 23 23 rfl _ _ rfl rfl (Classical.choose_spec (Hcopy.out _ rfl)).1 ?_; obtain ⟨hac, hpc⟩ := (Classical.choose_spec (Hcopy.out _ rfl)).2; generalize Classical.choose (Hcopy.out _ rfl) = wc at hac hpc ⊢; have Hac := Lib.hid hac; have Hpc := Lib.hid hpc; clear hac hpc))
    refine (macTurned (macBlock key) 54 54 wc (macBlock_length key) (by decide)).mono ?_
    rintro e w2 ⟨v2, rfl, ho2, hp2⟩
    obtain ⟨A2, c2, rfl⟩ := own_shape ho2
    have Ho2 := Lib.hid ho2
    have Hp2 := Lib.hid (Hpc.out.pu hp2)
    have Hac2 := Lib.hid (Hac.out.move (hp2.block _ Hac.out.lt (fun h => h)))
    clear ho2 hp2
    go_wp2_with fail
    refine (concatBytes vp ms S w2 (Hp.out.pu Hp2.out) (by omega)).mono ?_
    rintro e w3 ⟨v3, rfl, ho3, hp3⟩
    obtain ⟨A3, c3, rfl⟩ := own_shape ho3
    have Hb2 := Lib.hid (((Bs.of_own Ho2.out).mono (S' := fun k => k < w2.heap.size) (fun k hk _ => hk)).pu hp3 |>.mono (S' := fun k => k < w3.heap.size) (fun k hk _ => hk))
    have Hb3 := Lib.hid ((Bs.of_own ho3).mono (S' := fun k => k < w3.heap.size) (fun k hk _ => hk))
    have Hp3 := Lib.hid (Hp2.out.pu hp3)
    have Hac3 := Lib.hid (Hac2.out.move (hp3.block _ Hac2.out.lt (fun h => h)))
    clear ho3 hp3
    go_wp2_with fail
    rw [show (List.map List.length ms).sum = ms.flatten.length by rw [List.length_flatten]]
    refine (shaSum _ [xorAll (macBlock key) 54, ms.flatten] _ _ ((HG.out.pu Hp3.out).pu ((Fr.refl _ _).alloc _)) (bss_new (S := fun k => k < w3.heap.size) (vs := [.slice A2 64 c2, .slice A3 ms.flatten.length c3]) rfl (by simp) (fun j v l hv hl => ?_)) (by rw [List.length_flatten] at hm; simp [xorAll, macBlock_length]; omega)).mono ?_
    · match j with
      | 0 => cases hv; cases hl; exact Hb2.out
      | 1 => cases hv; cases hl; exact Hb3.out
      | j + 2 => simp at hv
    rintro e w4 ⟨v4, rfl, ho4, hp4⟩
    have hp34 : Pu w3 w4 := ((Fr.refl _ _).alloc _).pu hp4
    rw [show [xorAll (macBlock key) 54, ms.flatten].flatten = xorAll (macBlock key) 54 ++ ms.flatten by simp] at ho4
    obtain ⟨A4, c4, rfl⟩ := own_shape ho4
    rw [sha_length] at ho4 ⊢
    have Ho4 := Lib.hid ho4
    have Hp4 := Lib.hid (Hp3.out.pu hp34)
    have Hac4 := Lib.hid (Hac3.out.move (hp34.block _ Hac3.out.lt (fun h => h)))
    clear ho4 hp4 hp34
    go_wp2_with (refine wpList_load_mid rfl 397 (.tmp 5) rfl w1.heap.size 0 rfl (u8s (macBlock key)) _ (Arr.range Hac4.out) Tryz.underlying397 rfl (by rw [u8s_length, macBlock_length]; exact info64b) ?_)
    refine (macTurned (macBlock key) 92 92 w4 (macBlock_length key) (by decide)).mono ?_
    rintro e w5 ⟨v5, rfl, ho5, hp5⟩
    obtain ⟨A5, c5, rfl⟩ := own_shape ho5
    have Hb4 := Lib.hid (((Bs.of_own Ho4.out).mono (S' := fun k => k < w4.heap.size) (fun k hk _ => hk)).pu hp5 |>.mono (S' := fun k => k < w5.heap.size) (fun k hk _ => hk))
    have Hb5 := Lib.hid ((Bs.of_own ho5).mono (S' := fun k => k < w5.heap.size) (fun k hk _ => hk))
    have Hp5 := Lib.hid (Hp4.out.pu hp5)
    clear ho5 hp5
    go_wp2_with fail
    refine (shaSum _ [xorAll (macBlock key) 92, sha (xorAll (macBlock key) 54 ++ ms.flatten)] _ _ ((HG.out.pu Hp5.out).pu ((Fr.refl _ _).alloc _)) (bss_new (S := fun k => k < w5.heap.size) (vs := [.slice A5 64 c5, .slice A4 32 c4]) rfl (by simp) (fun j v l hv hl => ?_)) (by simp [xorAll, macBlock_length, sha_length])).mono ?_
    · match j with
      | 0 => cases hv; cases hl; exact Hb5.out
      | 1 => cases hv; cases hl; simpa using Hb4.out
      | j + 2 => simp at hv
    rintro e w6 ⟨v6, rfl, ho6, hp6⟩
    have hp56 : Pu w5 w6 := ((Fr.refl _ _).alloc _).pu hp6
    rw [show [xorAll (macBlock key) 92, sha (xorAll (macBlock key) 54 ++ ms.flatten)].flatten = xorAll (macBlock key) 92 ++ sha (xorAll (macBlock key) 54 ++ ms.flatten) by simp, sha_length] at ho6
    have Ho6 := Lib.hid (own_base ho6 (base' := w.heap.size) (by have := Hp5.out.size; simp; omega))
    have Hp6 := Lib.hid (Hp5.out.pu hp56)
    clear ho6 hp6 hp56
    obtain ⟨A6, c6, rfl⟩ := own_shape Ho6.out
    go_wp2
    go_ret
    exact ⟨_, rfl, Ho6.out, Hp6.out⟩
  · have hlit : ∀ (wz : World) (t : TypeId), wz.alloc (.cells (Array.replicate 64 (Value.int .u8 0)) t) = wz.alloc (.cells (u8s (List.replicate 64 0)).toArray t) := fun wz t => by rfl
    have hcopy : ∀ wz, wz = w.alloc (.cells (u8s (List.replicate 64 0)).toArray 397) → ∃ wc, (Builtin.copy_ #[23, 23] 3 #[.slice (some ⟨w.heap.size, 0, none⟩) 64 64, .slice A key.length c]).run Tryz.prog wz = .ok (.int .i64 (key.length : Nat)) wc ∧ Arr wc w.heap.size 397 (u8s (macBlock key)) ∧ Pu w wc := by
      rintro wz rfl
      obtain ⟨wc, hrun, hac, hfc⟩ := copyKey _ w.heap.size A c S key 3 (by omega) (Hv.out.pu ((Fr.refl _ _).alloc _)) (heap_alloc_new w (.cells (u8s (List.replicate 64 0)).toArray 397))
      refine ⟨wc, hrun, ?_, ((Fr.refl _ _).alloc _ : Pu w _).trans hfc (fun m hm e => by have e : m = w.heap.size := e; omega)⟩
      rw [macBlock, macKey, if_neg h]; exact hac
    have Hcopy := Lib.hid hcopy
    clear hcopy hlit
    go_wp2_with (first
      | (refine wpList_load_mid rfl 397 (.tmp 5) rfl w.heap.size 0 rfl (u8s (macBlock key)) _ (Arr.range Hac.out) Tryz.underlying397 rfl (by rw [u8s_length, macBlock_length]; exact info64b) ?_)
      | (refine wpList_copy_runI _ rfl (.tmp 13) (.tmp 14) 23 23 rfl _ _ rfl rfl (Classical.choose_spec (Hcopy.out _ rfl)).1 ?_; obtain ⟨hac, hpc⟩ := (Classical.choose_spec (Hcopy.out _ rfl)).2; generalize Classical.choose (Hcopy.out _ rfl) = wc at hac hpc ⊢; have Hac := Lib.hid hac; have Hpc := Lib.hid hpc; clear hac hpc))
    refine (macTurned (macBlock key) 54 54 wc (macBlock_length key) (by decide)).mono ?_
    rintro e w2 ⟨v2, rfl, ho2, hp2⟩
    obtain ⟨A2, c2, rfl⟩ := own_shape ho2
    have Ho2 := Lib.hid ho2
    have Hp2 := Lib.hid (Hpc.out.pu hp2)
    have Hac2 := Lib.hid (Hac.out.move (hp2.block _ Hac.out.lt (fun h => h)))
    clear ho2 hp2
    go_wp2_with fail
    refine (concatBytes vp ms S w2 (Hp.out.pu Hp2.out) (by omega)).mono ?_
    rintro e w3 ⟨v3, rfl, ho3, hp3⟩
    obtain ⟨A3, c3, rfl⟩ := own_shape ho3
    have Hb2 := Lib.hid (((Bs.of_own Ho2.out).mono (S' := fun k => k < w2.heap.size) (fun k hk _ => hk)).pu hp3 |>.mono (S' := fun k => k < w3.heap.size) (fun k hk _ => hk))
    have Hb3 := Lib.hid ((Bs.of_own ho3).mono (S' := fun k => k < w3.heap.size) (fun k hk _ => hk))
    have Hp3 := Lib.hid (Hp2.out.pu hp3)
    have Hac3 := Lib.hid (Hac2.out.move (hp3.block _ Hac2.out.lt (fun h => h)))
    clear ho3 hp3
    go_wp2_with fail
    rw [show (List.map List.length ms).sum = ms.flatten.length by rw [List.length_flatten]]
    refine (shaSum _ [xorAll (macBlock key) 54, ms.flatten] _ _ ((HG.out.pu Hp3.out).pu ((Fr.refl _ _).alloc _)) (bss_new (S := fun k => k < w3.heap.size) (vs := [.slice A2 64 c2, .slice A3 ms.flatten.length c3]) rfl (by simp) (fun j v l hv hl => ?_)) (by rw [List.length_flatten] at hm; simp [xorAll, macBlock_length]; omega)).mono ?_
    · match j with
      | 0 => cases hv; cases hl; exact Hb2.out
      | 1 => cases hv; cases hl; exact Hb3.out
      | j + 2 => simp at hv
    rintro e w4 ⟨v4, rfl, ho4, hp4⟩
    have hp34 : Pu w3 w4 := ((Fr.refl _ _).alloc _).pu hp4
    rw [show [xorAll (macBlock key) 54, ms.flatten].flatten = xorAll (macBlock key) 54 ++ ms.flatten by simp] at ho4
    obtain ⟨A4, c4, rfl⟩ := own_shape ho4
    rw [sha_length] at ho4 ⊢
    have Ho4 := Lib.hid ho4
    have Hp4 := Lib.hid (Hp3.out.pu hp34)
    have Hac4 := Lib.hid (Hac3.out.move (hp34.block _ Hac3.out.lt (fun h => h)))
    clear ho4 hp4 hp34
    go_wp2_with (refine wpList_load_mid rfl 397 (.tmp 5) rfl w.heap.size 0 rfl (u8s (macBlock key)) _ (Arr.range Hac4.out) Tryz.underlying397 rfl (by rw [u8s_length, macBlock_length]; exact info64b) ?_)
    refine (macTurned (macBlock key) 92 92 w4 (macBlock_length key) (by decide)).mono ?_
    rintro e w5 ⟨v5, rfl, ho5, hp5⟩
    obtain ⟨A5, c5, rfl⟩ := own_shape ho5
    have Hb4 := Lib.hid (((Bs.of_own Ho4.out).mono (S' := fun k => k < w4.heap.size) (fun k hk _ => hk)).pu hp5 |>.mono (S' := fun k => k < w5.heap.size) (fun k hk _ => hk))
    have Hb5 := Lib.hid ((Bs.of_own ho5).mono (S' := fun k => k < w5.heap.size) (fun k hk _ => hk))
    have Hp5 := Lib.hid (Hp4.out.pu hp5)
    clear ho5 hp5
    go_wp2_with fail
    refine (shaSum _ [xorAll (macBlock key) 92, sha (xorAll (macBlock key) 54 ++ ms.flatten)] _ _ ((HG.out.pu Hp5.out).pu ((Fr.refl _ _).alloc _)) (bss_new (S := fun k => k < w5.heap.size) (vs := [.slice A5 64 c5, .slice A4 32 c4]) rfl (by simp) (fun j v l hv hl => ?_)) (by simp [xorAll, macBlock_length, sha_length])).mono ?_
    · match j with
      | 0 => cases hv; cases hl; exact Hb5.out
      | 1 => cases hv; cases hl; simpa using Hb4.out
      | j + 2 => simp at hv
    rintro e w6 ⟨v6, rfl, ho6, hp6⟩
    have hp56 : Pu w5 w6 := ((Fr.refl _ _).alloc _).pu hp6
    rw [show [xorAll (macBlock key) 92, sha (xorAll (macBlock key) 54 ++ ms.flatten)].flatten = xorAll (macBlock key) 92 ++ sha (xorAll (macBlock key) 54 ++ ms.flatten) by simp, sha_length] at ho6
    have Ho6 := Lib.hid (own_base ho6 (base' := w.heap.size) (by have := Hp5.out.size; simp; omega))
    have Hp6 := Lib.hid (Hp5.out.pu hp56)
    clear ho6 hp6 hp56
    obtain ⟨A6, c6, rfl⟩ := own_shape Ho6.out
    go_wp2
    go_ret
    exact ⟨_, rfl, Ho6.out, Hp6.out⟩
end Go.Proofs.YtaendhbiehknlaaGreatDoor

namespace Go.Proofs.YtaendhbiehknlaaGreatDoor
open Go.RowKit Go.Shelf Go.Proofs

theorem macTag_length (key msg : Bytes) : (macTag key msg).length = 32 := sha_length _
/-- What has come out behind i rounds, and the last piece. -/
def expandTo (secret info : Bytes) : Nat → Bytes × Bytes
  | 0 => ([], [])
  | i + 1 => let r := expandTo secret info i; let l := macTag secret (r.2 ++ info ++ [UInt8.ofNat (i + 1)]); (r.1 ++ l, l)
def expand (secret info : Bytes) (n : Nat) : Bytes := (expandTo secret info ((n + 31) / 32)).1.take n
theorem expandTo_length (secret info : Bytes) (i : Nat) : (expandTo secret info i).1.length = 32 * i := by
  induction i with
  | zero => rfl
  | succ i ih => simp only [expandTo, List.length_append, macTag_length, ih]; omega
theorem expandTo_last (secret info : Bytes) (i : Nat) : (expandTo secret info i).2.length ≤ 32 := by
  cases i with
  | zero => simp [expandTo]
  | succ i => simp only [expandTo, macTag_length]; omega
theorem own_shape2 {w : World} {base e n : Nat} {v : Value} {l : Bytes} (h : w.ownsRow base e 1 v n (u8s l)) : ∃ A c, v = .slice A n c ∧ n ≤ c ∧ c ≤ 9223372036854775807 := by
  obtain ⟨A, c, hv⟩ := own_shape h
  have hl : l.length = n := by have := h.1; simpa [u8s] using this
  obtain ⟨A', c', e, h1, h2⟩ := (Bs.of_own h).shape
  rw [hv] at e
  injection e with _ _ e
  subst e
  exact ⟨A, c, hv, by omega, h2⟩
abbrev Tr (_ : Nat) : Prop := True
theorem Sl.tr {α : Type} {d : Kd α} {S : Nat → Prop} {w : World} {v : Value} {xs : List α} (h : Sl d S w v xs) : Sl d Tr w v xs := h.mono (fun _ _ _ => trivial)
theorem own_pu {w w1 : World} {base e size n : Nat} {v : Value} {xs : List Value} (h : w.ownsRow base e size v n xs) (hp : Pu w w1) : w1.ownsRow base e size v n xs := own_move h (fun k hk => hp.block k (own_lt h k hk).2 (fun h => h))
theorem Bs.own {w : World} {base e n : Nat} {v : Value} {l : Bytes} (h : w.ownsRow base e 1 v n (u8s l)) : Bs (fun k => base ≤ k) w v l := (Bs.of_own h).mono (fun k _ hk => (own_lt h k hk).1)
theorem bs_one (w : World) (t : TypeId) (c : UInt8) : Bs Tr (w.alloc (.cells #[u8v c] t)) (.slice (some ⟨w.heap.size, 0, none⟩) 1 1) [c] :=
  ⟨_, 1, rfl, Nat.le_refl _, by decide, fun _ => ⟨w.heap.size, 0, rfl, trivial, by simp, fun j x hj => ⟨[u8v x], rfl, fun i u hu => by
    have hi : i = 0 := by
      have := (List.getElem?_eq_some_iff.1 hu).1
      simp at this
      omega
    subst hi
    obtain rfl : u8v x = u := by simpa using hu
    have hj0 : j = 0 := by
      have := (List.getElem?_eq_some_iff.1 hj).1
      simp at this
      omega
    subst hj0
    obtain rfl : c = x := by simpa using hj
    rw [cell_of_row _ _ _ _ _ _ (heap_alloc_new _ _)]
    rfl⟩⟩⟩
set_option maxRecDepth 100000 in
set_option maxHeartbeats 1000000 in
theorem kdfExpand (v vi : Value) (secret info : Bytes) (n : Nat) (S : Nat → Prop) (w : World) (hG : Globs w) (hv : Bs S w v secret) (hi : Bs S w vi info) (hn : n ≤ 8160) (hs : secret.length ≤ 1099511627776) (hil : info.length ≤ 1099511627776) :
    Calls Tryz.prog 165 #[v, vi, .int .i64 n] w fun e w' => ∃ v', e = .returned (.tuple #[v', .bool true]) ∧ Bs (fun k => w.heap.size ≤ k) w' v' (expand secret info n) ∧ Pu w w' := by
  obtain ⟨A, c, rfl, hlc, hmc⟩ := hv.shape
  obtain ⟨Ai, ci, rfl, hlci, hmci⟩ := hi.shape
  have Hv := Lib.hid hv
  have Hi := Lib.hid hi
  have HG := Lib.hid hG
  clear hv hi hG
  go_enter Tryz.func165, Tryz.ntmps165
  go_wp2
  go_loopw [8, 9, 10] (fun x l i wr => ∃ j y : Nat, 32 * j < n + 32 ∧ i = .int .u8 (y : Int) ∧ Hid (y = (j + 1) % 256) ∧ wr.ownsRow w.heap.size 5 1 x (32 * j) (u8s (expandTo secret info j).1) ∧ wr.ownsRow w.heap.size 5 1 l (expandTo secret info j).2.length (u8s (expandTo secret info j).2) ∧ Pu w wr) (fun x _ _ _ => n - sliceLen x)
  case atStart => exact ⟨0, 1, by omega, rfl, Lib.hid rfl, World.ownsRow_nil _ _ _ _, World.ownsRow_nil _ _ _ _, Fr.refl _ _⟩
  case round =>
    obtain ⟨j, y, hj, rfl, Hy, ho, hl, hp⟩ := hrel
    obtain ⟨A8, c8, rfl, hc8, hm8⟩ := own_shape2 ho
    obtain ⟨A9, c9, rfl, hc9, hm9⟩ := own_shape2 hl
    have Ho := Lib.hid ho
    have Hl := Lib.hid hl
    have Hp := Lib.hid hp
    clear ho hl hp
    have hl32 := expandTo_last secret info j
    by_cases hlt : 32 * j < n
    · have hy : y = j + 1 := by rw [Hy.out]; omega
      subst hy
      have e1 : Value.int .u8 ((j + 1 : Nat) : Int) = u8v (UInt8.ofNat (j + 1)) := by simp [u8v]; omega
      have E1 := Lib.hid e1
      clear e1
      go_wp2_with fail
      have hb := bss_new (S := Tr) (w := wr.alloc (.cells #[Value.int .u8 ((j + 1 : Nat) : Int)] 5)) (t := 23) (vs := [.slice A9 (expandTo secret info j).2.length c9, .slice Ai info.length ci, .slice (some ⟨wr.heap.size, 0, none⟩) 1 1]) (ls := [(expandTo secret info j).2, info, [UInt8.ofNat (j + 1)]]) rfl (by simp) (fun i v l hv hl => by
        match i with
        | 0 => cases hv; cases hl; exact ((Bs.own Hl.out).pu ((Fr.refl _ _).alloc _)).tr
        | 1 => cases hv; cases hl; exact (Hi.out.pu (Hp.out.alloc _)).tr
        | 2 => cases hv; cases hl; rw [E1.out]; exact bs_one _ _ _
        | i + 3 => simp at hv)
      have Hb := Lib.hid hb
      clear hb
      refine (macTagW (.slice A secret.length c) _ secret [(expandTo secret info j).2, info, [UInt8.ofNat (j + 1)]] Tr _ (HG.out.pu ((Hp.out.alloc _).alloc _)) (Hv.out.pu ((Hp.out.alloc _).alloc _)).tr (by simpa using Hb.out.mono (fun _ _ _ => trivial)) (by omega) (by simp; omega)).mono ?_
      rintro e w1 ⟨v1, rfl, ho1, hp1⟩
      have hpw := (((Fr.refl _ _).alloc _).alloc _ : Pu wr _).pu hp1
      have hms : macTag secret [(expandTo secret info j).2, info, [UInt8.ofNat (j + 1)]].flatten = (expandTo secret info (j + 1)).2 := by simp [expandTo]
      rw [hms] at ho1
      obtain ⟨A1, c1, rfl⟩ := own_shape ho1
      have Hlo := Lib.hid (fun k hk => Nat.le_of_succ_le (by simpa using (own_lt ho1 k hk).1) : ∀ k, (Value.slice A1 32 c1).ownBlock = some k → wr.heap.size + 1 ≤ k)
      have Hhi := Lib.hid (own_lt Ho.out)
      have Ho1 := Lib.hid (own_base (base' := w.heap.size) ho1 (by have := Hp.out.size; simp; omega))
      have Ho2 := Lib.hid (own_pu Ho.out hpw)
      have Hpw := Lib.hid (Hp.out.pu hpw)
      have Hb1 := Lib.hid (Bs.rds (Bs.of_own ho1 : Bs _ w1 (.slice A1 32 c1) (expandTo secret info (j + 1)).2))
      have hl2 : (expandTo secret info (j + 1)).2.length = 32 := macTag_length _ _
      rw [hl2] at Hb1
      have Hl2 := Lib.hid hl2
      clear ho1 hp1 hpw hms Hb E1 hl2
      go_wp2_with (at_builtin; refine wpList_append_any _ rfl (.tmp 30) (.tmp 31) 23 rfl w.heap.size 5 (.int .u8 0) 1 1 Tryz.underlying23 infoU8 rfl (by decide) (.slice A8 (32 * j) c8) _ _ rfl Ho2.out A1 32 c1 (u8s (expandTo secret info (j + 1)).2) rfl Hb1.out (u8s_one _) (by omega) Hpw.out.size ?_; intro v2 w2 hown hgrow hat)
      obtain ⟨A2, c2, rfl⟩ := own_shape hown
      refine ⟨⟨j + 1, (j + 1 + 1) % 256, by omega, by congr 1, Lib.hid rfl, ?_, ?_, Hpw.out.grown hgrow (fun k hk e => by have := (Hhi.out k e).1; omega)⟩, by simp [sliceLen]; omega⟩
      · rw [← u8s_append] at hown
        exact hown
      · rw [Hl2.out]
        exact own_move Ho1.out (fun k hk => hgrow.block k (own_lt Ho1.out k hk).2 (fun e => by have h1 := Hlo.out k hk; have h2 := (Hhi.out k e.symm).2; omega))
    · have hj2 : (n + 31) / 32 = j := by omega
      have Hj2 := Lib.hid hj2
      clear hj2
      go_wp2
      go_ret2
      have hb := Bs.own Ho.out
      have he := Bs.take (k := n) (c' := n) (l := (expandTo secret info j).1) (A := A8) (n := 32 * j) (c := c8) hb (by rw [expandTo_length]; omega) (Nat.le_refl _) (by omega)
      exact ⟨_, rfl, by rw [expand, Hj2.out]; exact he, Hp.out⟩
end Go.Proofs.YtaendhbiehknlaaGreatDoor
