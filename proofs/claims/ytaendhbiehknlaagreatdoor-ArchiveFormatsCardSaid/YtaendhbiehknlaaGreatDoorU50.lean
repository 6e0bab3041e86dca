/- What is proved here, of the given program: The statement: all its cases. The statement: for every input it is true. -/
import Derived.Test.YtaendhbiehknlaaGreatDoorU49
set_option linter.unusedVariables false
set_option linter.unusedSimpArgs false
set_option linter.constructorNameAsVariable false
namespace Go.Proofs.YtaendhbiehknlaaGreatDoor
open Go.RowKit Go.Shelf Go.Proofs

set_option maxRecDepth 100000 in
set_option maxHeartbeats 4000000 in
theorem lawSkip {w : World} {n : Nat} {a b c per keep : Int} {A : Option Addr} {m cp : Nat} (hG : Globs w) (hE : ErrG w) (h : 60 < m ∨ 1000 < a ∨ 1000 < b ∨ 1000 < c) (hm : m ≤ 9223372036854775807) :
    Calls Tryz.prog 3 #[.int .u8 n, .agg #[.int .i64 a, .int .i64 b, .int .i64 c], .agg #[.int .i64 per, .int .i64 keep, .slice A m cp]] w fun e w' => e = .returned (.bool true) ∧ Pu w w' := by
  have HG := Lib.hid hG
  have HE := Lib.hid hE
  clear hG hE
  by_cases h1 : (60 : Int) < (m : Int)
  · have H := h
    clear H h hm
    go_enter Tryz.func3, Tryz.ntmps3
    go_wp2_with fail
    have hp0 : Pu w ((w.alloc (.cells #[.int .i64 a, .int .i64 b, .int .i64 c] 22)).alloc (.cells #[.int .i64 per, .int .i64 keep, .slice A m cp] 25)) := ((Fr.refl _ _).alloc _).alloc _
    have hs1 : (w.alloc (.cells #[.int .i64 a, .int .i64 b, .int .i64 c] 22)).heap.size = w.heap.size + 1 := by simp
    have hq0 := heap_alloc_new (w.alloc (.cells #[.int .i64 a, .int .i64 b, .int .i64 c] 22)) (.cells #[.int .i64 per, .int .i64 keep, .slice A m cp] 25)
    rw [hs1] at hq0
    generalize (w.alloc (.cells #[.int .i64 a, .int .i64 b, .int .i64 c] 22)).alloc (.cells #[.int .i64 per, .int .i64 keep, .slice A m cp] 25) = w0 at *
    refine (lawAwake w0 (HG.out.pu hp0) (HE.out.pu hp0)).mono ?_
    rintro e w1 ⟨rfl, hp1⟩
    have Hp1 := Lib.hid (hp0.pu hp1)
    obtain ⟨z0, z1, z2, zf⟩ := block3 ((hp1.block _ (blk_lt hq0) (fun h => h)).trans hq0)
    have hN := blk_lt ((hp1.block _ (blk_lt hq0) (fun h => h)).trans hq0)
    clear hq0 hp0 hp1 hs1
    go_wp2_with fail
    refine (lawAwake w1 (HG.out.pu Hp1.out) (HE.out.pu Hp1.out)).mono ?_
    rintro e w2 ⟨rfl, hp2⟩
    have Hp2 := Lib.hid (Hp1.out.pu hp2)
    clear hp2
    go_wp2
    go_ret
    exact ⟨rfl, Hp2.out⟩
  · have hd1 : decide ((60 : Int) < (m : Int)) = false := by simpa using h1
    have hh : 1000 < a ∨ 1000 < b ∨ 1000 < c := by omega
    clear h
    go_enter Tryz.func3, Tryz.ntmps3
    go_wp2_with fail
    have hp0 : Pu w ((w.alloc (.cells #[.int .i64 a, .int .i64 b, .int .i64 c] 22)).alloc (.cells #[.int .i64 per, .int .i64 keep, .slice A m cp] 25)) := ((Fr.refl _ _).alloc _).alloc _
    have hs1 : (w.alloc (.cells #[.int .i64 a, .int .i64 b, .int .i64 c] 22)).heap.size = w.heap.size + 1 := by simp
    have hn0 := (heap_alloc_old (w.alloc (.cells #[.int .i64 a, .int .i64 b, .int .i64 c] 22)) (.cells #[.int .i64 per, .int .i64 keep, .slice A m cp] 25) _ (by rw [hs1]; exact Nat.lt_succ_self _)).trans (heap_alloc_new w (.cells #[.int .i64 a, .int .i64 b, .int .i64 c] 22))
    have hq0 := heap_alloc_new (w.alloc (.cells #[.int .i64 a, .int .i64 b, .int .i64 c] 22)) (.cells #[.int .i64 per, .int .i64 keep, .slice A m cp] 25)
    rw [hs1] at hq0
    generalize (w.alloc (.cells #[.int .i64 a, .int .i64 b, .int .i64 c] 22)).alloc (.cells #[.int .i64 per, .int .i64 keep, .slice A m cp] 25) = w0 at *
    refine (lawAwake w0 (HG.out.pu hp0) (HE.out.pu hp0)).mono ?_
    rintro e w1 ⟨rfl, hp1⟩
    have Hp1 := Lib.hid (hp0.pu hp1)
    obtain ⟨z0, z1, z2, zf⟩ := block3 ((hp1.block _ (blk_lt hq0) (fun h => h)).trans hq0)
    have hN := blk_lt ((hp1.block _ (blk_lt hq0) (fun h => h)).trans hq0)
    obtain ⟨y0, y1, y2, yf⟩ := block3 ((hp1.block _ (blk_lt hn0) (fun h => h)).trans hn0)
    clear hq0 hp0 hp1 hs1 hn0
    by_cases h2 : 1000 < a
    · clear hh
      go_wp2_with fail
      refine (lawAwake w1 (HG.out.pu Hp1.out) (HE.out.pu Hp1.out)).mono ?_
      rintro e w2 ⟨rfl, hp2⟩
      have Hp2 := Lib.hid (Hp1.out.pu hp2)
      clear hp2
      go_wp2
      go_ret
      exact ⟨rfl, Hp2.out⟩
    · by_cases h3 : 1000 < b
      · clear hh
        go_wp2_with fail
        refine (lawAwake w1 (HG.out.pu Hp1.out) (HE.out.pu Hp1.out)).mono ?_
        rintro e w2 ⟨rfl, hp2⟩
        have Hp2 := Lib.hid (Hp1.out.pu hp2)
        clear hp2
        go_wp2
        go_ret
        exact ⟨rfl, Hp2.out⟩
      · have h4 : 1000 < c := by omega
        clear hh
        go_wp2_with fail
        refine (lawAwake w1 (HG.out.pu Hp1.out) (HE.out.pu Hp1.out)).mono ?_
        rintro e w2 ⟨rfl, hp2⟩
        have Hp2 := Lib.hid (Hp1.out.pu hp2)
        clear hp2
        go_wp2
        go_ret
        exact ⟨rfl, Hp2.out⟩
end Go.Proofs.YtaendhbiehknlaaGreatDoor

namespace Go.Proofs.YtaendhbiehknlaaGreatDoor
open Go.RowKit Go.Shelf Go.Proofs

section
variable {k : Nat} {a b c per keep : Int} {A : Option Addr} {cp : Nat} {name : Bytes}
/-- Format refuses. -/
theorem fmtNo (f : Int) (hf : f ≠ 0) (ha : ∀ W gd, DiskNil W gd (zeros (k * 128)) (-1) → Calls Tryz.prog 8 #[.pointer (some ⟨gd, 0, none⟩), .int .i64 a, .int .i64 b, .int .i64 c] W fun en w' => ∃ v, en = .returned v ∧ ErrIs w' v [(archT, 0)] f ∧ Pu W w') :
    ∀ W gd, DiskNil W gd (zeros (k * 128)) (-1) → Calls Tryz.prog 8 #[.pointer (some ⟨gd, 0, none⟩), .int .i64 a, .int .i64 b, .int .i64 c] W fun en w' => ∃ v, en = .returned v ∧ ErrOr w' v f ∧ DiskNil w' gd (zeros (k * 128)) (-1) ∧ Fr (At gd) W w' :=
  fun W gd hd => (ha W gd hd).mono fun _ _ ⟨v, h1, h2, h3⟩ => ⟨v, h1, .inr ⟨hf, [], by decide, h2⟩, hd.pu h3, h3.any⟩
theorem fmtNoR (f : Int) (ha : ∀ W ge, RefAt W ge (zeros (k * 128)) [] → Calls Tryz.prog 9 #[.pointer (some ⟨ge, 0, none⟩), .int .i64 a, .int .i64 b, .int .i64 c] W fun en w' => en = .returned (.int .i64 f) ∧ Pu W w') :
    ∀ W ge, RefAt W ge (zeros (k * 128)) [] → Calls Tryz.prog 9 #[.pointer (some ⟨ge, 0, none⟩), .int .i64 a, .int .i64 b, .int .i64 c] W fun en w' => en = .returned (.int .i64 f) ∧ RefAt w' ge (zeros (k * 128)) [] ∧ Fr (At ge) W w' :=
  fun W ge hd => (ha W ge hd).mono fun _ _ ⟨h1, h3⟩ => ⟨h1, hd.pu h3, h3.any⟩
variable {im : Bytes}
/-- Open refuses a policy. -/
theorem polNo (hnl : name.length ≤ 60) (hpol : polRight per keep name.length = false) : ∀ W gd, Bs Tr W (.slice A name.length cp) name → DiskNil W gd im (-1) → Calls Tryz.prog 10 #[.pointer (some ⟨gd, 0, none⟩), .agg #[.int .i64 per, .int .i64 keep, .slice A name.length cp]] W fun en w' => ∃ v, en = .returned (.tuple #[.pointer none, v]) ∧ ErrOr w' v 2 ∧ DiskNil w' gd im (-1) ∧ Fr (At gd) W w' :=
  fun W gd hv hd => (archOpenPol gd per keep A cp name Tr W hv (by omega) hpol).mono fun _ _ ⟨v, h1, h2, h3⟩ => ⟨v, h1, .inr ⟨by decide, [], by decide, h2⟩, hd.pu h3, h3.any⟩
theorem polNoR (hpol : polRight per keep name.length = false) : ∀ W ge, RefAt W ge im [] → Calls Tryz.prog 11 #[.pointer (some ⟨ge, 0, none⟩), .agg #[.int .i64 per, .int .i64 keep, .slice A name.length cp]] W fun en w' => en = .returned (.tuple #[.pointer none, .int .i64 2]) ∧ RefAt w' ge im [] ∧ Fr (At ge) W w' :=
  fun W ge hd => (refOpenPol (w := W) (A := A) (c := cp) (.pointer (some ⟨ge, 0, none⟩)) hpol).mono fun _ _ ⟨h1, h3⟩ => ⟨h1, hd.pu h3, h3.any⟩
/-- Open finds no superblock. -/
theorem findNo (f : Int) (hf : f ≠ 0) (hnl : name.length ≤ 60) (hpol : polRight per keep name.length = true) (h : ∀ W gd, DiskNil W gd im (-1) → Calls Tryz.prog 133 #[.pointer (some ⟨gd, 0, none⟩)] W fun en w' => ∃ v, en = .returned (.tuple #[Sup0, v]) ∧ ErrIs w' v [(superT, 0)] f ∧ Pu W w') : ∀ W gd, Bs Tr W (.slice A name.length cp) name → DiskNil W gd im (-1) → Calls Tryz.prog 10 #[.pointer (some ⟨gd, 0, none⟩), .agg #[.int .i64 per, .int .i64 keep, .slice A name.length cp]] W fun en w' => ∃ v, en = .returned (.tuple #[.pointer none, v]) ∧ ErrOr w' v f ∧ DiskNil w' gd im (-1) ∧ Fr (At gd) W w' :=
  fun W gd hv hd => (archOpenLoadNo gd [(superT, 0)] f per keep A cp name Tr W hv (by omega) hpol (fun W' hp => h W' gd (hd.pu hp))).mono fun _ _ ⟨v, h1, h2, h3⟩ => ⟨v, h1, .inr ⟨hf, _, by simp, h2⟩, hd.pu h3, h3.any⟩
theorem findNoR (f : Int) (hf : f ≠ 0) (hpol : polRight per keep name.length = true) (h : ∀ W ge, RefAt W ge im [] → Calls Tryz.prog 44 #[.pointer (some ⟨ge, 0, none⟩)] W fun en w' => en = .returned (.tuple #[Sup0, .int .i64 f]) ∧ Pu W w') : ∀ W ge, RefAt W ge im [] → Calls Tryz.prog 11 #[.pointer (some ⟨ge, 0, none⟩), .agg #[.int .i64 per, .int .i64 keep, .slice A name.length cp]] W fun en w' => en = .returned (.tuple #[.pointer none, .int .i64 f]) ∧ RefAt w' ge im [] ∧ Fr (At ge) W w' :=
  fun W ge hd => (refOpenFindNo (w := W) (A := A) (c := cp) f hf hpol hd.lt (fun W' hp => h W' ge (hd.pu hp))).mono fun _ _ ⟨h1, h3⟩ => ⟨h1, hd.pu h3, h3.any⟩
theorem zerosK (hk : 1 ≤ k) (hk2 : k ≤ 256) : (zeros (k * 128)).length % 128 = 0 ∧ 1 ≤ (zeros (k * 128)).length / 128 ∧ (zeros (k * 128)).length ≤ 17592186044416 := by rw [zeros_length]; omega
/-- What Format has refused stays empty: Open refuses it. -/
theorem emptyNo (w : World) (f1 : Int) (hk : 1 ≤ k) (hk2 : k ≤ 256) (hnl : name.length ≤ 60)
    (fa : ∀ W gd, DiskNil W gd (zeros (k * 128)) (-1) → Calls Tryz.prog 8 #[.pointer (some ⟨gd, 0, none⟩), .int .i64 a, .int .i64 b, .int .i64 c] W fun en w' => ∃ v, en = .returned v ∧ ErrOr w' v f1 ∧ DiskNil w' gd (zeros (k * 128)) (-1) ∧ Fr (At gd) W w')
    (fb : ∀ W ge, RefAt W ge (zeros (k * 128)) [] → Calls Tryz.prog 9 #[.pointer (some ⟨ge, 0, none⟩), .int .i64 a, .int .i64 b, .int .i64 c] W fun en w' => en = .returned (.int .i64 f1) ∧ RefAt w' ge (zeros (k * 128)) [] ∧ Fr (At ge) W w') :
    ∃ f2, BothNo w k a b c per keep A cp name f1 f2 (zeros (k * 128)) (zeros (k * 128)) := by
  have hl := zerosK hk hk2
  cases hpol : polRight per keep name.length
  · exact ⟨2, ⟨fa, fb, hl, hl.2.1⟩, polNo hnl hpol, polNoR hpol, by decide⟩
  · by_cases h2 : 2 ≤ k
    · have hz := newest_zeros (k * 128) (by omega)
      exact ⟨50, ⟨fa, fb, hl, hl.2.1⟩, findNo 50 (by decide) hnl hpol (fun W gd hd => superFindNone gd _ _ W hd.at_ hl.2.2 (by decide) (by rw [zeros_length]; omega) hz), findNoR 50 (by decide) hpol (fun W ge hd => refFindNone hd hl.2.2 (by rw [zeros_length]; omega) hz), by decide⟩
    · exact ⟨20, ⟨fa, fb, hl, hl.2.1⟩, findNo 20 (by decide) hnl hpol (fun W gd hd => superFindShort gd _ _ W hd.at_ hl.2.2 (by rw [zeros_length]; omega)), findNoR 20 (by decide) hpol (fun W ge hd => refFindShort hd hl.2.2 (by rw [zeros_length]; omega)), by decide⟩
end
theorem lawMain {w : World} {n : Nat} {a b c per keep : Int} {A : Option Addr} {cp : Nat} {name : Bytes} (hn : n ≤ 255) (hv : Bs Tr w (.slice A name.length cp) name) (hG : Globs w) (hE : ErrG w) :
    Calls Tryz.prog 3 #[.int .u8 n, .agg #[.int .i64 a, .int .i64 b, .int .i64 c], .agg #[.int .i64 per, .int .i64 keep, .slice A name.length cp]] w fun e w' => e = .returned (.bool true) ∧ Pu w w' := by
  obtain ⟨_, _, esh, hcp, hcm⟩ := hv.shape
  injection esh with _ _ ecp
  subst ecp
  by_cases hs : 60 < name.length ∨ 1000 < a ∨ 1000 < b ∨ 1000 < c
  · exact lawSkip hG hE hs (by omega)
  have hnl : name.length ≤ 60 := by omega
  have ha : a ≤ 1000 := by omega
  have hb : b ≤ 1000 := by omega
  have hc : c ≤ 1000 := by omega
  clear hs
  obtain ⟨k, hk⟩ : ∃ k, k = 1 + n := ⟨_, rfl⟩
  have hk1 : 1 ≤ k := by omega
  have hk2 : k ≤ 256 := by omega
  have hzl := zeros_length (k * 128)
  cases hr : (Sup.mk 1 0 a b c).right
  · obtain ⟨f2, H⟩ := emptyNo (A := A) (cp := cp) (name := name) (per := per) (keep := keep) w 2 hk1 hk2 hnl (fmtNo 2 (by decide) (fun W gd _ => archFormatBad gd a b c W hr)) (fmtNoR 2 (fun W ge _ => refFormatBad a b c (.pointer (some ⟨ge, 0, none⟩)) hr))
    exact lawNo hk hn hv hnl ha hb hc hG hE H
  · obtain ⟨-, -, ⟨r3, r3'⟩, ⟨r4, r4'⟩, ⟨r5, r5'⟩⟩ := (Sup.right_iff _).1 hr
    dsimp only at r3 r3' r4 r4' r5 r5'
    obtain ⟨a', rfl⟩ : ∃ n : Nat, a = n := ⟨a.toNat, by omega⟩
    obtain ⟨b', rfl⟩ : ∃ n : Nat, b = n := ⟨b.toNat, by omega⟩
    obtain ⟨c', rfl⟩ : ∃ n : Nat, c = n := ⟨c.toNat, by omega⟩
    have hbc : b' * c' ≤ 131072 := Nat.le_trans (Nat.mul_le_mul (show b' ≤ 256 by omega) (show c' ≤ 512 by omega)) (by decide)
    obtain ⟨m, hm⟩ : ∃ m, m = 2 + 2 * a' + b' * c' := ⟨_, rfl⟩
    have hsec : (Sup.mk 1 0 (a' : Int) (b' : Int) (c' : Int)).sectors = (m : Int) := by
      rw [hm]
      show (2 : Int) + 2 * (a' : Int) + (b' : Int) * (c' : Int) = _
      simp
    by_cases ht : m ≤ k
    · have hfa := fun W gd (hd : DiskNil W gd (zeros (k * 128)) (-1)) => archFormat gd (zeros (k * 128)) (-1) a' b' c' m W hd (by decide) (by omega) hr hsec (by omega) (by omega)
      have hfb := fun W ge (hd : RefAt W ge (zeros (k * 128)) []) => refFormat hd (by omega) a' b' c' m hr hsec (by omega) (by omega)
      rw [imgF_of (k * 128) m a' b' c' (by omega)] at hfa hfb
      have hil := imgF_length (k * 128) a' b' c' (by omega)
      have FA : ∀ W gd, DiskNil W gd (zeros (k * 128)) (-1) → Calls Tryz.prog 8 #[.pointer (some ⟨gd, 0, none⟩), .int .i64 a', .int .i64 b', .int .i64 c'] W fun en w' => ∃ v, en = .returned v ∧ ErrOr w' v 0 ∧ DiskNil w' gd (imgF (k * 128) a' b' c') (-1) ∧ Fr (At gd) W w' :=
        fun W gd hd => (hfa W gd hd).mono fun _ _ ⟨h1, h2, h3⟩ => ⟨_, h1, .inl ⟨rfl, rfl⟩, h2, h3⟩
      cases hpol : polRight per keep name.length
      · have H : BothNo w k a' b' c' per keep A cp name 0 2 (imgF (k * 128) a' b' c') (imgF (k * 128) a' b' c') := ⟨⟨FA, hfb, by rw [hil]; omega, by rw [hil]; omega⟩, polNo hnl hpol, polNoR hpol, by decide⟩
        exact lawNo hk hn hv hnl ha hb hc hG hE H
      · have hnw := imgF_newest (k * 128) a' b' c' (by omega) hr
        have hz1 := imgF_zero (k * 128) a' b' c' (2 * 128) (2 * a' * 128) (by omega) (by omega)
        have hz2 := imgF_zero (k * 128) a' b' c' ((2 + 2 * a') * 128) (b' * c' * 128) (by omega) (by omega)
        have hpl : (patch (imgF (k * 128) a' b' c') 0 (Sup.mk 2 1 a' b' c').bytes).length = k * 128 := by
          rw [patch_length _ _ _ (by rw [hil, Sup.bytes_length]; omega), hil]
        have H : BothYes w k a' b' c' per keep A cp name 0 (imgF (k * 128) a' b' c') (patch (imgF (k * 128) a' b' c') 0 (Sup.mk 2 1 a' b' c').bytes) :=
          ⟨⟨FA, hfb, by rw [hpl]; omega, by rw [hil]; omega⟩,
            fun W gd hv2 hd => archOpenOk gd per keep A cp name Tr W hv2 (by omega) hpol _ _ a' b' c' hd (by omega) (by decide) (by omega) (right_up hr) hnw hz1 hz2,
            fun W ge hd => refOpenOk hpol a' b' c' hd (by omega) (by omega) (right_up hr) hnw hz1 hz2⟩
        exact lawYes hk hn hv hnl ha hb hc hG hE H
    · obtain ⟨f2, H⟩ := emptyNo (A := A) (cp := cp) (name := name) (per := per) (keep := keep) w 20 hk1 hk2 hnl (fmtNo 20 (by decide) (fun W gd hd => archFormatShort gd _ _ a' b' c' m W hd (by omega) hr hsec (by omega) (by omega))) (fmtNoR 20 (fun W ge hd => refFormatShort hd (by omega) a' b' c' m hr hsec (by omega) (by omega)))
      exact lawNo hk hn hv hnl ha hb hc hG hE H
end Go.Proofs.YtaendhbiehknlaaGreatDoor
