/- What is proved here, of the given program: The references: Number, Value, Sum, With. The references: Sum, With, number. -/
import Derived.Test.YtaendhbiehknlaaGreatDoorU28
set_option linter.unusedVariables false
set_option linter.unusedSimpArgs false
set_option linter.constructorNameAsVariable false
namespace Go.Proofs.YtaendhbiehknlaaGreatDoor
open Go.RowKit Go.Shelf Go.Proofs

theorem number_succ (n j : Nat) : number n (j + 1) = UInt8.ofNat (n / 256 ^ j % 256) :: number n j := by
  rw [number, Nat.pow_mul, show (2 : Nat) ^ 8 = 256 from rfl]
  congr 1
  apply UInt8.toNat_inj.1
  simp
set_option maxRecDepth 100000 in
theorem refNumber (n k : Nat) (w : World) (hn : Hid (n < 18446744073709551616)) (hk : k ≤ 8) :
    Calls Tryz.prog 131 #[.int .u64 n, .int .i64 k] w fun e w' => e = .returned (.string (str (number n k))) ∧ Pu w w' := by
  go_enter Tryz.func131, Tryz.ntmps131
  go_wp2
  go_loopw [0, 5, 6] (fun a s i wr => ∃ j : Nat, j ≤ k ∧ i = .int .i64 j ∧ a = .int .u64 (n / 256 ^ j : Nat) ∧ s = .string (str (number n j)) ∧ Pu w wr) (fun _ _ i _ => k - (intOf i).toNat)
  case atStart => exact ⟨0, Nat.zero_le _, rfl, by simp, rfl, Fr.refl _ _⟩
  case round =>
    obtain ⟨j, hj, rfl, rfl, rfl, hp⟩ := hrel
    have Hp := Lib.hid hp
    clear hp
    by_cases hlt : j < k
    · have hs := number_succ n j
      have hq : n / 256 ^ (j + 1) = n / 256 ^ j / 256 := by rw [Nat.pow_succ, Nat.div_div_eq_div_mul]
      have Hq := Lib.hid hq
      have Hm := Lib.hid (show n / 256 ^ j < 18446744073709551616 from Nat.lt_of_le_of_lt (Nat.div_le_self _ _) hn.out)
      have Hs := Lib.hid hs
      clear hq hs
      generalize n / 256 ^ j = m at *
      have hc := run_str1 (P := Tryz.prog) wr 23 5 9 (UInt8.ofNat (m % 256)) Tryz.underlying23 Tryz.underlying5 Tryz.underlying9 5 (0, 0)
      have e8 : u8v (UInt8.ofNat (m % 256)) = .int .u8 ((m : Int) % 256) := by simp [u8v]
      rw [e8] at hc
      clear e8
      have hadd := fun W => run_add_str (P := Tryz.prog) W [UInt8.ofNat (m % 256)] (number n j) (by rw [number_length]; simp; omega)
      go_wp2
      refine ⟨⟨j + 1, by omega, by go_num, ?_, ?_, Hp.out.alloc _⟩, by simp [intOf]; omega⟩
      · have e9 : IntKind.u64.wrap ((m : Int) / 256) = ((m / 256 : Nat) : Int) := by have := Hm.out; rw [IntKind.wrap_u64]; omega
        rw [Hq.out, e9]
      · exact congrArg (fun x => Value.string (str x)) Hs.out.symm
    · obtain rfl : j = k := by omega
      go_wp2
      go_ret
      exact ⟨rfl, Hp.out⟩
theorem refNumber8 (n : Nat) (w : World) (hn : Hid (n < 18446744073709551616)) : Calls Tryz.prog 131 #[.int .u64 n, .int .i64 8] w fun e w' => e = .returned (.string (str (number n 8))) ∧ Pu w w' := refNumber n 8 w hn (by omega)
theorem refNumber4 (n : Nat) (w : World) (hn : Hid (n < 18446744073709551616)) : Calls Tryz.prog 131 #[.int .u64 n, .int .i64 4] w fun e w' => e = .returned (.string (str (number n 4))) ∧ Pu w w' := refNumber n 4 w hn (by omega)
theorem take_snoc' (s : ByteArray) (k : Nat) (h : k < s.size) : s.data.toList.take (k + 1) = s.data.toList.take k ++ [s[k]] := by
  rw [List.take_succ_eq_append_getElem (by simpa using h)]; rfl
theorem value_take_lt (l : Bytes) (k : Nat) (h : k ≤ 7) : value (l.take k) < 72057594037927936 := by
  have h1 := value_lt (l.take k)
  have h2 : (l.take k).length ≤ 7 := by rw [List.length_take]; omega
  have h3 : 256 ^ (l.take k).length ≤ 256 ^ 7 := Nat.pow_le_pow_right (by decide) h2
  have h4 : (256 : Nat) ^ 7 = 72057594037927936 := by decide
  omega
set_option maxRecDepth 100000 in
theorem refValue (s : ByteArray) (w : World) (hs : s.size ≤ 8) :
    Calls Tryz.prog 149 #[.string s] w fun e w' => e = .returned (.int .u64 (value s.data.toList : Nat)) ∧ w = w' := by
  go_enter Tryz.func149, Tryz.ntmps149
  go_wp2
  go_loop [3, 4] (fun x i => ∃ j : Nat, j ≤ s.size ∧ i = .int .i64 j ∧ x = .int .u64 (value (s.data.toList.take j) : Nat)) (fun _ i => s.size - (intOf i).toNat)
  case atStart => exact ⟨0, Nat.zero_le _, rfl, rfl⟩
  case round =>
    obtain ⟨j, hj, rfl, rfl⟩ := hrel
    by_cases hlt : j < s.size
    · have Hts := Lib.hid (take_snoc' s j hlt)
      have hc := s[j].toNat_lt
      have hv := value_take_lt s.data.toList j (by omega)
      obtain ⟨y, hy⟩ : ∃ y, y = value (s.data.toList.take j) := ⟨_, rfl⟩
      rw [← hy] at hv ⊢
      have Hy := Lib.hid hy
      have e1 : IntKind.u64.wrap ((y : Int) * 256) = (y : Int) * 256 := by rw [IntKind.wrap_u64]; omega
      have e2 : IntKind.u64.wrap ((y : Int) * 256 + (s[j].toNat : Int)) = (y : Int) * 256 + (s[j].toNat : Int) := by rw [IntKind.wrap_u64]; omega
      clear hy hv
      go_wp2
      refine ⟨⟨j + 1, by omega, by go_num, ?_⟩, by simp [intOf]; omega⟩
      rw [Hts.out, value_snoc, ← Hy.out]
      simp
    · obtain rfl : j = s.size := by omega
      have hle : s.data.toList.length ≤ s.size := by rw [Array.length_toList]; exact Nat.le_refl _
      rw [List.take_of_length_le hle]
      clear hle
      go_wp2
      go_ret
      exact ⟨rfl, rfl⟩
end Go.Proofs.YtaendhbiehknlaaGreatDoor

namespace Go.Proofs.YtaendhbiehknlaaGreatDoor
open Go.RowKit Go.Shelf Go.Proofs

set_option maxRecDepth 100000 in
set_option maxHeartbeats 1000000 in
theorem refSum (s : ByteArray) (w : World) (hl : s.size ≤ 17592186044416) :
    Calls Tryz.prog 208 #[.string s] w fun e w' => e = .returned (.int .u32 (crcOf s.data.toList : Nat)) ∧ w = w' := by
  go_enter Tryz.func208, Tryz.ntmps208
  go_wp2
  go_loop [3, 4, 5, 6] (fun x i _ _ => ∃ j : Nat, j ≤ s.size ∧ i = .int .i64 j ∧ x = .int .u32 (crcTo (s.data.toList.take j) : Nat)) (fun _ i _ _ => s.size - (intOf i).toNat)
  case atStart => exact ⟨0, Nat.zero_le _, rfl, rfl⟩
  case round =>
    obtain ⟨j, hj, rfl, rfl⟩ := hrel
    by_cases hlt : j < s.size
    · have Hts := Lib.hid (take_snoc' s j hlt)
      have hc := s[j].toNat_lt
      obtain ⟨y, hy⟩ : ∃ y, y = crcTo (s.data.toList.take j) := ⟨_, rfl⟩
      have hylt : y < 4294967296 := by rw [hy]; exact crcTo_lt _
      have hz := u32_xor' y s[j].toNat hylt (by omega)
      obtain ⟨z, hzz⟩ : ∃ z, z = Nat.xor y s[j].toNat := ⟨_, rfl⟩
      have hzlt : z < 4294967296 := by rw [hzz]; exact xor32 hylt (by omega)
      rw [← hzz] at hz
      rw [← hy]
      have Hz := Lib.hid hzz
      have Hzl := Lib.hid hzlt
      have Hy := Lib.hid hy
      clear hy hzz hzlt
      go_wp2
      clear hz
      go_loop [3, 5, 6] (fun x i _ => ∃ m : Nat, m ≤ 8 ∧ i = .int .i64 m ∧ x = .int .u32 (crcBits m z : Nat)) (fun _ i _ => 8 - (intOf i).toNat)
      case atStart => exact ⟨0, Nat.zero_le _, rfl, rfl⟩
      case round =>
        obtain ⟨m, hm8, rfl, rfl⟩ := hrel
        by_cases h8 : m < 8
        · have hxl := crcBits_lt m _ Hzl.out
          obtain ⟨y2, hy2⟩ : ∃ y2, y2 = crcBits m z := ⟨_, rfl⟩
          have hnx : crcBits (m + 1) z = crcStep y2 := by rw [hy2]; rfl
          rw [← hy2] at hxl ⊢
          have Hnx := Lib.hid hnx
          have hand := u32_and_nat y2 1 hxl (by decide)
          rw [show y2 &&& 1 = y2 % 2 from Nat.and_two_pow_sub_one_eq_mod y2 1] at hand
          have hand : bits .and .u32 (y2 : Int) 1 = ((y2 % 2 : Nat) : Int) := hand
          obtain ⟨y3, hy3⟩ : ∃ y3, y3 = y2 / 2 := ⟨_, rfl⟩
          have hy3l : y3 < 4294967296 := by omega
          have hfd : ((y2 : Nat) : Int).fdiv (2 ^ min (Int.toNat 1) IntKind.u32.bits) = (y3 : Int) := by
            rw [show ((2 : Int) ^ min (Int.toNat 1) IntKind.u32.bits) = 2 from rfl, Int.fdiv_eq_ediv_of_nonneg _ (by decide)]
            omega
          have hdv : ((y2 : Nat) : Int) / 2 = (y3 : Int) := by omega
          have hxor := u32_xor' y3 3988292384 (by omega) (by decide)
          have hxor : bits .xor .u32 ((y3 : Nat) : Int) 3988292384 = ((Nat.xor y3 3988292384 : Nat) : Int) := hxor
          have Hx4 := Lib.hid (show Nat.xor (y2 / 2) 3988292384 = Nat.xor y3 3988292384 by rw [hy3])
          have Hy3 := Lib.hid hy3
          generalize Nat.xor y3 3988292384 = y4 at *
          clear hy2 hnx hy3
          rcases Nat.mod_two_eq_zero_or_one y2 with h0 | h0
          · rw [h0] at hand
            have Hs := Lib.hid (show crcStep y2 = y2 / 2 by rw [crcStep, if_neg (by omega)])
            clear h0
            go_wp2
            refine ⟨⟨m + 1, by omega, by go_num, ?_⟩, by simp [intOf]; omega⟩
            rw [Hnx.out, Hs.out, Hy3.out]
          · rw [h0] at hand
            have Hs := Lib.hid (show crcStep y2 = Nat.xor (y2 / 2) 3988292384 by rw [crcStep, if_pos h0])
            clear h0
            go_wp2
            refine ⟨⟨m + 1, by omega, by go_num, ?_⟩, by simp [intOf]; omega⟩
            rw [Hnx.out, Hs.out, Hx4.out]
        · obtain rfl : m = 8 := by omega
          go_wp2
          refine ⟨⟨j + 1, by omega, by go_num, ?_⟩, by simp [intOf]; omega⟩
          have e : crcTo (s.data.toList.take (j + 1)) = crcBits 8 z := by
            rw [Hts.out, crcTo_append, ← Hy.out, Hz.out]
            rfl
          rw [e]
    · obtain rfl : j = s.size := by omega
      have hle : s.data.toList.length ≤ s.size := by rw [Array.length_toList]; exact Nat.le_refl _
      rw [List.take_of_length_le hle]
      have h := u32_xor' (crcTo s.data.toList) 4294967295 (crcTo_lt _) (by decide)
      have h : bits .xor .u32 ((crcTo s.data.toList : Nat) : Int) 4294967295 = ((crcOf s.data.toList : Nat) : Int) := h
      have Hh := Lib.hid h
      obtain ⟨y2, hy2⟩ : ∃ y2, y2 = crcTo s.data.toList := ⟨_, rfl⟩
      rw [← hy2] at Hh ⊢
      clear h hy2 hle
      go_wp2
      go_ret
      exact ⟨by rw [← Hh.out]; rfl, rfl⟩
set_option maxRecDepth 100000 in
theorem refWith (l : Bytes) (w : World) (hl : l.length ≤ 1099511627776) :
    Calls Tryz.prog 132 #[.string (str l)] w fun e w' => e = .returned (.string (str (crcWith l))) ∧ Pu w w' := by
  have C1 := refSum (str l) w (by rw [str_size]; omega)
  rw [str_data] at C1
  have C1 := Lib.hid C1
  have hc := crcOf_lt l
  have hadd := fun W => run_add_str (P := Tryz.prog) W l (number (crcOf l) 4) (by rw [number_length]; omega)
  have C2 := Lib.hid (fun W => refNumber (crcOf l) 4 W (Lib.hid (by omega)) (by omega))
  unfold crcWith
  generalize crcOf l = y at *
  go_enter Tryz.func132, Tryz.ntmps132
  go_wp2_with fail
  refine C1.out.mono ?_
  rintro e w' ⟨rfl, rfl⟩
  go_wp2_with fail
  refine (C2.out _).mono ?_
  rintro e w1 ⟨rfl, hp⟩
  go_wp2
  go_ret
  exact ⟨rfl, hp⟩
end Go.Proofs.YtaendhbiehknlaaGreatDoor
