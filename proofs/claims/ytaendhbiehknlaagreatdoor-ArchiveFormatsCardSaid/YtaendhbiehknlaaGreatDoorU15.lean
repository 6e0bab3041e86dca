/- What is proved here, of the given program: The sum of octets (crc). -/
import Derived.Test.YtaendhbiehknlaaGreatDoorU05
set_option linter.unusedVariables false
set_option linter.unusedSimpArgs false
set_option linter.constructorNameAsVariable false
namespace Go.Proofs.YtaendhbiehknlaaGreatDoor
open Go.RowKit Go.Proofs

def crcStep (x : Nat) : Nat := if x % 2 = 1 then Nat.xor (x / 2) 3988292384 else x / 2
def crcBits : Nat → Nat → Nat
  | 0, x => x
  | k + 1, x => crcStep (crcBits k x)
def crcByte (x : Nat) (c : UInt8) : Nat := crcBits 8 (Nat.xor x c.toNat)
def crcTo (l : Bytes) : Nat := l.foldl crcByte 4294967295
def crcOf (l : Bytes) : Nat := Nat.xor (crcTo l) 4294967295
theorem crcStep_lt (x : Nat) (h : x < 4294967296) : crcStep x < 4294967296 := by
  unfold crcStep
  split
  · exact xor32 (by omega) (by decide)
  · omega
theorem crcBits_lt (k x : Nat) (h : x < 4294967296) : crcBits k x < 4294967296 := by
  induction k with
  | zero => exact h
  | succ k ih => exact crcStep_lt _ ih
theorem crcByte_lt (x : Nat) (c : UInt8) (h : x < 4294967296) : crcByte x c < 4294967296 := crcBits_lt 8 _ (xor32 h (Nat.lt_trans c.toNat_lt (by decide)))
theorem crcTo_lt (l : Bytes) : crcTo l < 4294967296 := by
  suffices h : ∀ (l : Bytes) (x : Nat), x < 4294967296 → l.foldl crcByte x < 4294967296 from h l _ (by decide)
  intro l
  induction l with
  | nil => intro x h; exact h
  | cons c r ih => intro x h; exact ih _ (crcByte_lt x c h)
theorem crcTo_append (a b : Bytes) : crcTo (a ++ b) = b.foldl crcByte (crcTo a) := by simp [crcTo, List.foldl_append]
theorem crcOf_lt (l : Bytes) : crcOf l < 4294967296 := xor32 (crcTo_lt l) (by decide)
theorem u32_step (x : Nat) (h : x < 4294967296) : bits .xor .u32 ((x : Int) / 2) (bits .and .u32 3988292384 ((-(bits .and .u32 (x : Int) 1)) % 4294967296)) = ((crcStep x : Nat) : Int) := by
  have h1 := u32_and_nat x 1 h (by decide)
  have e1 : x &&& 1 = x % 2 := Nat.and_two_pow_sub_one_eq_mod x 1
  rw [e1] at h1
  have h1 : bits .and .u32 (x : Int) 1 = ((x % 2 : Nat) : Int) := h1
  rw [h1, show (x : Int) / 2 = ((x / 2 : Nat) : Int) by omega]
  rcases Nat.mod_two_eq_zero_or_one x with h0 | h0
  · rw [h0, crcStep, if_neg (by omega)]
    have h2 : bits .and .u32 3988292384 ((-((0 : Nat) : Int)) % 4294967296) = ((0 : Nat) : Int) := by decide
    rw [h2, u32_xor' _ _ (by omega) (by decide)]
    congr 1
    exact Nat.xor_zero _
  · rw [h0, crcStep, if_pos h0]
    have h2 : bits .and .u32 3988292384 ((-((1 : Nat) : Int)) % 4294967296) = ((3988292384 : Nat) : Int) := by decide
    rw [h2, u32_xor' _ _ (by omega) (by decide)]
set_option maxRecDepth 100000 in
theorem crcSum (v : Value) (ls : List Bytes) (S : Nat → Prop) (w : World) (hv : Bss S w v ls) :
    Calls Tryz.prog 207 #[v] w fun e w' => e = .returned (.int .u32 (crcOf ls.flatten : Nat)) ∧ w = w' := by
  obtain ⟨A, c, rfl, hlc, hm⟩ := hv.shape
  have Hv := Lib.hid hv
  clear hv
  go_enter Tryz.func207, Tryz.ntmps207
  go_wp2
  go_loop [3, 5, 7, 10, 14, 15, 16, 24] (fun x _ _ i _ _ _ _ => ∃ j : Nat, j ≤ ls.length ∧ i = .int .i64 j ∧ x = .int .u32 (crcTo (ls.take j).flatten : Nat)) (fun _ _ _ i _ _ _ _ => ls.length - (intOf i).toNat)
  case atStart => exact ⟨0, Nat.zero_le _, rfl, rfl⟩
  case round =>
    obtain ⟨j, hj, rfl, rfl⟩ := hrel
    by_cases hlt : j < ls.length
    · obtain ⟨b, o, A1, c1, rfl, hb, _, hc, h1, h2, Hp⟩ := Hv.out.part hlt
      obtain ⟨q, hq⟩ : ∃ q, q = ls[j] := ⟨_, rfl⟩
      rw [← hq] at hc h1 Hp
      have Hq := Lib.hid hq
      clear hq
      go_wp2
      go_loop [3, 7, 16, 24] (fun x _ i _ => ∃ k : Nat, k ≤ q.length ∧ i = .int .i64 k ∧ x = .int .u32 (crcTo ((ls.take j).flatten ++ q.take k) : Nat)) (fun _ _ i _ => q.length - (intOf i).toNat)
      case atStart => exact ⟨0, Nat.zero_le _, rfl, by simp⟩
      case round =>
        obtain ⟨k, hk, rfl, rfl⟩ := hrel
        obtain ⟨y, hy⟩ : ∃ y, y = crcTo ((ls.take j).flatten ++ q.take k) := ⟨_, rfl⟩
        have hylt : y < 4294967296 := by rw [hy]; exact crcTo_lt _
        rw [← hy]
        have Hy := Lib.hid hy
        clear hy
        by_cases hk2 : k < q.length
        · obtain ⟨b', o', x, rfl, hbl, hx8, Hx, hcb⟩ := Hp.out.byte hk2
          have hz := u32_xor' y x hylt (by omega)
          obtain ⟨z, hzz⟩ : ∃ z, z = Nat.xor y x := ⟨_, rfl⟩
          have hzlt : z < 4294967296 := by rw [hzz]; exact xor32 hylt (by omega)
          rw [← hzz] at hz
          have Hz := Lib.hid hzz
          have Hzl := Lib.hid hzlt
          clear hzz hzlt
          go_wp2
          clear hz
          go_loop [3, 24] (fun x i => ∃ m : Nat, m ≤ 8 ∧ i = .int .i64 m ∧ x = .int .u32 (crcBits m z : Nat)) (fun _ i => 8 - (intOf i).toNat)
          case atStart => exact ⟨0, Nat.zero_le _, rfl, rfl⟩
          case round =>
            obtain ⟨m, hm8, rfl, rfl⟩ := hrel
            by_cases h8 : m < 8
            · have hstep := u32_step (crcBits m z) (crcBits_lt _ _ Hzl.out)
              obtain ⟨y2, hy2⟩ : ∃ y2, y2 = crcBits m z := ⟨_, rfl⟩
              have hnx : crcBits (m + 1) z = crcStep y2 := by rw [hy2]; rfl
              rw [← hy2] at hstep ⊢
              have Hy2 := Lib.hid hnx
              have Hst := Lib.hid hstep
              clear hy2 hnx hstep
              go_wp2
              refine ⟨⟨m + 1, by omega, by go_num, ?_⟩, by simp [intOf]; omega⟩
              rw [Hst.out, Hy2.out]
            · obtain rfl : m = 8 := by omega
              go_wp2
              refine ⟨⟨k + 1, by omega, by go_num, ?_⟩, by simp [intOf]; omega⟩
              have e : crcTo ((ls.take j).flatten ++ q.take (k + 1)) = crcBits 8 z := by
                rw [List.take_succ_eq_append_getElem hk2, ← List.append_assoc, crcTo_append, ← Hy.out, Hx.out, Hz.out]
                simp only [List.foldl_cons, List.foldl_nil, crcByte]
                congr 2
                simp; omega
              rw [e]
        · obtain rfl : k = q.length := by omega
          go_wp2
          refine ⟨⟨j + 1, by omega, by go_num, ?_⟩, by simp [intOf]; omega⟩
          rw [flat_take hlt, ← Hq.out, Hy.out, List.take_of_length_le (Nat.le_refl _)]
    · obtain rfl : j = ls.length := by omega
      rw [List.take_of_length_le (Nat.le_refl _)]
      have h : bits .xor .u32 (IntKind.u32.max) (crcTo ls.flatten : Nat) = ((crcOf ls.flatten : Nat) : Int) := by
        have := u32_xor' 4294967295 (crcTo ls.flatten) (by decide) (crcTo_lt _)
        rw [show Nat.xor 4294967295 (crcTo ls.flatten) = crcOf ls.flatten from Nat.xor_comm _ _] at this
        exact this
      have Hh := Lib.hid h
      obtain ⟨y2, hy2⟩ : ∃ y2, y2 = crcTo ls.flatten := ⟨_, rfl⟩
      rw [← hy2] at Hh ⊢
      clear h hy2
      go_wp2
      go_ret
      exact ⟨by rw [← Hh.out]; rfl, rfl⟩
/-- Octets and their sum. -/
def crcWith (l : Bytes) : Bytes := l ++ number (crcOf l) 4
theorem crcWith_length (l : Bytes) : (crcWith l).length = l.length + 4 := by simp [crcWith, number_length]
end Go.Proofs.YtaendhbiehknlaaGreatDoor
