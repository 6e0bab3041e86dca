/- What is proved here, of the given program: Powers modulo a prime: fold, Mul, Pow, Public, Right. -/
import Derived.Test.YtaendhbiehknlaaGreatDoorProg
import Derived.Test.YtaendhbiehknlaaGreatDoorU01
import Derived.Lib.Mul64
import Derived.Laws.Bits64b
set_option linter.unusedVariables false
set_option linter.unusedSimpArgs false
set_option linter.constructorNameAsVariable false
namespace Go.Proofs.YtaendhbiehknlaaGreatDoor
open Go.RowKit Go.Proofs

def fold61 (n : Nat) : Nat := if 2305843009213693951 ≤ n % 2305843009213693952 + n / 2305843009213693952 then n % 2305843009213693952 + n / 2305843009213693952 - 2305843009213693951 else n % 2305843009213693952 + n / 2305843009213693952
def mul61 (a b : Nat) : Nat := fold61 (fold61 a * fold61 b % 2305843009213693952 + fold61 a * fold61 b / 2305843009213693952)
def powF : Nat → Nat → Nat → Nat → Nat
  | 0, out, _, _ => out
  | k + 1, out, a, n => if n = 0 then out else powF k (if n % 2 = 1 then mul61 out a else out) (mul61 a a) (n / 2)
def pow61 (a n : Nat) : Nat := powF 64 1 a n
theorem fold61_lt (n : Nat) (h : n < 18446744073709551616) : fold61 n < 2305843009213693952 := by unfold fold61; split <;> omega
theorem mul61_lt (a b : Nat) (ha : a < 18446744073709551616) (hb : b < 18446744073709551616) : mul61 a b < 2305843009213693952 := by
  have h1 := fold61_lt a ha
  have h2 := fold61_lt b hb
  have h3 : fold61 a * fold61 b < 2305843009213693952 * 2305843009213693952 := Nat.mul_lt_mul'' h1 h2
  unfold mul61
  refine fold61_lt _ ?_
  have h4 : fold61 a * fold61 b / 2305843009213693952 < 2305843009213693952 := by
    rw [Nat.div_lt_iff_lt_mul (by decide)]; exact h3
  omega
theorem and61 (n : Nat) (h : n < 18446744073709551616) : bits .and .u64 (n : Int) 2305843009213693951 = ((n % 2305843009213693952 : Nat) : Int) := by
  have h2 := bits_and_u64_nat n 2305843009213693951 h (by omega)
  have e : n &&& 2305843009213693951 = n % 2305843009213693952 := Nat.and_two_pow_sub_one_eq_mod n 61
  rw [e] at h2
  exact h2
theorem fold_end (n x P : Nat) (hP : P = 2305843009213693951) (hx : x = n % 2305843009213693952 + n / 2305843009213693952) : fold61 n = if P ≤ x then x - P else x := by
  subst hP hx; rfl
theorem fold_wrap (n : Nat) (h : n < 18446744073709551616) : IntKind.u64.wrap (bits .and .u64 (n : Int) 2305843009213693951 + (n : Int) / 2305843009213693952) = ((n % 2305843009213693952 + n / 2305843009213693952 : Nat) : Int) := by
  rw [and61 n h, IntKind.wrap_u64]; omega
set_option maxRecDepth 100000 in
theorem powerFold (n : Nat) (w : World) (h : n < 18446744073709551616) : Calls Tryz.prog 232 #[.int .u64 (n : Nat)] w fun e w' => e = .returned (.int .u64 (fold61 n : Nat)) ∧ w = w' := by
  have hw := fold_wrap n h
  obtain ⟨x, hx⟩ : ∃ x, x = n % 2305843009213693952 + n / 2305843009213693952 := ⟨_, rfl⟩
  obtain ⟨P, hP⟩ : ∃ P : Nat, P = 2305843009213693951 := ⟨_, rfl⟩
  have hPI : (2305843009213693951 : Int) = (P : Int) := by rw [hP]; rfl
  have hf := fold_end n x P hP hx
  have hb : IntKind.u64.wrap ((x : Int) - (P : Int)) = if P ≤ x then ((x - P : Nat) : Int) else IntKind.u64.wrap ((x : Int) - (P : Int)) := by
    split
    · rw [IntKind.wrap_u64]; omega
    · rfl
  rw [← hx] at hw
  have H := Lib.hid hw
  have HP := Lib.hid hPI
  have Hf := Lib.hid hf
  have Hb := Lib.hid hb
  clear h hw hPI hf hx hP hb
  go_enter Tryz.func232, Tryz.ntmps232
  iterate 41 go_step
  rw [H.out, HP.out]
  by_cases hc : P ≤ x
  · go_wp2
    go_ret
    rw [Hf.out, if_pos hc]
    have h2 := Hb.out
    rw [if_pos hc] at h2
    rw [HP.out, h2]
    exact ⟨rfl, rfl⟩
  · go_wp2
    go_ret
    rw [Hf.out, if_neg hc]
    exact ⟨rfl, rfl⟩
namespace Mul64
theorem maskN (a : Nat) (ha : a < 18446744073709551616) : bits .and .u64 (a : Int) 4294967295 = ((a % 4294967296 : Nat) : Int) := by
  have h := bits_and_u64_nat a 4294967295 ha (by omega)
  have e : a &&& 4294967295 = a % 4294967296 := Nat.and_two_pow_sub_one_eq_mod a 32
  rw [e] at h
  exact h
theorem divN (a : Nat) : (a : Int) / 4294967296 = ((a / 4294967296 : Nat) : Int) := by omega
theorem mulN (a b : Nat) : (a : Int) * (b : Int) = ((a * b : Nat) : Int) := (Int.natCast_mul a b).symm
theorem addN (a b : Nat) : (a : Int) + (b : Int) = ((a + b : Nat) : Int) := (Int.natCast_add a b).symm
theorem wrapN (a : Nat) (ha : a < 18446744073709551616) : IntKind.u64.wrap (a : Int) = (a : Int) := by rw [IntKind.wrap_u64]; omega
theorem wrapM (a : Nat) : IntKind.u64.wrap (a : Int) = ((a % 18446744073709551616 : Nat) : Int) := by rw [IntKind.wrap_u64]; omega
end Mul64
set_option maxRecDepth 100000 in
set_option maxHeartbeats 1000000 in
theorem bitsMul64 (x y : Nat) (hx : x < 18446744073709551616) (hy : y < 18446744073709551616) (w : World) :
    Calls Tryz.prog 231 #[.int .u64 x, .int .u64 y] w fun e w' => e = .returned (.tuple #[.int .u64 ((x * y / 18446744073709551616 : Nat) : Int), .int .u64 ((x * y % 18446744073709551616 : Nat) : Int)]) ∧ w = w' := by
  obtain ⟨bd, bt, bw, hhi⟩ := Lib.mul64_hi x y hx hy
  have ba := Lib.half_mul_le (a := x / 4294967296) (b := y / 4294967296) (by omega) (by omega)
  have bb := Lib.half_mul_le (a := x / 4294967296) (b := y % 4294967296) (by omega) (by omega)
  have bc := Lib.half_mul_le (a := x % 4294967296) (b := y / 4294967296) (by omega) (by omega)
  have ba' : x / 4294967296 * (y / 4294967296) < 18446744073709551616 := by omega
  have bb' : x / 4294967296 * (y % 4294967296) < 18446744073709551616 := by omega
  have bc' : x % 4294967296 * (y / 4294967296) < 18446744073709551616 := by omega
  have bh1 : x / 4294967296 * (y / 4294967296) + (x / 4294967296 * (y % 4294967296) + x % 4294967296 * (y % 4294967296) / 4294967296) / 4294967296 < 18446744073709551616 := by omega
  have bh : x / 4294967296 * (y / 4294967296) + (x / 4294967296 * (y % 4294967296) + x % 4294967296 * (y % 4294967296) / 4294967296) / 4294967296 + ((x / 4294967296 * (y % 4294967296) + x % 4294967296 * (y % 4294967296) / 4294967296) % 4294967296 + x % 4294967296 * (y / 4294967296)) / 4294967296 < 18446744073709551616 := by omega
  go_enter Tryz.func231, Tryz.ntmps231
  go_wp2
  simp only [Mul64.maskN x hx, Mul64.maskN y hy, Mul64.divN, Mul64.mulN, Mul64.addN, Mul64.wrapN _ bd, Mul64.wrapN _ bb', Mul64.wrapN _ bt, Mul64.maskN _ bt, Mul64.wrapN _ bc', Mul64.wrapN _ bw, Mul64.wrapN _ ba', Mul64.wrapN _ bh1, Mul64.wrapN _ bh, Mul64.wrapM (x * y)]
  rw [hhi]
  go_ret2
  exact ⟨rfl, rfl⟩
theorem mul_wrap (p q : Nat) (hp : p < 2305843009213693952) (hq : q < 2305843009213693952) :
    IntKind.u64.wrap (bits .and .u64 ((p : Int) * (q : Int) % 18446744073709551616) 2305843009213693951 + bits .or .u64 (IntKind.u64.wrap ((p : Int) * (q : Int) / 18446744073709551616 * 8)) ((p : Int) * (q : Int) % 18446744073709551616 / 2305843009213693952)) = ((p * q % 2305843009213693952 + p * q / 2305843009213693952 : Nat) : Int) := by
  have hx : p * q < 2305843009213693952 * 2305843009213693952 := Nat.mul_lt_mul'' hp hq
  rw [← Int.natCast_mul]
  generalize p * q = x at *
  have e1 : ((x : Nat) : Int) % 18446744073709551616 = ((x % 18446744073709551616 : Nat) : Int) := by omega
  have e2 : IntKind.u64.wrap (((x : Nat) : Int) / 18446744073709551616 * 8) = ((x / 18446744073709551616 * 8 : Nat) : Int) := by rw [IntKind.wrap_u64]; omega
  have e3 : ((x : Nat) : Int) % 18446744073709551616 / 2305843009213693952 = ((x % 18446744073709551616 / 2305843009213693952 : Nat) : Int) := by omega
  rw [e3, e1, e2, and61 _ (by omega), bits_or_u64_nat _ _ (by omega) (by omega)]
  have h8 : x % 18446744073709551616 / 2305843009213693952 < 2 ^ 3 := by omega
  have e4 : x / 18446744073709551616 * 8 ||| x % 18446744073709551616 / 2305843009213693952 = x / 18446744073709551616 * 8 + x % 18446744073709551616 / 2305843009213693952 := by
    rw [show x / 18446744073709551616 * 8 = (x / 18446744073709551616) <<< 3 from by rw [Nat.shiftLeft_eq], ← Nat.shiftLeft_add_eq_or_of_lt h8]
  rw [e4, IntKind.wrap_u64]
  omega
set_option maxRecDepth 100000 in
theorem powerMul (a b : Nat) (w : World) (ha : a < 18446744073709551616) (hb : b < 18446744073709551616) :
    Calls Tryz.prog 167 #[.int .u64 (a : Nat), .int .u64 (b : Nat)] w fun e w' => e = .returned (.int .u64 (mul61 a b : Nat)) ∧ w = w' := by
  have ca := powerFold a w ha
  have cb := powerFold b w hb
  have Ha := Lib.hid (fold61_lt a ha)
  have Hb := Lib.hid (fold61_lt b hb)
  have Ca := Lib.hid ca
  have Cb := Lib.hid cb
  have hm : mul61 a b = fold61 (fold61 a * fold61 b % 2305843009213693952 + fold61 a * fold61 b / 2305843009213693952) := rfl
  have h3 : fold61 a * fold61 b < 2305843009213693952 * 2305843009213693952 := Nat.mul_lt_mul'' Ha.out Hb.out
  have h4 : fold61 a * fold61 b / 2305843009213693952 < 2305843009213693952 := by
    rw [Nat.div_lt_iff_lt_mul (by decide)]; exact h3
  have hs : fold61 a * fold61 b % 2305843009213693952 + fold61 a * fold61 b / 2305843009213693952 < 18446744073709551616 := by omega
  have Hm := Lib.hid hm
  have Hs := Lib.hid hs
  clear ha hb ca cb hm h3 h4 hs
  go_enter Tryz.func167, Tryz.ntmps167
  go_wp2_with fail
  refine Ca.out.mono ?_
  rintro e w' ⟨rfl, rfl⟩
  go_wp2_with fail
  refine Cb.out.mono ?_
  rintro e w' ⟨rfl, rfl⟩
  go_wp2_with fail
  refine (bitsMul64 _ _ (Nat.lt_of_lt_of_le Ha.out (by decide)) (Nat.lt_of_lt_of_le Hb.out (by decide)) w).mono ?_
  rintro e w' ⟨rfl, rfl⟩
  go_wp2_with fail
  rw [mul_wrap _ _ Ha.out Hb.out]
  refine (powerFold _ w Hs.out).mono ?_
  rintro e w' ⟨rfl, rfl⟩
  rw [← Hm.out]
  go_wp2
  go_ret
  exact ⟨rfl, rfl⟩
theorem pow_step (k x y z a n m : Nat) (hm : m = if y % 2 = 1 then mul61 z x else z) (hy : 0 < y) (h : x < 18446744073709551616 ∧ z < 18446744073709551616 ∧ y < 2 ^ k ∧ k ≤ 64 ∧ powF k z x y = pow61 a n) :
    ∃ k', mul61 x x < 18446744073709551616 ∧ m < 18446744073709551616 ∧ y / 2 < 2 ^ k' ∧ k' ≤ 64 ∧ powF k' m (mul61 x x) (y / 2) = pow61 a n := by
  obtain ⟨h1, h2, h3, h4, h5⟩ := h
  cases k with
  | zero => simp at h3; omega
  | succ k =>
    have hx := mul61_lt x x h1 h1
    have hz := mul61_lt z x h2 h1
    refine ⟨k, Nat.lt_of_lt_of_le hx (by decide), ?_, ?_, by omega, ?_⟩
    · rw [hm]; split
      · exact Nat.lt_of_lt_of_le hz (by decide)
      · exact h2
    · rw [Nat.pow_succ] at h3; omega
    · rw [← h5, powF, if_neg (by omega), hm]
theorem powF_zero (k out a : Nat) : powF k out a 0 = out := by cases k <;> simp [powF]
theorem and1 (n : Nat) (h : n < 18446744073709551616) : bits .and .u64 (n : Int) 1 = ((n % 2 : Nat) : Int) := by
  have h2 := bits_and_u64_nat n 1 h (by omega)
  have e : n &&& 1 = n % 2 := Nat.and_two_pow_sub_one_eq_mod n 1
  rw [e] at h2
  exact h2
set_option maxRecDepth 100000 in
theorem powerPow (a n : Nat) (w : World) (ha : a < 18446744073709551616) (hn : n < 18446744073709551616) :
    Calls Tryz.prog 109 #[.int .u64 (a : Nat), .int .u64 (n : Nat)] w fun e w' => e = .returned (.int .u64 (pow61 a n : Nat)) ∧ w = w' := by
  have Ha := Lib.hid ha
  have Hn := Lib.hid hn
  clear ha hn
  go_enter Tryz.func109, Tryz.ntmps109
  go_wp2
  go_loop [0, 1, 5] (fun x y z => ∃ k x' y' z' : Nat, x = .int .u64 x' ∧ y = .int .u64 y' ∧ z = .int .u64 z' ∧ Hid (x' < 18446744073709551616 ∧ z' < 18446744073709551616 ∧ y' < 2 ^ k ∧ k ≤ 64 ∧ powF k z' x' y' = pow61 a n)) (fun _ y _ => (intOf y).toNat)
  case atStart => exact ⟨64, a, n, 1, rfl, rfl, rfl, by exact ⟨Ha.out, by decide, Hn.out, by decide, rfl⟩⟩
  case round =>
    obtain ⟨k, x, y, z, rfl, rfl, rfl, H⟩ := hrel
    by_cases hy : 0 < y
    · have hyI : (0 : Int) < (y : Int) := by omega
      have hand := and1 y (Nat.lt_of_lt_of_le H.out.2.2.1 (Nat.pow_le_pow_right (by decide) H.out.2.2.2.1))
      rcases Nat.mod_two_eq_zero_or_one y with h0 | h1
      · rw [h0] at hand
        have H0 := Lib.hid h0
        clear h0
        go_wp2_with fail
        refine (powerMul x x w H.out.1 H.out.1).mono ?_
        rintro e w' ⟨rfl, rfl⟩
        go_wp2
        obtain ⟨k', hk⟩ := pow_step k x y z a n z (by rw [H0.out]; rfl) hy H.out
        exact ⟨⟨k', _, y / 2, _, rfl, by congr 1, rfl, hk⟩, by simp [intOf]; omega⟩
      · rw [h1] at hand
        have H0 := Lib.hid h1
        clear h1
        go_wp2_with fail
        refine (powerMul z x w H.out.2.1 H.out.1).mono ?_
        rintro e w' ⟨rfl, rfl⟩
        go_wp2_with fail
        refine (powerMul x x w H.out.1 H.out.1).mono ?_
        rintro e w' ⟨rfl, rfl⟩
        go_wp2
        obtain ⟨k', hk⟩ := pow_step k x y z a n (mul61 z x) (by rw [H0.out]; rfl) hy H.out
        exact ⟨⟨k', _, y / 2, _, rfl, by congr 1, rfl, hk⟩, by simp [intOf]; omega⟩
    · obtain rfl : y = 0 := by omega
      go_wp2
      go_ret
      have h := H.out.2.2.2.2
      rw [powF_zero] at h
      exact ⟨by rw [← h]; rfl, rfl⟩
theorem pow61_lt (a n : Nat) (ha : a < 18446744073709551616) : pow61 a n < 18446744073709551616 := by
  suffices h : ∀ k z x y, x < 18446744073709551616 → z < 18446744073709551616 → powF k z x y < 18446744073709551616 from h 64 1 a n ha (by decide)
  intro k
  induction k with
  | zero => intro z x y _ hz; exact hz
  | succ k ih =>
    intro z x y hx hz
    unfold powF
    split
    · exact hz
    · refine ih _ _ _ (Nat.lt_of_lt_of_le (mul61_lt x x hx hx) (by decide)) ?_
      split
      · exact Nat.lt_of_lt_of_le (mul61_lt z x hz hx) (by decide)
      · exact hz
theorem powerPublic (n : Nat) (w : World) (hn : n < 18446744073709551616) :
    Calls Tryz.prog 64 #[.int .u64 (n : Nat)] w fun e w' => e = .returned (.int .u64 (pow61 3 n : Nat)) ∧ w = w' := by
  have C := Lib.hid (powerPow 3 n w (by decide) hn)
  clear hn
  go_enter Tryz.func64, Tryz.ntmps64
  go_wp2_with fail
  refine C.out.mono ?_
  rintro e w' ⟨rfl, rfl⟩
  go_wp2
  go_ret
  exact ⟨rfl, rfl⟩
def rightPublic (n : Nat) : Bool := decide (2 ≤ n) && decide (n ≤ 2305843009213693949)
set_option maxRecDepth 100000 in
theorem powerRight (n : Nat) (w : World) :
    Calls Tryz.prog 65 #[.int .u64 (n : Nat)] w fun e w' => e = .returned (.bool (rightPublic n)) ∧ w = w' := by
  go_enter Tryz.func65, Tryz.ntmps65
  by_cases h : 2 ≤ n
  · have h1 : (2 : Int) ≤ (n : Int) := by omega
    have hr : (decide ((n : Int) ≤ 2305843009213693949)) = rightPublic n := by
      unfold rightPublic
      rw [show decide (2 ≤ n) = true by simpa using h, Bool.true_and]
      simp only [decide_eq_decide]; omega
    have Hr := Lib.hid hr
    clear hr
    go_wp2
    go_ret
    exact ⟨by rw [← Hr.out]; rfl, rfl⟩
  · have h1 : ¬ (2 : Int) ≤ (n : Int) := by omega
    have hr : rightPublic n = false := by unfold rightPublic; simp [h]
    have Hr := Lib.hid hr
    clear hr
    go_wp2
    go_ret
    exact ⟨by rw [Hr.out]; rfl, rfl⟩
end Go.Proofs.YtaendhbiehknlaaGreatDoor
