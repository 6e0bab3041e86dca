/- What is proved here, of the given program: slices.Concat of octets. SHA-256: the words' turns. -/
import Derived.Test.YtaendhbiehknlaaGreatDoorU04
set_option linter.unusedVariables false
set_option linter.unusedSimpArgs false
set_option linter.constructorNameAsVariable false
namespace Go.Proofs.YtaendhbiehknlaaGreatDoor
open Go.RowKit Go.Proofs

abbrev Bss (S : Nat → Prop) (w : World) (v : Value) (ls : List Bytes) : Prop := Sl (Kd.slice Kd.u8) S w v ls
/-- Part j of a slice of slices of octets. -/
theorem Bss.part {S : Nat → Prop} {w : World} {A : Option Addr} {n c : Nat} {ls : List Bytes} (h : Bss S w (.slice A n c) ls) {j : Nat} (hj : j < ls.length) :
    ∃ b o A1 c1, A = some ⟨b, o, none⟩ ∧ b < w.heap.size ∧ S b ∧ w.cell? ⟨b, o + j, none⟩ = some (.slice A1 (ls[j]).length c1) ∧ (ls[j]).length ≤ c1 ∧ c1 ≤ 9223372036854775807 ∧ Hid (Bs S w (.slice A1 (ls[j]).length c1) ls[j]) := by
  obtain ⟨b, o, cs, e, hb, hlt, hk, hc⟩ := h.at_ (List.getElem?_eq_getElem hj)
  obtain ⟨v, rfl, hv⟩ : ∃ v, cs = [v] ∧ Bs S w v ls[j] := hk
  obtain ⟨A1, c1, rfl, h1, h2⟩ := hv.shape
  exact ⟨b, o, A1, c1, e, hlt, hb, by have := hc 0 _ rfl; simpa [Kd.slice] using this, h1, h2, hv⟩
/-- How long all parts are together (a name that the walk doesn't look into). -/
def catLen (ls : List Bytes) : Nat := ls.flatten.length
theorem flat_take {ls : List Bytes} {j : Nat} (hj : j < ls.length) : (ls.take (j + 1)).flatten = (ls.take j).flatten ++ ls[j] := by
  rw [List.take_succ_eq_append_getElem hj, List.flatten_append]; simp
theorem catLen_take {ls : List Bytes} {j : Nat} (hj : j < ls.length) : catLen (ls.take (j + 1)) = catLen (ls.take j) + (ls[j]).length := by
  rw [catLen, flat_take hj, List.length_append]; rfl
theorem catLen_le (ls : List Bytes) (j : Nat) : catLen (ls.take j) ≤ catLen ls := by
  have : ls.flatten = (ls.take j).flatten ++ (ls.drop j).flatten := by rw [← List.flatten_append, List.take_append_drop]
  rw [catLen, catLen, this, List.length_append]; omega
set_option maxRecDepth 100000 in
theorem concatBytes (v : Value) (ls : List Bytes) (S : Nat → Prop) (w : World) (hv : Bss S w v ls) (hl : ls.flatten.length ≤ 8796093022208) :
    Calls Tryz.prog 247 #[v] w fun e w' => ∃ v', e = .returned v' ∧ w'.ownsRow w.heap.size 5 1 v' ls.flatten.length (u8s ls.flatten) ∧ Pu w w' := by
  obtain ⟨A, c, rfl, hlc, hm⟩ := hv.shape
  have Hv := Lib.hid hv
  have hl : catLen ls ≤ 8796093022208 := hl
  clear hv
  go_enter Tryz.func247, Tryz.ntmps247
  go_wp2
  go_loop [3, 5, 11] (fun n _ i => ∃ j : Nat, j ≤ ls.length ∧ i = .int .i64 j ∧ n = .int .i64 (catLen (ls.take j))) (fun _ _ i => ls.length - (intOf i).toNat)
  case atStart => exact ⟨0, Nat.zero_le _, rfl, by simp [catLen]⟩
  case round =>
    obtain ⟨j, hj, rfl, rfl⟩ := hrel
    have hle := catLen_le ls j
    by_cases hlt : j < ls.length
    · obtain ⟨b, o, A1, c1, rfl, hb, _, hc, h1, h2, Hp⟩ := Hv.out.part hlt
      have hle' := catLen_le ls (j + 1)
      have hf := catLen_take hlt
      rw [hf] at hle'
      have Hf := Lib.hid hf
      clear hf
      go_wp2
      refine ⟨⟨j + 1, by omega, by go_num, ?_⟩, by simp [intOf]; omega⟩
      rw [Hf.out]; go_num
    · have h1 : ls.take j = ls := List.take_of_length_le (by omega)
      rw [h1]
      clear h1 hle
      go_wp2_with fail
      refine (growNil _ w (by omega)).mono ?_
      rintro e w1 ⟨v1, rfl, ho, hp⟩
      have Ho := Lib.hid ho
      have Hp := Lib.hid hp
      clear ho hp
      go_wp2
      go_loopw [6, 8, 27] (fun x _ i wr => ∃ j : Nat, j ≤ ls.length ∧ i = .int .i64 j ∧ wr.ownsRow w.heap.size 5 1 x (catLen (ls.take j)) (u8s (ls.take j).flatten) ∧ Pu w wr) (fun _ _ i _ => ls.length - (intOf i).toNat)
      case atStart => exact ⟨0, Nat.zero_le _, rfl, by simpa [catLen, u8s] using Ho.out, Hp.out⟩
      case round =>
        obtain ⟨j, hj, rfl, ho, hp⟩ := hrel
        have Ho := Lib.hid ho
        have Hp := Lib.hid hp
        clear ho hp
        have hle := catLen_le ls j
        by_cases hlt : j < ls.length
        · obtain ⟨b, o, A1, c1, rfl, hb, _, hc, h1, h2, Hq⟩ := Bss.part (Hv.out.pu Hp.out) hlt
          have hle' := catLen_le ls (j + 1)
          have hf := catLen_take hlt
          rw [hf] at hle'
          have Hf := Lib.hid hf
          clear hf
          go_wp2_with (at_builtin; refine wpList_append_any _ rfl (.tmp 31) (.tmp 32) 23 rfl w.heap.size 5 (.int .u8 0) 1 1 Tryz.underlying23 infoU8 rfl (by decide) _ _ _ rfl Ho.out A1 (ls[j]).length c1 (u8s ls[j]) rfl (Bs.rds Hq.out) (u8s_one _) (by omega) Hp.out.size ?_; intro v2 w2 hown hgrow hat)
          refine ⟨⟨j + 1, by omega, by go_num, ?_, ?_⟩, by simp [intOf]; omega⟩
          · rw [Hf.out, flat_take hlt, u8s_append]; exact hown
          · exact Hp.out.grown hgrow (fun k hk e => by have := (own_lt Ho.out k e).1; omega)
        · go_wp2
          go_ret
          have h1 : ls.take j = ls := List.take_of_length_le (by omega)
          have h2 := Ho.out
          rw [h1] at h2
          exact ⟨_, rfl, h2, Hp.out⟩
end Go.Proofs.YtaendhbiehknlaaGreatDoor

namespace Go.Proofs.YtaendhbiehknlaaGreatDoor
open Go.RowKit Go.Proofs

/-- A word, turned right. -/
def rotr (x a : Nat) : Nat := Nat.lor (Nat.shiftRight x a) (Nat.mod (Nat.shiftLeft x (32 - a)) 4294967296)
theorem rotr_lt (x a : Nat) (hx : x < 4294967296) : rotr x a < 4294967296 := by
  unfold rotr
  refine Nat.or_lt_two_pow (n := 32) ?_ (Nat.mod_lt _ (by decide))
  exact Nat.lt_of_le_of_lt (Nat.shiftRight_le x a) hx
theorem neg_and31 (a : Nat) (h1 : 1 ≤ a) (h2 : a ≤ 31) : (18446744073709551616 - a) &&& 31 = 32 - a := by
  rw [show (31 : Nat) = 2 ^ 5 - 1 from rfl, Nat.and_two_pow_sub_one_eq_mod]
  omega
set_option maxRecDepth 100000 in
theorem rotateLeft32 (x a : Nat) (w : World) (hx : x < 4294967296) (h1 : 1 ≤ a) (h2 : a ≤ 31) :
    Calls Tryz.prog 345 #[.int .u32 x, .int .i64 (-(a : Int))] w fun e w' => e = .returned (.int .u32 (rotr x a)) ∧ w = w' := by
  have hw : IntKind.u64.wrap (-(a : Int)) = ((18446744073709551616 - a : Nat) : Int) := by rw [IntKind.wrap_u64]; omega
  have hb : bits .and .u64 ((18446744073709551616 - a : Nat) : Int) 31 = ((32 - a : Nat) : Int) := by
    have := bits_and_u64_nat (18446744073709551616 - a) 31 (by omega) (by omega)
    rwa [neg_and31 a h1 h2] at this
  obtain ⟨m, hm⟩ : ∃ m, m = 32 - a := ⟨_, rfl⟩
  rw [← hm] at hb
  have hs : IntKind.u64.wrap (32 - (m : Int)) = (a : Int) := by rw [IntKind.wrap_u64]; omega
  have hm1 : 1 ≤ m := by omega
  have hm2 : m ≤ 31 := by omega
  have Hm := Lib.hid hm
  clear hm
  go_enter Tryz.func345, Tryz.ntmps345
  go_wp2
  go_ret
  have h3 := u32_or_nat (x * 2 ^ m % 4294967296) (x / 2 ^ a) (Nat.mod_lt _ (by decide)) (Nat.lt_of_le_of_lt (Nat.div_le_self _ _) hx)
  have h4 : ((x * 2 ^ m % 4294967296 : Nat) : Int) = (x : Int) * 2 ^ m % 4294967296 := by simp
  have h5 : ((x / 2 ^ a : Nat) : Int) = (x : Int) / 2 ^ a := by simp
  rw [h4, h5] at h3
  have h6 : x * 2 ^ m % 4294967296 ||| x / 2 ^ a = rotr x a := by
    rw [rotr, ← Hm.out, Nat.or_comm]
    show _ = (x >>> a) ||| ((x <<< m) % 4294967296)
    rw [Nat.shiftRight_eq_div_pow, Nat.shiftLeft_eq]
  rw [h6] at h3
  exact ⟨congrArg (fun z => Ending.returned (Value.int .u32 z)) h3, rfl⟩
def xor3 (x a b c : Nat) : Nat := Nat.xor (Nat.xor (rotr x a) (rotr x b)) (rotr x c)
def xor2s (x a b c : Nat) : Nat := Nat.xor (Nat.xor (rotr x a) (rotr x b)) (Nat.shiftRight x c)
theorem xor32 {a b : Nat} (ha : a < 4294967296) (hb : b < 4294967296) : Nat.xor a b < 4294967296 := Nat.xor_lt_two_pow (n := 32) ha hb
theorem u32_xor' (a b : Nat) (ha : a < 4294967296) (hb : b < 4294967296) : bits .xor .u32 (a : Int) (b : Int) = ((Nat.xor a b : Nat) : Int) := u32_xor_nat a b ha hb
theorem xor3_lt (x a b c : Nat) (hx : x < 4294967296) : xor3 x a b c < 4294967296 := xor32 (xor32 (rotr_lt _ _ hx) (rotr_lt _ _ hx)) (rotr_lt _ _ hx)
theorem shr32 {x : Nat} (c : Nat) (hx : x < 4294967296) : Nat.shiftRight x c < 4294967296 := Nat.lt_of_le_of_lt (Nat.shiftRight_le x c) hx
theorem xor2s_lt (x a b c : Nat) (hx : x < 4294967296) : xor2s x a b c < 4294967296 := xor32 (xor32 (rotr_lt _ _ hx) (rotr_lt _ _ hx)) (shr32 c hx)
theorem shaTurned (x a b c : Nat) (w : World) (hx : x < 4294967296) (ha : 1 ≤ a ∧ a ≤ 31) (hb : 1 ≤ b ∧ b ≤ 31) (hc : 1 ≤ c ∧ c ≤ 31) :
    Calls Tryz.prog 316 #[.int .u32 x, .int .i64 a, .int .i64 b, .int .i64 c] w fun e w' => e = .returned (.int .u32 (xor3 x a b c)) ∧ w = w' := by
  have r1 := rotr_lt x a hx
  have r2 := rotr_lt x b hx
  have r3 := rotr_lt x c hx
  go_enter Tryz.func316, Tryz.ntmps316
  go_wp2_with fail
  refine (rotateLeft32 x a w hx ha.1 ha.2).mono ?_
  rintro e w' ⟨rfl, rfl⟩
  go_wp2_with fail
  refine (rotateLeft32 x b w hx hb.1 hb.2).mono ?_
  rintro e w' ⟨rfl, rfl⟩
  go_wp2_with fail
  refine (rotateLeft32 x c w hx hc.1 hc.2).mono ?_
  rintro e w' ⟨rfl, rfl⟩
  go_wp2
  go_ret
  have h1 := u32_xor' _ _ r1 r2
  have h2 := u32_xor' _ _ (xor32 r1 r2) r3
  rw [← h1] at h2
  exact ⟨congrArg (fun z => Ending.returned (Value.int .u32 z)) h2, rfl⟩
set_option maxRecDepth 100000 in
theorem shaShifted (x a b c : Nat) (w : World) (hx : x < 4294967296) (ha : 1 ≤ a ∧ a ≤ 31) (hb : 1 ≤ b ∧ b ≤ 31) (hc : 1 ≤ c ∧ c ≤ 31) :
    Calls Tryz.prog 344 #[.int .u32 x, .int .i64 a, .int .i64 b, .int .i64 c] w fun e w' => e = .returned (.int .u32 (xor2s x a b c)) ∧ ∃ n, w' = w.drewN n := by
  have r1 := rotr_lt x a hx
  have r2 := rotr_lt x b hx
  have r3 := shr32 c hx
  go_enter Tryz.func344, Tryz.ntmps344
  go_wp2_with fail
  go_quiet ((exact Calls.quiet_of_same (qs (rotateLeft32 x _ _ hx (by omega) (by omega)))))
  go_wp2
  go_ret
  have h1 := u32_xor' _ _ r1 r2
  have h2 := u32_xor' _ _ (xor32 r1 r2) r3
  have h3 : ((Nat.shiftRight x c : Nat) : Int) = (x : Int) / 2 ^ c := by
    show ((x >>> c : Nat) : Int) = _
    rw [Nat.shiftRight_eq_div_pow]; simp
  rw [← h1, h3] at h2
  exact ⟨congrArg (fun z => Ending.returned (Value.int .u32 z)) h2, _, rfl⟩
end Go.Proofs.YtaendhbiehknlaaGreatDoor
