/- What is proved here, of the given program: The key of a secret. -/
import Derived.Test.YtaendhbiehknlaaGreatDoorU12
import Derived.Test.YtaendhbiehknlaaGreatDoorU13
set_option linter.unusedVariables false
set_option linter.unusedSimpArgs false
set_option linter.constructorNameAsVariable false
namespace Go.Proofs.YtaendhbiehknlaaGreatDoor
open Go.RowKit Go.Shelf Go.Proofs

def keyText : Bytes := [107, 101, 121]
def keyOf (secret : Bytes) : Nat := 1 + value (expand secret (labelPen 8 keyText []).b 8) % 2305843009213693949
theorem expand_length (secret info : Bytes) (n : Nat) : (expand secret info n).length = n := by
  rw [expand, List.length_take, expandTo_length]; omega
theorem eye_whole (l : Bytes) (k : Nat) (h : l.length = k) : (Eye.num ⟨l, 0⟩ k).1 = value l := by
  have : Eye.next ⟨l, 0⟩ (k : Int) = (l.take k, ⟨l.drop k, 0⟩) := by
    unfold Eye.next
    rw [if_neg (by simp), if_neg (by omega), if_neg (by simp [h])]
    simp
  rw [Eye.num, this, List.take_of_length_le (by omega)]
set_option maxRecDepth 100000 in
theorem powerKey (v : Value) (secret : Bytes) (S : Nat → Prop) (w : World) (hG : Globs w) (hv : Bs S w v secret) (hs : secret.length ≤ 1099511627776) :
    Calls Tryz.prog 62 #[v] w fun e w' => e = .returned (.int .u64 (keyOf secret : Nat)) ∧ Pu w w' := by
  have hlab := kdfLabel v (.slice none 0 0) secret [] keyText 8 S No w hG hv (Sl.nil _ _ _) (by omega) hs (by simp) (by decide) (labelPen_ok 8 keyText [] (by omega) (by decide) (by simp))
  have Hl := Lib.hid hlab
  clear hlab hG hv
  go_enter Tryz.func62, Tryz.ntmps62
  go_wp2_with fail
  refine Hl.out.mono ?_
  rintro e w1 ⟨v1, rfl, hb, hp⟩
  obtain ⟨A1, c1, rfl, _, _⟩ := hb.shape
  have Hb := Lib.hid hb
  have Hp := Lib.hid hp
  clear hb hp
  go_wp2_with fail
  refine (eyeOpen _ _ _ w1 Hb.out (by rw [expand_length]; omega)).mono ?_
  rintro e w2 ⟨g, rfl, he, hp2⟩
  have He := Lib.hid he
  have Hp2 := Lib.hid (Hp.out.pu hp2)
  clear he hp2
  go_wp2_with fail
  refine (eyeU64 w1 g _ w2 He.out).mono ?_
  rintro e w3 ⟨rfl, hq, hf⟩
  rw [eye_whole _ 8 (expand_length _ _ _)]
  have Hq := Lib.hid (Hp2.out.trans hf (fun m hm e => by have e : m = g := e; have := He.out.1; have := Hp.out.size; omega))
  clear hq hf
  obtain ⟨x, hx⟩ : ∃ x, x = value (expand secret (labelPen ((8 : Nat) : Int) keyText []).b 8) := ⟨_, rfl⟩
  have hlt : x < 256 ^ 8 := by rw [hx]; have := value_lt (expand secret (labelPen ((8 : Nat) : Int) keyText []).b 8); rwa [expand_length] at this
  have hkey : keyOf secret = 1 + x % 2305843009213693949 := by rw [hx]; rfl
  rw [← hx]
  have hw : 1 + (x : Int) % 2305843009213693949 = ((keyOf secret : Nat) : Int) := by rw [hkey]; omega
  have Hw := Lib.hid hw
  clear hx hlt hkey hw
  go_wp2
  go_ret
  exact ⟨by rw [Hw.out]; rfl, Hq.out⟩
end Go.Proofs.YtaendhbiehknlaaGreatDoor
