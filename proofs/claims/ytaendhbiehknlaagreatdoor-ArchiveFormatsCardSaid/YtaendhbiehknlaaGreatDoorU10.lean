/- What is proved here, of the given program: HMAC: a key, each octet turned. HMAC: the tag. -/
import Derived.Test.YtaendhbiehknlaaGreatDoorU09
set_option linter.unusedVariables false
set_option linter.unusedSimpArgs false
set_option linter.constructorNameAsVariable false
namespace Go.Proofs.YtaendhbiehknlaaGreatDoor
open Go.RowKit Go.Proofs

def xorAll (l : Bytes) (c : UInt8) : Bytes := l.map (· ^^^ c)
theorem u8_xor (a b : UInt8) : bits .xor .u8 (a.toNat : Int) (b.toNat : Int) = ((a ^^^ b).toNat : Int) := by
  have := u8_xor_nat a.toNat b.toNat a.toNat_lt b.toNat_lt
  rw [this]; simp
theorem own_base {w : World} {base base' e size n : Nat} {v : Value} {xs : List Value} (h : w.ownsRow base e size v n xs) (hb : base' ≤ base) : w.ownsRow base' e size v n xs := by
  obtain ⟨h1, h2⟩ := h
  refine ⟨h1, ?_⟩
  rcases h2 with h2 | ⟨g, cap, cur, rfl, hg, r⟩
  · exact .inl h2
  · exact .inr ⟨g, cap, cur, rfl, by omega, r⟩
set_option maxRecDepth 100000 in
theorem macTurned (kb : Bytes) (c : UInt8) (cn : Nat) (w : World) (hl : kb.length = 64) (hcn : c.toNat = cn) :
    Calls Tryz.prog 246 #[.agg (u8s kb).toArray, .int .u8 (cn : Nat)] w fun e w' => ∃ v', e = .returned v' ∧ w'.ownsRow (w.heap.size + 1) 5 1 v' 64 (u8s (xorAll kb c)) ∧ Pu w w' := by
  have Hl := Lib.hid hl
  have Hcn := Lib.hid hcn
  clear hl hcn
  go_enter Tryz.func246, Tryz.ntmps246
  go_wp2
  go_loopw [6] (fun i wr => ∃ j : Nat, j ≤ 64 ∧ i = .int .i64 j ∧ Arr wr w.heap.size 397 (u8s ((xorAll kb c).take j ++ kb.drop j)) ∧ Pu w wr) (fun i _ => 64 - (intOf i).toNat)
  case atStart => exact ⟨0, by omega, rfl, heap_alloc_new _ _, (Fr.refl _ _).alloc _⟩
  case round =>
    obtain ⟨j, hj, rfl, ha, hp⟩ := hrel
    have Ha := Lib.hid ha
    have Hp := Lib.hid hp
    clear ha hp
    have hxl : (xorAll kb c).length = 64 := by rw [xorAll, List.length_map]; exact Hl.out
    by_cases h64 : j < 64
    · obtain ⟨x, hx⟩ : ∃ x, kb[j]? = some x := ⟨_, List.getElem?_eq_getElem (by rw [Hl.out]; exact h64)⟩
      have hc := Ha.out.cell (j := j) (v := u8v x) (by
        rw [u8s, List.getElem?_map, List.getElem?_append_right (by rw [List.length_take]; omega), List.length_take, hxl, Nat.min_eq_left (by omega), Nat.sub_self, List.getElem?_drop]
        simp [hx])
      have hf := Ha.out.frozen j
      obtain ⟨xn, hxn⟩ : ∃ n, n = x.toNat := ⟨_, rfl⟩
      obtain ⟨rn, hrn⟩ : ∃ n, n = (x ^^^ c).toNat := ⟨_, rfl⟩
      have hxor := u8_xor x c
      rw [Hcn.out, ← hxn, ← hrn] at hxor
      have Hx := Lib.hid hx
      have Hxl := Lib.hid hxl
      clear hx hxl
      rw [u8v, ← hxn] at hc
      have Hrn := Lib.hid hrn
      clear hxn hrn
      go_wp2
      refine ⟨⟨j + 1, by omega, by go_num, ?_, Hp.out.set _ _ (fun h => absurd h (by show ¬ w.heap.size < w.heap.size; omega))⟩, by simp [intOf]; omega⟩
      have h1 := Ha.out.set j (u8v (x ^^^ c))
      have h2 : (u8s ((xorAll kb c).take j ++ kb.drop j)).set j (u8v (x ^^^ c)) = u8s ((xorAll kb c).take (j + 1) ++ kb.drop (j + 1)) := by
        have hlt : j < kb.length := by rw [Hl.out]; exact h64
        have hkx : kb[j] = x := by have := Hx.out; rw [List.getElem?_eq_getElem hlt] at this; injection this
        have h3 : (xorAll kb c)[j]? = some (x ^^^ c) := by rw [xorAll, List.getElem?_map, Hx.out]; rfl
        rw [List.take_add_one, h3, List.drop_eq_getElem_cons hlt, u8s, u8s, List.map_append, List.set_append_right _ _ (by rw [List.length_map, List.length_take]; omega)]
        rw [List.length_map, List.length_take, Hxl.out, Nat.min_eq_left (by omega), Nat.sub_self]
        simp only [List.map_cons, List.set_cons_zero, Option.toList_some, List.map_append, List.map_nil, List.append_assoc, List.cons_append, List.nil_append]
      rw [h2, u8v, ← Hrn.out] at h1
      exact h1
    · obtain rfl : j = 64 := by omega
      have hfin : (xorAll kb c).take 64 ++ kb.drop 64 = xorAll kb c := by
        rw [List.take_of_length_le (by omega), List.drop_of_length_le (by rw [Hl.out]; omega), List.append_nil]
      rw [hfin] at Ha
      clear hfin
      go_wp2_with fail
      refine (cloneBytes _ (xorAll kb c) (fun m => m = w.heap.size) wr ⟨_, 64, by rw [hxl], by omega, by decide, fun _ => ⟨w.heap.size, 0, rfl, rfl, Ha.out.lt, fun j x hj => ⟨[u8v x], rfl, fun i u hu => ?_⟩⟩⟩ (by omega)).mono ?_
      · have hi : i = 0 := by
          have := (List.getElem?_eq_some_iff.1 hu).1
          simp at this
          omega
        subst hi
        obtain rfl : u8v x = u := by simpa using hu
        have := Ha.out.cell (j := j) (v := u8v x) (by simp [u8s, hj])
        simpa [Kd.u8, Kd.scalar] using this
      rintro e w1 ⟨v1, rfl, ho, hp⟩
      go_wp2
      go_ret
      have hsz := Ha.out.lt
      rw [hxl] at ho
      exact ⟨_, rfl, own_base ho (by omega), Hp.out.pu hp⟩
end Go.Proofs.YtaendhbiehknlaaGreatDoor

namespace Go.Proofs.YtaendhbiehknlaaGreatDoor
open Go.RowKit Go.Proofs

def macKey (key : Bytes) : Bytes := if 64 < key.length then sha key else key
def macBlock (key : Bytes) : Bytes := macKey key ++ List.replicate (64 - (macKey key).length) 0
def macTag (key msg : Bytes) : Bytes := sha (xorAll (macBlock key) 92 ++ sha (xorAll (macBlock key) 54 ++ msg))
theorem sha_length (l : Bytes) : (sha l).length = 32 := by simp [sha, W8.octets, W8.list, number_length]
theorem macKey_length (key : Bytes) : (macKey key).length ≤ 64 := by
  unfold macKey
  split
  · rw [sha_length]; omega
  · omega
theorem macBlock_length (key : Bytes) : (macBlock key).length = 64 := by
  have := macKey_length key
  rw [macBlock, List.length_append, List.length_replicate]; omega
/-- A literal of slices of octets, just made. -/
theorem bss_new {S : Nat → Prop} {w : World} {t : TypeId} {vs : List Value} {ls : List Bytes} (hl : vs.length = ls.length) (hm : ls.length ≤ 1000) (h : ∀ (j : Nat) (v : Value) (l : Bytes), vs[j]? = some v → ls[j]? = some l → Bs S w v l) :
    Bss (fun k => S k ∨ k = w.heap.size) (w.alloc (.cells vs.toArray t)) (.slice (some ⟨w.heap.size, 0, none⟩) ls.length ls.length) ls := by
  refine ⟨_, _, rfl, Nat.le_refl _, by simp only [maxLen]; omega, fun _ => ⟨w.heap.size, 0, rfl, .inr rfl, by simp, fun j l hj => ?_⟩⟩
  obtain ⟨v, hv⟩ : ∃ v, vs[j]? = some v := ⟨_, List.getElem?_eq_getElem (by rw [hl]; exact (List.getElem?_eq_some_iff.1 hj).1)⟩
  have hb := h j v l hv hj
  refine ⟨[v], ⟨v, rfl, ?_⟩, fun i u hu => ?_⟩
  · exact (hb.move (fun k _ hlt => heap_alloc_old _ _ _ hlt)).mono (fun k _ hk => .inl hk)
  · have hi : i = 0 := by
      have := (List.getElem?_eq_some_iff.1 hu).1
      simp at this
      omega
    subst hi
    obtain rfl : v = u := by simpa using hu
    show (w.alloc (.cells vs.toArray t)).cell? ⟨w.heap.size, 0 + j * 1 + 0, none⟩ = some v
    rw [cell_of_row _ _ _ _ _ _ (heap_alloc_new _ _)]
    simpa using hv
theorem infoU8s : (Tryz.prog.info? 5).map (·.size) = some 1 := by kernel_rfl
theorem Arr.setPart {g : Nat} {t : TypeId} : ∀ (vs : List Value) (o : Nat) (w : World) (ys : List Value), Arr w g t ys → o + vs.length ≤ ys.length → Arr (w.setCells g o vs) g t (ys.take o ++ vs ++ ys.drop (o + vs.length)) := by
  intro vs
  induction vs with
  | nil => intro o w ys h hl; simpa [World.setCells] using h
  | cons v r ih =>
    intro o w ys h hl
    simp only [List.length_cons] at hl
    have := ih (o + 1) _ _ (h.set o v) (by simp; omega)
    simp only [World.setCells]
    have he : (ys.set o v).take (o + 1) = ys.take o ++ [v] := by
      rw [List.take_succ_eq_append_getElem (by simp; omega), List.getElem_set_self, List.take_set_of_le (Nat.le_refl _)]
    have hd : (ys.set o v).drop (o + 1 + r.length) = ys.drop (o + (v :: r).length) := by
      rw [List.drop_set_of_lt (by omega), List.length_cons, show o + 1 + r.length = o + (r.length + 1) by omega]
    rw [he, hd] at this
    simpa using this
/-- The key's octets go into a block of 64. -/
theorem copyKey (w : World) (g : Nat) (A : Option Addr) (c : Nat) (S : Nat → Prop) (key : Bytes) (ty : TypeId) (hk : key.length ≤ 64) (hv : Bs S w (.slice A key.length c) key) (hg : Arr w g 397 (u8s (List.replicate 64 0))) :
    ∃ w', (Builtin.copy_ #[23, 23] ty #[.slice (some ⟨g, 0, none⟩) 64 64, .slice A key.length c]).run Tryz.prog w = .ok (.int .i64 (key.length : Nat)) w' ∧ Arr w' g 397 (u8s (key ++ List.replicate (64 - key.length) 0)) ∧ Fr (fun m => m = g) w w' := by
  by_cases hn : key.length = 0
  · have hk0 : key = [] := List.eq_nil_of_length_eq_zero hn
    subst hk0
    exact ⟨w, run_copy_none w _ _ _ _ _ _ _ _ _ _ Tryz.underlying23 infoU8s (by simp), by simpa using hg, Fr.refl _ _⟩
  · obtain ⟨b, o, rfl, _, _, hc⟩ := Bs.cells hv (by rintro rfl; simp at hn)
    have h64 : (u8s (List.replicate 64 (0 : UInt8))).length = 64 := by simp [u8s]
    refine ⟨_, (run_copy_cells w _ _ ty _ g 0 64 64 ⟨b, o, none⟩ key.length c (u8s key) Tryz.underlying23 infoU8s (by rw [u8s_length]; exact (Nat.min_eq_left hk).symm) (fun j u hu => by rw [Addr.add_lit]; exact hc j u hu) (fun j hj => (hg.there (Nat.le_of_eq h64.symm) j (by rw [u8s_length] at hj; omega)).1) (fun j hj => (hg.there (Nat.le_of_eq h64.symm) j (by rw [u8s_length] at hj; omega)).2) (u8s_one _)).trans (by rw [u8s_length]; rfl), ?_, ?_⟩
    · have h1 := Arr.setPart (u8s key) 0 w _ hg (by rw [u8s_length, h64]; omega)
      have h2 : (u8s (List.replicate 64 (0 : UInt8))).take 0 ++ u8s key ++ (u8s (List.replicate 64 (0 : UInt8))).drop (0 + (u8s key).length) = u8s (key ++ List.replicate (64 - key.length) 0) := by
        have hr : ∀ n, u8s (List.replicate n (0 : UInt8)) = List.replicate n (u8v 0) := fun n => by rw [u8s, List.map_replicate]
        rw [u8s_length, hr, List.take_zero, List.nil_append, Nat.zero_add, List.drop_replicate, u8s_append, hr]
      rw [h2] at h1
      exact h1
    · exact (Fr.refl _ _).setCells _ _ _ (fun _ => rfl)
end Go.Proofs.YtaendhbiehknlaaGreatDoor
