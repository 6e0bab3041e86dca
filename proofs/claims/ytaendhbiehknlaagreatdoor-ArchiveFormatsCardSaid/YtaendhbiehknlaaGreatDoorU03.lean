/- What is proved here, of the given program: The reader of octets (wire.Eye): what each call does to it. -/
import Derived.Test.YtaendhbiehknlaaGreatDoorU02
set_option linter.unusedVariables false
set_option linter.unusedSimpArgs false
set_option linter.constructorNameAsVariable false
namespace Go.Proofs.YtaendhbiehknlaaGreatDoor
open Go.RowKit Go.Proofs

def value (l : Bytes) : Nat := l.foldl (fun n c => n * 256 + c.toNat) 0
structure Eye where
  s : Bytes
  err : Nat
def Eye.next (e : Eye) (n : Int) : Bytes × Eye :=
  if e.err ≠ 0 then ([], e) else if n < 0 then ([], ⟨e.s, 2⟩) else if (e.s.length : Int) < n then ([], ⟨e.s, 10⟩) else (e.s.take n.toNat, ⟨e.s.drop n.toNat, 0⟩)
def Eye.num (e : Eye) (k : Nat) : Nat × Eye := (value (e.next k).1, (e.next k).2)
def Eye.text (e : Eye) (k most : Nat) : Bytes × Eye :=
  if (e.num k).2.err ≠ 0 then ([], (e.num k).2) else if most < (e.num k).1 then ([], ⟨e.s, 11⟩) else if (e.num k).2.s.length < (e.num k).1 then ([], ⟨e.s, 10⟩) else (e.num k).2.next (e.num k).1
def Eye.fail (e : Eye) (x : Nat) : Eye := if e.err = 0 then ⟨e.s, x⟩ else e
def Eye.end_ (e : Eye) : Nat := if e.err = 0 ∧ e.s ≠ [] then 13 else e.err

def EyeAt (w : World) (g : Nat) (v : Value) (e : Eye) : Prop := w.heap[g]? = some (.cells #[v, .int .i64 e.err] 301 (0, 0)) ∧ Bs (fun k => k ≠ g) w v e.s
/-- An eye that was made since w0. -/
def EyeIn (w0 w : World) (g : Nat) (e : Eye) : Prop := w0.heap.size ≤ g ∧ Pu w0 w ∧ ∃ v, EyeAt w g v e
abbrev At (g k : Nat) : Prop := k = g
theorem EyeIn.lt {w0 w : World} {g : Nat} {e : Eye} (h : EyeIn w0 w g e) : g < w.heap.size := by
  obtain ⟨_, _, v, h1, _⟩ := h
  exact blk_lt h1
theorem EyeIn.pu {w0 w w1 : World} {g : Nat} {e : Eye} (h : EyeIn w0 w g e) (hp : Pu w w1) : EyeIn w0 w1 g e := by
  obtain ⟨h0, h1, v, h2, h3⟩ := h
  exact ⟨h0, h1.pu hp, v, (hp.block g (blk_lt h2) (fun h => h)).trans h2, h3.pu hp⟩
theorem EyeAt.cells {w : World} {g : Nat} {v : Value} {e : Eye} (h : EyeAt w g v e) : w.cell? ⟨g, 0, none⟩ = some v ∧ w.cell? ⟨g, 1, none⟩ = some (.int .i64 e.err) ∧ w.frozen? ⟨g, 0, none⟩ = false ∧ w.frozen? ⟨g, 1, none⟩ = false := by
  refine ⟨?_, ?_, ?_, ?_⟩
  · rw [cell_of_row w g 0 _ _ _ h.1]; rfl
  · rw [cell_of_row w g 1 _ _ _ h.1]; rfl
  · simp [World.frozen?, h.1]
  · simp [World.frozen?, h.1]
theorem EyeAt.set0 {w : World} {g : Nat} {v v1 : Value} {e : Eye} {s : Bytes} (h : EyeAt w g v e) (hv : Bs (fun k => k ≠ g) w v1 s) : EyeAt (w.setCell ⟨g, 0, none⟩ v1) g v1 ⟨s, e.err⟩ :=
  ⟨by simp [World.setCell, Array.getElem?_modify, h.1], hv.fr ((Fr.refl (At g) w).set _ _ (fun _ => rfl)) (fun _ _ h => h)⟩
theorem EyeAt.set1 {w : World} {g : Nat} {v : Value} {e : Eye} (h : EyeAt w g v e) (x : Nat) : EyeAt (w.setCell ⟨g, 1, none⟩ (.int .i64 x)) g v ⟨e.s, x⟩ :=
  ⟨by simp [World.setCell, Array.getElem?_modify, h.1], h.2.fr ((Fr.refl (At g) w).set _ _ (fun _ => rfl)) (fun _ _ h => h)⟩
/-- A head of a slice. -/
theorem Bs.take {S : Nat → Prop} {w : World} {A : Option Addr} {n c c' k : Nat} {l : Bytes} (h : Bs S w (.slice A n c) l) (hk : k ≤ l.length) (hc : k ≤ c') (hm : c' ≤ 9223372036854775807) : Bs S w (.slice A k c') (l.take k) := by
  refine ⟨A, c', by rw [List.length_take, Nat.min_eq_left hk], by rw [List.length_take]; omega, by simpa [maxLen] using hm, fun hx => ?_⟩
  obtain ⟨A', c2, e, _, _, h3⟩ := id h
  injection e with e1 e2 e3
  subst e1
  obtain ⟨b, o, rfl, hb, hlt, hcell⟩ := h3 (by rintro rfl; simp at hx)
  refine ⟨b, o, rfl, hb, hlt, fun j x hj => hcell j x ?_⟩
  rw [List.getElem?_take] at hj
  split at hj
  · exact hj
  · cases hj
/-- A tail of a slice; the address as the model has it. -/
theorem Bs.drop {S : Nat → Prop} {w : World} {A : Option Addr} {n c k : Nat} {l : Bytes} (h : Bs S w (.slice A n c) l) (hk : k ≤ l.length) : Bs S w (.slice (if c = k then A else A.map (·.add k)) (l.length - k) (c - k)) (l.drop k) := by
  obtain ⟨A', c2, e, h1, h2, h3⟩ := id h
  injection e with e1 e2 e3
  subst e1 e3
  refine ⟨_, c - k, by rw [List.length_drop], by rw [List.length_drop]; omega, by omega, fun hx => ?_⟩
  have hlt : k < l.length := by
    rcases Nat.lt_or_ge k l.length with h | h
    · exact h
    · exact absurd (List.drop_eq_nil_of_le h) hx
  obtain ⟨b, o, rfl, hb, hbl, hcell⟩ := h3 (by rintro rfl; simp at hlt)
  rw [if_neg (by omega)]
  refine ⟨b, o + k, by simp [Addr.add_lit], hb, hbl, fun j x hj => ?_⟩
  rw [List.getElem?_drop] at hj
  obtain ⟨cs, hk1, hk2⟩ := hcell (k + j) x hj
  exact ⟨cs, hk1, fun i u hu => by rw [← hk2 i u hu]; simp [Kd.u8, Kd.scalar, Nat.add_assoc]⟩

theorem eyeNext (w0 : World) (g : Nat) (e : Eye) (n : Int) (w : World) (he : EyeIn w0 w g e) :
    Calls Tryz.prog 230 #[.pointer (some ⟨g, 0, none⟩), .int .i64 n] w fun en w' => ∃ v, en = .returned v ∧ Bs (fun k => k ≠ g ∧ k < w.heap.size) w' v (e.next n).1 ∧ EyeIn w0 w' g (e.next n).2 ∧ Fr (At g) w w' := by
  obtain ⟨h0, hu, v, hat⟩ := he
  obtain ⟨c0, c1, f0, f1⟩ := hat.cells
  obtain ⟨A, c, rfl, hlc, hmc⟩ := hat.2.shape
  have Ha := Lib.hid hat
  have Hu := Lib.hid hu
  clear hat hu
  by_cases he : e.err = 0
  · have hne : (((e.err : Nat) : Int) != 0) = false := by simp [he]
    by_cases hn : n < 0
    · go_enter Tryz.func230, Tryz.ntmps230
      go_wp2
      go_ret
      have h1 : e.next n = ([], ⟨e.s, 2⟩) := by unfold Eye.next; rw [if_neg (by omega), if_pos (by omega)]
      rw [h1]
      exact ⟨_, rfl, Sl.nil _ _ _, ⟨h0, Hu.out.set _ _ (fun hlt => by have : g < w0.heap.size := hlt; omega), _, Ha.out.set1 2⟩, (Fr.refl _ _).set _ _ (fun _ => rfl)⟩
    · by_cases hl : (e.s.length : Int) < n
      · go_enter Tryz.func230, Tryz.ntmps230
        go_wp2
        go_ret
        have h1 : e.next n = ([], ⟨e.s, 10⟩) := by unfold Eye.next; rw [if_neg (by omega), if_neg (by omega), if_pos (by omega)]
        rw [h1]
        exact ⟨_, rfl, Sl.nil _ _ _, ⟨h0, Hu.out.set _ _ (fun hlt => by have : g < w0.heap.size := hlt; omega), _, Ha.out.set1 10⟩, (Fr.refl _ _).set _ _ (fun _ => rfl)⟩
      · go_enter Tryz.func230, Tryz.ntmps230
        go_wp2
        all_goals
          go_ret
          have h1 : e.next n = (e.s.take n.toNat, ⟨e.s.drop n.toNat, 0⟩) := by unfold Eye.next; rw [if_neg (by omega), if_neg (by omega), if_neg (by omega)]
          rw [h1]
          have h2 := Bs.drop (k := n.toNat) Ha.out.2 (by omega)
          have h3 := Ha.out.set0 h2
          rw [he] at h3
          have h4 := Bs.take (k := n.toNat) (c' := n.toNat) Ha.out.2 (by omega) (Nat.le_refl _) (by omega)
          have hf : ∀ u : Value, Fr (At g) w (w.setCell ⟨g, 0, none⟩ u) := fun u => (Fr.refl _ _).set _ _ (fun _ => rfl)
          first
            | rw [if_pos (by assumption), show c - n.toNat = 0 from by omega] at h3
            | rw [if_neg (by assumption)] at h3
          exact ⟨_, rfl, (h4.fr (hf _) (fun _ _ h => h)).mono (fun k hk h => ⟨h, by simpa [World.setCell] using hk⟩), ⟨h0, Hu.out.set _ _ (fun hlt => by have : g < w0.heap.size := hlt; omega), _, h3⟩, hf _⟩
  · have hne : (((e.err : Nat) : Int) != 0) = true := by simpa using he
    go_enter Tryz.func230, Tryz.ntmps230
    go_wp2
    go_ret
    have h1 : e.next n = ([], e) := by unfold Eye.next; rw [if_pos he]
    rw [h1]
    exact ⟨_, rfl, Sl.nil _ _ _, ⟨h0, Hu.out, _, Ha.out⟩, Fr.refl _ _⟩
theorem value_snoc (l : Bytes) (c : UInt8) : value (l ++ [c]) = value l * 256 + c.toNat := by simp [value, List.foldl_append]
theorem value_lt (l : Bytes) : value l < 256 ^ l.length := by
  suffices h : ∀ (l : Bytes) (n m : Nat), n < m → l.foldl (fun n c => n * 256 + c.toNat) n < m * 256 ^ l.length by
    have := h l 0 1 (by decide)
    simpa [value] using this
  intro l
  induction l with
  | nil => intro n m h; simpa using h
  | cons c r ih =>
    intro n m h
    have hc := c.toNat_lt
    have h1 := ih (n * 256 + c.toNat) (m * 256) (by omega)
    simp only [List.foldl_cons, List.length_cons]
    rw [Nat.pow_succ, Nat.mul_comm (256 ^ r.length) 256, ← Nat.mul_assoc]
    exact h1
theorem next_len (e : Eye) (k : Nat) : (e.next k).1.length ≤ k := by
  unfold Eye.next
  split
  · simp
  · split
    · simp
    · split
      · simp
      · simp only [List.length_take]; omega
set_option maxRecDepth 100000 in
theorem eyeNumber (w0 : World) (g : Nat) (e : Eye) (k : Nat) (w : World) (he : EyeIn w0 w g e) (hk : k ≤ 8) :
    Calls Tryz.prog 166 #[.pointer (some ⟨g, 0, none⟩), .int .i64 k] w fun en w' => en = .returned (.int .u64 (e.num k).1) ∧ EyeIn w0 w' g (e.num k).2 ∧ Fr (At g) w w' := by
  go_enter Tryz.func166, Tryz.ntmps166
  go_wp2_with fail
  refine (eyeNext w0 g e k w he).mono ?_
  rintro en w1 ⟨v, rfl, hv, hin, hf⟩
  obtain ⟨A, c, rfl, hlc, hmc⟩ := hv.shape
  have Hin := Lib.hid hin
  have Hf := Lib.hid hf
  have Hv := Lib.hid hv
  clear hin hf hv he
  have hnl := next_len e k
  have hnum : (e.num k).1 = value (e.next k).1 := rfl
  generalize (e.next k).1 = l at *
  have Hnum := Lib.hid hnum
  clear hnum
  go_wp2
  go_loop [5, 7, 12] (fun n _ i => ∃ j : Nat, j ≤ l.length ∧ i = .int .i64 j ∧ n = .int .u64 (value (l.take j))) (fun _ _ i => l.length - (intOf i).toNat)
  case atStart => exact ⟨0, Nat.zero_le _, rfl, by simp [value]⟩
  case round =>
    obtain ⟨j, hj, rfl, rfl⟩ := hrel
    by_cases hlt : j < l.length
    · obtain ⟨b, o, x, rfl, hbl, hx8, Hx, hc⟩ := Hv.out.byte hlt
      have hvl := value_lt (l.take j)
      have hpow : 256 ^ (l.take j).length ≤ 72057594037927936 := by
        have : (l.take j).length ≤ 7 := by rw [List.length_take]; omega
        exact Nat.le_trans (Nat.pow_le_pow_right (by decide) this) (by decide)
      have hv56 : value (l.take j) < 72057594037927936 := Nat.lt_of_lt_of_le hvl hpow
      clear hvl hpow
      obtain ⟨y, hy⟩ : ∃ y, y = value (l.take j) := ⟨_, rfl⟩
      rw [← hy] at hv56 ⊢
      have Hy := Lib.hid hy
      clear hy
      go_wp2
      refine ⟨⟨j + 1, by omega, by go_num, ?_⟩, by simp [intOf]; omega⟩
      have h1 := bits_or_u64_nat (y * 256) x (by omega) (by omega)
      rw [Int.natCast_mul] at h1
      have h2 : y * 256 ||| x = y * 256 + x := by
        rw [show y * 256 = y <<< 8 from by rw [Nat.shiftLeft_eq], ← Nat.shiftLeft_add_eq_or_of_lt (by simpa using hx8) y]
      rw [List.take_succ_eq_append_getElem hlt, value_snoc, ← Hy.out]
      have h3 : (l[j]).toNat = x := by rw [Hx.out]; simp; omega
      rw [h3, ← h2]
      exact congrArg (Value.int .u64) h1
    · go_wp2
      go_ret
      refine ⟨?_, Hin.out, Hf.out⟩
      rw [Hnum.out, List.take_of_length_le (by omega)]
      rfl
theorem num_lt (e : Eye) (k : Nat) : (e.num k).1 < 256 ^ k := by
  have h := value_lt (e.next k).1
  exact Nat.lt_of_lt_of_le h (Nat.pow_le_pow_right (by decide) (next_len e k))
theorem eyeU8 (w0 : World) (g : Nat) (e : Eye) (w : World) (he : EyeIn w0 w g e) :
    Calls Tryz.prog 110 #[.pointer (some ⟨g, 0, none⟩)] w fun en w' => en = .returned (.int .i64 (e.num 1).1) ∧ EyeIn w0 w' g (e.num 1).2 ∧ Fr (At g) w w' := by
  have hn := num_lt e 1
  simp only [Nat.reducePow] at hn
  go_enter Tryz.func110, Tryz.ntmps110
  go_wp2_with fail
  refine (eyeNumber w0 g e 1 w he (by omega)).mono ?_
  rintro en w1 ⟨rfl, h1, h2⟩
  go_wp2
  go_ret
  exact ⟨rfl, h1, h2⟩
theorem eyeU32 (w0 : World) (g : Nat) (e : Eye) (w : World) (he : EyeIn w0 w g e) :
    Calls Tryz.prog 291 #[.pointer (some ⟨g, 0, none⟩)] w fun en w' => en = .returned (.int .i64 (e.num 4).1) ∧ EyeIn w0 w' g (e.num 4).2 ∧ Fr (At g) w w' := by
  have hn := num_lt e 4
  simp only [Nat.reducePow] at hn
  go_enter Tryz.func291, Tryz.ntmps291
  go_wp2_with fail
  refine (eyeNumber w0 g e 4 w he (by omega)).mono ?_
  rintro en w1 ⟨rfl, h1, h2⟩
  go_wp2
  go_ret
  exact ⟨rfl, h1, h2⟩
theorem eyeU64 (w0 : World) (g : Nat) (e : Eye) (w : World) (he : EyeIn w0 w g e) :
    Calls Tryz.prog 108 #[.pointer (some ⟨g, 0, none⟩)] w fun en w' => en = .returned (.int .u64 (e.num 8).1) ∧ EyeIn w0 w' g (e.num 8).2 ∧ Fr (At g) w w' := by
  go_enter Tryz.func108, Tryz.ntmps108
  go_wp2_with fail
  refine (eyeNumber w0 g e 8 w he (by omega)).mono ?_
  rintro en w1 ⟨rfl, h1, h2⟩
  go_wp2
  go_ret
  exact ⟨rfl, h1, h2⟩
/-- What is read is new, and a row of its own. -/
theorem eyeRaw (w0 : World) (g : Nat) (e : Eye) (n : Int) (w : World) (he : EyeIn w0 w g e) (hl : e.s.length ≤ 17592186044416) :
    Calls Tryz.prog 288 #[.pointer (some ⟨g, 0, none⟩), .int .i64 n] w fun en w' => ∃ v, en = .returned v ∧ w'.ownsRow w.heap.size 5 1 v (e.next n).1.length (u8s (e.next n).1) ∧ EyeIn w0 w' g (e.next n).2 ∧ Fr (At g) w w' := by
  have hnl : (e.next n).1.length ≤ e.s.length := by
    unfold Eye.next
    split
    · simp
    · split
      · simp
      · split
        · simp
        · simp only [List.length_take]; omega
  go_enter Tryz.func288, Tryz.ntmps288
  go_wp2_with fail
  refine (eyeNext w0 g e n w he).mono ?_
  rintro en w1 ⟨v, rfl, hv, hin, hf⟩
  have Hin := Lib.hid hin
  have Hf := Lib.hid hf
  have Hv := Lib.hid hv
  clear hin hf hv he
  go_wp2_with fail
  refine (cloneBytes v _ _ w1 Hv.out (by omega)).mono ?_
  rintro en w2 ⟨v2, rfl, h1, h2⟩
  have H1 := Lib.hid h1
  have H2 := Lib.hid h2
  clear h1 h2
  go_wp2
  go_ret
  refine ⟨v2, rfl, ?_, Hin.out.pu H2.out, Hf.out.pu H2.out⟩
  obtain ⟨h3, h4⟩ := H1.out
  refine ⟨h3, h4.imp id ?_⟩
  rintro ⟨g', cap, cur, h5, h6, r⟩
  exact ⟨g', cap, cur, h5, Nat.le_trans Hf.out.size h6, r⟩
theorem eyeErr (w0 : World) (g : Nat) (e : Eye) (w : World) (he : EyeIn w0 w g e) :
    Calls Tryz.prog 172 #[.pointer (some ⟨g, 0, none⟩)] w fun en w' => en = .returned (.int .i64 e.err) ∧ w = w' := by
  obtain ⟨h0, hu, v, hat⟩ := he
  obtain ⟨-, c1, -, -⟩ := hat.cells
  go_enter Tryz.func172, Tryz.ntmps172
  go_wp2
  go_ret
  exact ⟨rfl, rfl⟩
theorem eyeLeft (w0 : World) (g : Nat) (e : Eye) (w : World) (he : EyeIn w0 w g e) :
    Calls Tryz.prog 313 #[.pointer (some ⟨g, 0, none⟩)] w fun en w' => en = .returned (.int .i64 e.s.length) ∧ w = w' := by
  obtain ⟨h0, hu, v, hat⟩ := he
  obtain ⟨c0, -, -, -⟩ := hat.cells
  obtain ⟨A, c, rfl, -, -⟩ := hat.2.shape
  clear hat
  go_enter Tryz.func313, Tryz.ntmps313
  go_wp2
  go_ret
  exact ⟨rfl, rfl⟩
theorem eyeFail (w0 : World) (g : Nat) (e : Eye) (x : Nat) (w : World) (he : EyeIn w0 w g e) :
    Calls Tryz.prog 168 #[.pointer (some ⟨g, 0, none⟩), .int .i64 x] w fun en w' => en = .returned (.tuple #[]) ∧ EyeIn w0 w' g (e.fail x) ∧ Fr (At g) w w' := by
  obtain ⟨h0, hu, v, hat⟩ := he
  obtain ⟨-, c1, -, f1⟩ := hat.cells
  have Ha := Lib.hid hat
  have Hu := Lib.hid hu
  clear hat hu
  by_cases he : e.err = 0
  · have hne : (((e.err : Nat) : Int) == 0) = true := by simp [he]
    go_enter Tryz.func168, Tryz.ntmps168
    go_wp2
    have h1 : e.fail x = ⟨e.s, x⟩ := by unfold Eye.fail; rw [if_pos he]
    rw [h1]
    exact bodyPost_end (results_none rfl _ _ _) rfl ⟨rfl, ⟨h0, Hu.out.set _ _ (fun hlt => by have : g < w0.heap.size := hlt; omega), v, Ha.out.set1 x⟩, (Fr.refl _ _).set _ _ (fun _ => rfl)⟩
  · have hne : (((e.err : Nat) : Int) == 0) = false := by simp; omega
    go_enter Tryz.func168, Tryz.ntmps168
    go_wp2
    have h1 : e.fail x = e := by unfold Eye.fail; rw [if_neg he]
    rw [h1]
    exact bodyPost_end (results_none rfl _ _ _) rfl ⟨rfl, ⟨h0, Hu.out, v, Ha.out⟩, Fr.refl _ _⟩
theorem eyeEnd (w0 : World) (g : Nat) (e : Eye) (w : World) (he : EyeIn w0 w g e) :
    Calls Tryz.prog 174 #[.pointer (some ⟨g, 0, none⟩)] w fun en w' => en = .returned (.int .i64 e.end_) ∧ w = w' := by
  obtain ⟨h0, hu, v, hat⟩ := he
  obtain ⟨c0, c1, -, -⟩ := hat.cells
  obtain ⟨A, c, rfl, -, -⟩ := hat.2.shape
  clear hat
  by_cases he : e.err = 0
  · have hne : (((e.err : Nat) : Int) == 0) = true := by simp [he]
    by_cases hs : 0 < e.s.length
    · go_enter Tryz.func174, Tryz.ntmps174
      go_wp2
      go_ret
      refine ⟨?_, rfl⟩
      have : e.end_ = 13 := by unfold Eye.end_; rw [if_pos ⟨he, by rintro h; simp [h] at hs⟩]
      rw [this]; rfl
    · go_enter Tryz.func174, Tryz.ntmps174
      go_wp2
      go_ret
      refine ⟨?_, rfl⟩
      have : e.end_ = e.err := by unfold Eye.end_; rw [if_neg (fun h => h.2 (List.eq_nil_of_length_eq_zero (by omega)))]
      rw [this, he]; rfl
  · have hne : (((e.err : Nat) : Int) == 0) = false := by simp; omega
    go_enter Tryz.func174, Tryz.ntmps174
    go_wp2
    go_ret
    refine ⟨?_, rfl⟩
    have : e.end_ = e.err := by unfold Eye.end_; rw [if_neg (fun h => he h.1)]
    rw [this]; rfl
theorem next_s_len (e : Eye) (n : Int) : (e.next n).2.s.length ≤ e.s.length := by
  unfold Eye.next
  split
  · exact Nat.le_refl _
  · split
    · exact Nat.le_refl _
    · split
      · exact Nat.le_refl _
      · simp only [List.length_drop]; omega
set_option maxRecDepth 100000 in
theorem eyeText (w0 : World) (g : Nat) (e : Eye) (k most : Nat) (w : World) (he : EyeIn w0 w g e) (hl : e.s.length ≤ 17592186044416) (hk : k ≤ 4) (hm : most ≤ 1000000) :
    Calls Tryz.prog 233 #[.pointer (some ⟨g, 0, none⟩), .int .i64 k, .int .i64 most] w fun en w' => ∃ v, en = .returned v ∧ w'.ownsRow w.heap.size 5 1 v (e.text k most).1.length (u8s (e.text k most).1) ∧ EyeIn w0 w' g (e.text k most).2 ∧ Fr (At g) w w' := by
  obtain ⟨h0, hu, v, hat⟩ := id he
  obtain ⟨c0, -, -, -⟩ := hat.cells
  obtain ⟨A, c, rfl, -, -⟩ := hat.2.shape
  have Hat := Lib.hid hat
  clear hat hu
  go_enter Tryz.func233, Tryz.ntmps233
  go_wp2_with fail
  refine (eyeNumber w0 g e k w he (by omega)).mono ?_
  rintro en w1 ⟨rfl, hin, hf⟩
  obtain ⟨_, hu, v1, hat⟩ := hin
  obtain ⟨c0', c1, f0, f1⟩ := hat.cells
  obtain ⟨A1, cc1, rfl, -, -⟩ := hat.2.shape
  have Hat1 := Lib.hid hat
  have Hu := Lib.hid hu
  have Hf := Lib.hid hf
  have hs := next_s_len e k
  have hn : (e.num k).1 < 4294967296 := Nat.lt_of_lt_of_le (num_lt e k) (Nat.le_trans (Nat.pow_le_pow_right (by decide) hk) (by decide))
  have hs : (e.num k).2.s.length ≤ e.s.length := hs
  clear hat hu hf
  have hdef : e.text k most = if (e.num k).2.err ≠ 0 then ([], (e.num k).2) else if most < (e.num k).1 then ([], ⟨e.s, 11⟩) else if (e.num k).2.s.length < (e.num k).1 then ([], ⟨e.s, 10⟩) else (e.num k).2.next (e.num k).1 := rfl
  have Hdef := Lib.hid hdef
  clear hdef c0 he
  have Hw := Lib.hid (Hat.out.2.fr Hf.out (fun _ _ h => h))
  generalize (e.num k).1 = m at *
  generalize (e.num k).2 = e1 at *
  have hset : ∀ u : Value, Fr (At g) w1 (w1.setCell ⟨g, 0, none⟩ u) := fun u => (Fr.refl _ _).set _ _ (fun _ => rfl)
  have Hset := Lib.hid hset
  have hg : ¬ g < w0.heap.size := by omega
  clear hset
  have hback : ∀ x : Nat, EyeIn w0 ((w1.setCell ⟨g, 0, none⟩ (.slice A e.s.length c)).setCell ⟨g, 1, none⟩ (.int .i64 x)) g ⟨e.s, x⟩ ∧ Fr (At g) w ((w1.setCell ⟨g, 0, none⟩ (.slice A e.s.length c)).setCell ⟨g, 1, none⟩ (.int .i64 x)) := fun x =>
    ⟨⟨h0, (Hu.out.set _ _ (fun h => absurd h hg)).set _ _ (fun h => absurd h hg), _, (Hat1.out.set0 Hw.out).set1 x⟩, (Hf.out.set _ _ (fun _ => rfl)).set _ _ (fun _ => rfl)⟩
  have Hback := Lib.hid hback
  clear hback
  by_cases h1 : e1.err = 0
  · have hne : (((e1.err : Nat) : Int) != 0) = false := by simp [h1]
    by_cases h2 : most < m
    · go_wp2
      go_ret
      have h3 : e.text k most = ([], ⟨e.s, 11⟩) := by rw [Hdef.out, if_neg (by omega), if_pos h2]
      rw [h3]
      exact ⟨_, rfl, World.ownsRow_nil _ _ _ _, Hback.out 11⟩
    · by_cases h4 : e1.s.length < m
      · go_wp2
        go_ret
        have h3 : e.text k most = ([], ⟨e.s, 10⟩) := by rw [Hdef.out, if_neg (by omega), if_neg h2, if_pos h4]
        rw [h3]
        exact ⟨_, rfl, World.ownsRow_nil _ _ _ _, Hback.out 10⟩
      · go_wp2_with fail
        refine (eyeRaw w0 g e1 m w1 ⟨h0, Hu.out, _, Hat1.out⟩ (by omega)).mono ?_
        rintro en w2 ⟨v2, rfl, h5, h6, h7⟩
        have H5 := Lib.hid h5
        have H6 := Lib.hid h6
        have H7 := Lib.hid h7
        clear h5 h6 h7
        go_wp2
        go_ret
        have h3 : e.text k most = e1.next m := by rw [Hdef.out, if_neg (by omega), if_neg h2, if_neg h4]
        rw [h3]
        obtain ⟨h8, h9⟩ := H5.out
        refine ⟨v2, rfl, ⟨h8, h9.imp id ?_⟩, H6.out, Hf.out.trans H7.out (fun _ _ h => h)⟩
        rintro ⟨g', cap, cur, h5, h6, r⟩
        exact ⟨g', cap, cur, h5, Nat.le_trans Hf.out.size h6, r⟩
  · have hne : (((e1.err : Nat) : Int) != 0) = true := by simpa using h1
    go_wp2
    go_ret
    have h3 : e.text k most = ([], e1) := by rw [Hdef.out, if_pos h1]
    rw [h3]
    exact ⟨_, rfl, World.ownsRow_nil _ _ _ _, ⟨h0, Hu.out, _, Hat1.out⟩, Hf.out⟩
theorem eyeShort (w0 : World) (g : Nat) (e : Eye) (most : Nat) (w : World) (he : EyeIn w0 w g e) (hl : e.s.length ≤ 17592186044416) (hm : most ≤ 1000000) :
    Calls Tryz.prog 169 #[.pointer (some ⟨g, 0, none⟩), .int .i64 most] w fun en w' => ∃ v, en = .returned v ∧ w'.ownsRow w.heap.size 5 1 v (e.text 1 most).1.length (u8s (e.text 1 most).1) ∧ EyeIn w0 w' g (e.text 1 most).2 ∧ Fr (At g) w w' := by
  go_enter Tryz.func169, Tryz.ntmps169
  go_wp2_with fail
  refine (eyeText w0 g e 1 most w he hl (by omega) hm).mono ?_
  rintro en w1 ⟨v, rfl, h1, h2⟩
  go_wp2
  go_ret
  exact ⟨v, rfl, h1, h2⟩
theorem eyeLong (w0 : World) (g : Nat) (e : Eye) (most : Nat) (w : World) (he : EyeIn w0 w g e) (hl : e.s.length ≤ 17592186044416) (hm : most ≤ 1000000) :
    Calls Tryz.prog 214 #[.pointer (some ⟨g, 0, none⟩), .int .i64 most] w fun en w' => ∃ v, en = .returned v ∧ w'.ownsRow w.heap.size 5 1 v (e.text 2 most).1.length (u8s (e.text 2 most).1) ∧ EyeIn w0 w' g (e.text 2 most).2 ∧ Fr (At g) w w' := by
  go_enter Tryz.func214, Tryz.ntmps214
  go_wp2_with fail
  refine (eyeText w0 g e 2 most w he hl (by omega) hm).mono ?_
  rintro en w1 ⟨v, rfl, h1, h2⟩
  go_wp2
  go_ret
  exact ⟨v, rfl, h1, h2⟩
theorem eyeOpen (v : Value) (l : Bytes) (S : Nat → Prop) (w : World) (hv : Bs S w v l) (hl : l.length ≤ 17592186044416) :
    Calls Tryz.prog 107 #[v] w fun en w' => ∃ g, en = .returned (.pointer (some ⟨g, 0, none⟩)) ∧ EyeIn w w' g ⟨l, 0⟩ ∧ Pu w w' := by
  go_enter Tryz.func107, Tryz.ntmps107
  go_wp2_with fail
  refine (cloneBytes v l S w hv hl).mono ?_
  rintro en w1 ⟨v2, rfl, h1, h2⟩
  have H1 := Lib.hid h1
  have H2 := Lib.hid h2
  clear h1 h2
  obtain ⟨A1, n1, hv1⟩ := own_shape H1.out
  rw [hv1]
  go_wp2
  go_ret
  have h3 := Bs.of_own H1.out
  rw [hv1] at h3
  refine ⟨w1.heap.size, rfl, ⟨H2.out.size, H2.out.alloc _, _, heap_alloc_new w1 _, ?_⟩, H2.out.alloc _⟩
  refine (h3.pu ((Fr.refl _ _).alloc _)).mono (fun k hk h => ?_)
  have := (own_lt H1.out k (by rw [hv1]; exact h)).2
  show k ≠ w1.heap.size
  omega
end Go.Proofs.YtaendhbiehknlaaGreatDoor
