/- What is proved here, of the given program: Superblocks in images: plain laws. The document's disk: plain laws of sectors and of what waits. The references' words: texts, numbers in texts. -/
import Derived.Test.YtaendhbiehknlaaGreatDoorU27
import Derived.Test.YtaendhbiehknlaaGreatDoorU20
set_option linter.unusedVariables false
set_option linter.unusedSimpArgs false
set_option linter.constructorNameAsVariable false
namespace Go.Proofs.YtaendhbiehknlaaGreatDoor
open Go.RowKit Go.Shelf Go.Proofs

theorem value_foldl (l : Bytes) : ∀ a : Nat, l.foldl (fun n c => n * 256 + c.toNat) a = a * 256 ^ l.length + value l := by
  induction l with
  | nil => intro a; simp [value]
  | cons c r ih =>
    intro a
    have h0 : value (c :: r) = c.toNat * 256 ^ r.length + value r := by
      show List.foldl _ (0 * 256 + c.toNat) r = _
      rw [ih]; simp
    rw [List.foldl_cons, ih, h0, List.length_cons, Nat.pow_succ, Nat.add_mul, Nat.mul_assoc, Nat.mul_comm 256]
    omega
theorem value_cons (c : UInt8) (r : Bytes) : value (c :: r) = c.toNat * 256 ^ r.length + value r := by
  show List.foldl _ (0 * 256 + c.toNat) r = _
  rw [value_foldl]; simp
theorem value_number (n k : Nat) : value (number n k) = n % 256 ^ k := by
  induction k with
  | zero => simp [number, value, Nat.mod_one]
  | succ k ih =>
    rw [number, value_cons, ih, number_length, Nat.pow_mul, show (2 : Nat) ^ 8 = 256 from rfl, Nat.pow_succ, Nat.mod_mul, Nat.mul_comm (256 ^ k)]
    have : (UInt8.ofNat (n / 256 ^ k)).toNat = n / 256 ^ k % 256 := by simp
    rw [this]; omega
theorem cut_mid (a b c : Bytes) (o n : Nat) (ho : a.length = o) (hn : b.length = n) : cut (a ++ (b ++ c)) o n = b := by
  subst ho hn
  simp [cut]
def Sup.rest (s : Sup) : Bytes := number (crcOf s.raw) 4 ++ zeros 92
theorem Sup.bytes_eq (s : Sup) : s.bytes = s.raw ++ s.rest := by
  have h : (crcWith s.raw).length = 36 := by rw [crcWith_length, s.raw_length]
  rw [Sup.bytes, sector, patch, h, List.take_zero, List.nil_append, zeros_drop, crcWith, List.append_assoc]
  rfl
theorem parse_bytes (s : Sup) (h : s.right = true) : parseSup s.bytes = s := by
  have hb := s.bytes_eq
  obtain ⟨gen, boot, slots, segs, size⟩ := s
  obtain ⟨h1, h2, h3, h4, h5⟩ := (Sup.right_iff _).1 h
  dsimp only at h1 h2 h3 h4 h5
  generalize Sup.rest ⟨gen, boot, slots, segs, size⟩ = r at hb
  rw [hb]
  unfold Sup.raw
  dsimp only
  have c1 : cut (engs ++ number gen.toNat 8 ++ number boot.toNat 8 ++ number slots.toNat 4 ++ number segs.toNat 4 ++ number size.toNat 4 ++ r) 4 8 = number gen.toNat 8 := by
    simp only [List.append_assoc]
    exact cut_mid _ _ _ _ _ rfl (number_length _ _)
  have c2 : cut (engs ++ number gen.toNat 8 ++ number boot.toNat 8 ++ number slots.toNat 4 ++ number segs.toNat 4 ++ number size.toNat 4 ++ r) 12 8 = number boot.toNat 8 := by
    rw [show engs ++ number gen.toNat 8 ++ number boot.toNat 8 ++ number slots.toNat 4 ++ number segs.toNat 4 ++ number size.toNat 4 ++ r = (engs ++ number gen.toNat 8) ++ (number boot.toNat 8 ++ (number slots.toNat 4 ++ (number segs.toNat 4 ++ (number size.toNat 4 ++ r)))) by simp only [List.append_assoc]]
    exact cut_mid _ _ _ _ _ (by simp [number_length, engs]) (number_length _ _)
  have c3 : cut (engs ++ number gen.toNat 8 ++ number boot.toNat 8 ++ number slots.toNat 4 ++ number segs.toNat 4 ++ number size.toNat 4 ++ r) 20 4 = number slots.toNat 4 := by
    rw [show engs ++ number gen.toNat 8 ++ number boot.toNat 8 ++ number slots.toNat 4 ++ number segs.toNat 4 ++ number size.toNat 4 ++ r = (engs ++ number gen.toNat 8 ++ number boot.toNat 8) ++ (number slots.toNat 4 ++ (number segs.toNat 4 ++ (number size.toNat 4 ++ r))) by simp only [List.append_assoc]]
    exact cut_mid _ _ _ _ _ (by simp [number_length, engs]) (number_length _ _)
  have c4 : cut (engs ++ number gen.toNat 8 ++ number boot.toNat 8 ++ number slots.toNat 4 ++ number segs.toNat 4 ++ number size.toNat 4 ++ r) 24 4 = number segs.toNat 4 := by
    rw [show engs ++ number gen.toNat 8 ++ number boot.toNat 8 ++ number slots.toNat 4 ++ number segs.toNat 4 ++ number size.toNat 4 ++ r = (engs ++ number gen.toNat 8 ++ number boot.toNat 8 ++ number slots.toNat 4) ++ (number segs.toNat 4 ++ (number size.toNat 4 ++ r)) by simp only [List.append_assoc]]
    exact cut_mid _ _ _ _ _ (by simp [number_length, engs]) (number_length _ _)
  have c5 : cut (engs ++ number gen.toNat 8 ++ number boot.toNat 8 ++ number slots.toNat 4 ++ number segs.toNat 4 ++ number size.toNat 4 ++ r) 28 4 = number size.toNat 4 := by
    rw [show engs ++ number gen.toNat 8 ++ number boot.toNat 8 ++ number slots.toNat 4 ++ number segs.toNat 4 ++ number size.toNat 4 ++ r = (engs ++ number gen.toNat 8 ++ number boot.toNat 8 ++ number slots.toNat 4 ++ number segs.toNat 4) ++ (number size.toNat 4 ++ r) by simp only [List.append_assoc]]
    exact cut_mid _ _ _ _ _ (by simp [number_length, engs]) (number_length _ _)
  unfold parseSup
  rw [c1, c2, c3, c4, c5]
  simp only [value_number]
  have e1 : wrap64 ((gen.toNat % 256 ^ 8 : Nat) : Int) = gen := by
    rw [Nat.mod_eq_of_lt (by omega), Int.toNat_of_nonneg (by omega)]
    unfold wrap64; omega
  have e2 : wrap64 ((boot.toNat % 256 ^ 8 : Nat) : Int) = boot := by
    rw [Nat.mod_eq_of_lt (by omega), Int.toNat_of_nonneg (by omega)]
    unfold wrap64; omega
  rw [e1, e2]
  congr 1 <;> omega
theorem readSup_bytes (s : Sup) (h : s.right = true) (p : Int) : readSup s.bytes p = if s.gen % 2 = p then some s else none := by
  rw [readSup, parse_bytes s h]
  simp [h]
theorem cut_zeros (n o k : Nat) (h : o + k ≤ n) : cut (zeros n) o k = zeros k := by rw [cut, zeros_drop, zeros_take, Nat.min_eq_left (by omega)]
theorem readSup_zeros (p : Int) : readSup (zeros 128) p = none := by
  rw [readSup, if_neg]
  rintro ⟨h, _⟩
  have h1 := ((Sup.right_iff _).1 h).1.1
  unfold parseSup at h1
  rw [cut_zeros 128 4 8 (by omega), value_zeros] at h1
  have h1 : (1 : Int) ≤ wrap64 ((0 : Nat) : Int) := h1
  unfold wrap64 at h1; omega
theorem newest_zeros (n : Nat) (h : 256 ≤ n) : newestSup ((zeros n).take 256) = none := by
  rw [zeros_take, Nat.min_eq_left h, newestSup, cut_zeros 256 128 128 (by omega), zeros_take, Nat.min_eq_left (by omega), readSup_zeros, readSup_zeros]
  rfl
theorem patch_zeros (n o k : Nat) (h : o + k ≤ n) : patch (zeros n) o (zeros k) = zeros n :=
  patch_same _ _ _ (by rw [zeros_drop, zeros_take, Nat.min_eq_left (by omega)]) (by rw [zeros_length]; exact h)
theorem patch_128 (n : Nat) (b : Bytes) (hb : b.length = 128) (h : 256 ≤ n) : patch (zeros n) 128 b = zeros 128 ++ b ++ zeros (n - 256) := by
  rw [patch, zeros_take, Nat.min_eq_left (by omega), hb, zeros_drop]
theorem newest_formatted (n : Nat) (s : Sup) (hr : s.right = true) (hg : s.gen = 1) (h : 256 ≤ n) : newestSup ((patch (zeros n) 128 s.bytes).take 256) = some s := by
  have hb := s.bytes_length
  have hz : (zeros 128).length = 128 := zeros_length _
  rw [patch_128 _ _ hb h, List.take_append_of_le_length (by rw [List.length_append]; omega), List.take_of_length_le (by rw [List.length_append]; omega), newestSup]
  have h1 : cut (zeros 128 ++ s.bytes) 128 128 = s.bytes := by
    have := cut_mid (zeros 128) s.bytes [] 128 128 hz hb
    rwa [List.append_nil] at this
  have h2 : (zeros 128 ++ s.bytes).take 128 = zeros 128 := by
    rw [List.take_append_of_le_length (by omega), List.take_of_length_le (by omega)]
  rw [h1, h2, readSup_zeros, readSup_bytes s hr, hg, if_pos (by decide)]
  rfl
theorem patch_two (n : Nat) (b c : Bytes) (hb : b.length = 128) (hc : c.length = 128) (h : 256 ≤ n) : patch (patch (zeros n) 128 b) 0 c = c ++ b ++ zeros (n - 256) := by
  have hz : (zeros 128).length = 128 := zeros_length _
  rw [patch_128 _ _ hb h, patch, hc, List.take_zero, List.nil_append, Nat.zero_add, List.append_assoc, List.append_assoc, List.drop_append_of_le_length (by omega), List.drop_of_length_le (by omega), List.nil_append]
theorem patch_two_drop (n o k : Nat) (b c : Bytes) (hb : b.length = 128) (hc : c.length = 128) (ho : 256 ≤ o) (h : o + k ≤ n) : ((patch (patch (zeros n) 128 b) 0 c).drop o).take k = zeros k := by
  rw [patch_two n b c hb hc (by omega)]
  obtain ⟨j, rfl⟩ : ∃ j, o = 256 + j := ⟨o - 256, by omega⟩
  have h1 : List.drop 256 (c ++ b ++ zeros (n - 256)) = zeros (n - 256) := List.drop_left' (by rw [List.length_append]; omega)
  rw [← List.drop_drop, h1, zeros_drop, zeros_take, Nat.min_eq_left (by omega)]
end Go.Proofs.YtaendhbiehknlaaGreatDoor

namespace Go.Proofs.YtaendhbiehknlaaGreatDoor
open Go.RowKit Go.Shelf Go.Proofs

theorem patch_get (l b : Bytes) (o j : Nat) (h : o + b.length ≤ l.length) : (patch l o b)[j]? = if j < o then l[j]? else if j < o + b.length then b[j - o]? else l[j]? := by
  have h1 : (l.take o).length = o := by rw [List.length_take]; omega
  unfold patch
  by_cases h2 : j < o
  · rw [if_pos h2, List.append_assoc, List.getElem?_append_left (by omega), List.getElem?_take, if_pos h2]
  · rw [if_neg h2]
    by_cases h3 : j < o + b.length
    · rw [if_pos h3, List.append_assoc, List.getElem?_append_right (by omega), h1, List.getElem?_append_left (by omega)]
    · rw [if_neg h3, List.getElem?_append_right (by rw [List.length_append]; omega), List.length_append, h1, List.getElem?_drop]
      congr 1
      omega
theorem sect_get (l : Bytes) (i j : Nat) : (sect l i)[j]? = if j < 128 then l[i * 128 + j]? else none := by
  rw [sect, List.getElem?_take, List.getElem?_drop]
theorem sect_patch (im b : Bytes) (a i : Nat) (hb : b.length = 128) (ha : a * 128 + 128 ≤ im.length) : sect (patch im (a * 128) b) i = if a = i then b else sect im i := by
  apply List.ext_getElem?
  intro j
  rw [sect_get, patch_get _ _ _ _ (by omega)]
  by_cases hj : j < 128
  · rw [if_pos hj]
    by_cases he : a = i
    · subst he
      rw [if_pos rfl, if_neg (by omega), if_pos (by omega)]
      congr 1
      omega
    · rw [if_neg he, sect_get, if_pos hj]
      by_cases h1 : i * 128 + j < a * 128
      · rw [if_pos h1]
      · rw [if_neg h1, if_neg (by omega)]
  · rw [if_neg hj]
    by_cases he : a = i
    · rw [if_pos he]
      exact (List.getElem?_eq_none (by omega)).symm
    · rw [if_neg he, sect_get, if_neg hj]
/-- What a sector shows by the writes that wait. -/
def seeAt (q : List (Int × Bytes)) (s : Bytes) (i : Int) : Bytes := q.foldl (fun s x => if x.1 = i then x.2 else s) s
theorem seeAt_take_succ (q : List (Int × Bytes)) (s : Bytes) (i : Int) (j : Nat) (h : j < q.length) : seeAt (q.take (j + 1)) s i = if (q[j]).1 = i then (q[j]).2 else seeAt (q.take j) s i := by
  rw [List.take_succ_eq_append_getElem h, seeAt, List.foldl_append]
  rfl
theorem sect_lay (q : List (Int × Bytes)) : ∀ (img : Bytes) (i : Nat), QOk img.length q → sect (lay img q) i = seeAt q (sect img i) i := by
  induction q with
  | nil => intro img i _; rfl
  | cons x q ih =>
    intro img i hq
    obtain ⟨h0, h1, h2⟩ := hq x (List.mem_cons_self ..)
    have hl : (patch img (x.1.toNat * 128) x.2).length = img.length := patch_length _ _ _ (by omega)
    show sect (lay (patch img (x.1.toNat * 128) x.2) q) i = seeAt q (if x.1 = (i : Int) then x.2 else sect img i) i
    rw [ih _ i (by rw [hl]; exact fun y hy => hq y (List.mem_cons_of_mem _ hy)), sect_patch _ _ _ _ h1 h2]
    congr 1
    by_cases e : x.1.toNat = i
    · rw [if_pos e, if_pos (by omega)]
    · rw [if_neg e, if_neg (by omega)]
theorem flat_sects (img : Bytes) (a n : Nat) (h : (a + n) * 128 ≤ img.length) : ((List.range n).map fun i => sect img (a + i)).flatten = (img.drop (a * 128)).take (n * 128) := by
  induction n with
  | zero => simp
  | succ n ih =>
    rw [List.range_succ, List.map_append, List.flatten_append, ih (by omega), show (n + 1) * 128 = n * 128 + 128 by omega, List.take_add, List.drop_drop]
    simp only [List.map_cons, List.map_nil, List.flatten_cons, List.flatten_nil, List.append_nil, sect]
    rw [show (a + n) * 128 = a * 128 + n * 128 by omega]
/-- The sectors of an image. -/
def secs (img : Bytes) : List Bytes := (List.range (img.length / 128)).map (sect img)
theorem secs_length (img : Bytes) : (secs img).length = img.length / 128 := by simp [secs]
theorem secs_get (img : Bytes) (i : Nat) (h : i < img.length / 128) : (secs img)[i]? = some (sect img i) := by simp [secs, List.getElem?_range h]
theorem secs_flat (img : Bytes) (h : img.length % 128 = 0) : (secs img).flatten = img := by
  have := flat_sects img 0 (img.length / 128) (by omega)
  simp only [Nat.zero_add, Nat.zero_mul, List.drop_zero] at this
  rw [secs, this, List.take_of_length_le (by omega)]
theorem secs_lay (img : Bytes) (q : List (Int × Bytes)) (hq : QOk img.length q) : (List.range (img.length / 128)).map (fun i => seeAt q (sect img i) i) = secs (lay img q) := by
  rw [secs, lay_length img q hq]
  exact List.map_congr_left fun i _ => (sect_lay q img i hq).symm
end Go.Proofs.YtaendhbiehknlaaGreatDoor

namespace Go.Proofs.YtaendhbiehknlaaGreatDoor
open Go.RowKit Go.Shelf Go.Proofs

theorem ba_ext {a b : ByteArray} (h : a.data.toList = b.data.toList) : a = b := by
  cases a; cases b
  simpa using h
theorem str_of (s : ByteArray) : str s.data.toList = s := ba_ext (str_data _)
theorem str_append (a b : Bytes) : str a ++ str b = str (a ++ b) := ByteArray.mk_append_mk a b
theorem str_extract (l : Bytes) (a b : Nat) : (str l).extract a b = str (cut l a (b - a)) := by
  apply ba_ext
  rw [Lib.extract_data, str_data, str_data, cut]
theorem str_beq (a b : Bytes) : ((str a).toList == (str b).toList) = (a == b) := by rw [str_toList, str_toList]
section
variable {P : Program}
theorem run_cut (w : World) (t : TypeId) (l : Bytes) (i j : Int) (hu : P.underlying t = some .string) (h0 : 0 ≤ i) (h1 : i ≤ j) (h2 : j ≤ l.length) : (Instr.slice t (.string (str l)) (some (.int .i64 i)) (some (.int .i64 j)) none).run P w = .ok (.string (str (cut l i.toNat (j.toNat - i.toNat)))) w := by
  rw [run_slice_string w t (str l) .i64 .i64 i j hu h0 h1 (by rw [str_size]; exact h2), str_extract]
theorem run_cut_head (w : World) (t : TypeId) (l : Bytes) (j : Int) (hu : P.underlying t = some .string) (h0 : 0 ≤ j) (h2 : j ≤ l.length) : (Instr.slice t (.string (str l)) none (some (.int .i64 j)) none).run P w = .ok (.string (str (l.take j.toNat))) w := by
  rw [run_slice_string_h w t (str l) hu .i64 j h0 (by rw [str_size]; exact h2), str_extract, Nat.sub_zero]
  rfl
theorem run_cut_tail (w : World) (t : TypeId) (l : Bytes) (i : Int) (hu : P.underlying t = some .string) (h0 : 0 ≤ i) (h2 : i ≤ l.length) : (Instr.slice t (.string (str l)) (some (.int .i64 i)) none none).run P w = .ok (.string (str (l.drop i.toNat))) w := by
  rw [run_slice_string_l w t (str l) hu .i64 i h0 (by rw [str_size]; exact h2), str_extract, str_size, cut, List.take_of_length_le (by rw [List.length_drop]; omega)]
/-- string of a row of one octet that was just made. -/
theorem run_str1 (w : World) (src e dst : TypeId) (c : UInt8) (hs : P.underlying src = some (.slice e)) (he : P.underlying e = some (.int .u8)) (hd : P.underlying dst = some .string) (t : TypeId) (fr : Nat × Nat) : (convert src dst (.slice (some ⟨w.heap.size, 0, none⟩) 1 1)).run P (w.alloc (.cells #[u8v c] t fr)) = .ok (.string (str [c])) (w.alloc (.cells #[u8v c] t fr)) := by
  have h := bs_row w #[u8v c] t fr [c] 1 (Nat.le_refl _) (by decide) (fun j u hu => by
    match j with
    | 0 => simpa [u8s] using hu
    | j + 1 => simp [u8s] at hu)
  exact run_str h hs he hd
end
/-- The cells of made octets. -/
def zrow (n : Nat) : Array Value := madeCells (Value.int .u8 0).cells n
theorem zrow_own (w : World) (n base : Nat) (hb : base ≤ w.heap.size) (hn : n ≤ 17592186044416) : (w.alloc (.cells (zrow n) 5)).ownsRow base 5 1 (.slice (some ⟨w.heap.size, 0, none⟩) n n) n (u8s (zeros n)) := by
  have h := World.ownsRow_lit w (madeCells (Value.int .u8 0).cells n) n (base := base) (e := 5) (size := 1) hb (by simp [maxLen]; omega) (by have := size_madeCells (Value.int .u8 0).cells n; omega)
  rw [u8s_zeros] at h
  exact h
theorem run_zrow (n : Nat) (hn : n ≤ 17592186044416) (w : World) : (Instr.makeSlice 23 (.int .i64 n) (.int .i64 n)).run Tryz.prog w = .ok (.slice (some ⟨w.heap.size, 0, none⟩) n n) (w.alloc (.cells (zrow n) 5)) := by
  obtain ⟨i0, hi, hz0, hz1, hz2⟩ := info_parts infoU8
  have hr := run_make (P := Tryz.prog) w 23 5 i0 (.int .u8 0) Tryz.underlying23 hi hz0 .i64 .i64 n n (by omega) (Int.le_refl _) (by rw [hz2]; omega) (by omega)
  rw [hz1] at hr
  simpa [zrow] using hr
theorem run_zstr (n : Nat) (hn : n ≤ 17592186044416) (w : World) : (convert 23 9 (.slice (some ⟨w.heap.size, 0, none⟩) n n)).run Tryz.prog (w.alloc (.cells (zrow n) 5)) = .ok (.string (str (zeros n))) (w.alloc (.cells (zrow n) 5)) := by
  have h := run_str (P := Tryz.prog) (Bs.own (zrow_own w n w.heap.size (Nat.le_refl _) hn)) Tryz.underlying23 Tryz.underlying5 Tryz.underlying9
  exact h
theorem run_zstrD (n : Nat) (hn : n ≤ 17592186044416) (w : World) : (convert 23 9 (.slice (some ⟨w.heap.size, 0, none⟩) n n)).run Tryz.prog (w.alloc (.cells (zrow n) 5)).drew = .ok (.string (str (zeros n))) (w.alloc (.cells (zrow n) 5)).drew := by
  have h := run_str (P := Tryz.prog) (Bs.own (own_pu (zrow_own w n w.heap.size (Nat.le_refl _) hn) (Fr.refl _ _).drew)) Tryz.underlying23 Tryz.underlying5 Tryz.underlying9
  exact h
theorem Rds.drew {w : World} {size : Nat} {A : Option Addr} {n : Nat} {xs : List Value} (h : Rds w size A n xs) : Rds w.drew size A n xs := h
end Go.Proofs.YtaendhbiehknlaaGreatDoor
