/- What is proved here, of the given program: Octets as strings; bytes.Equal, bytes.Clone, bytes.HasPrefix; slices.Grow of nil, slices.Concat. -/
import Derived.Test.YtaendhbiehknlaaGreatDoorU03
import Derived.Laws.BytesArg
import Derived.Lib.AppendZeros
set_option linter.unusedVariables false
set_option linter.unusedSimpArgs false
set_option linter.constructorNameAsVariable false
namespace Go.Proofs.YtaendhbiehknlaaGreatDoor
open Go.RowKit Go.Proofs

def str (l : Bytes) : ByteArray := ⟨l.toArray⟩
theorem str_size (l : Bytes) : (str l).size = l.length := by simp [str, ByteArray.size]
theorem str_data (l : Bytes) : (str l).data.toList = l := by simp [str]
theorem bytes_toList (b : ByteArray) : b.toList = b.data.toList := by
  suffices h : ∀ (n i : Nat) (r : List UInt8), b.size - i = n → ByteArray.toList.loop b i r = r.reverse ++ b.data.toList.drop i from h _ 0 [] rfl
  intro n
  induction n with
  | zero =>
    intro i r hn
    unfold ByteArray.toList.loop
    have hs : b.data.toList.length = b.size := by rw [Array.length_toList]; rfl
    rw [if_neg (by omega), List.drop_eq_nil_of_le (by omega), List.append_nil]
  | succ n ih =>
    intro i r hn
    unfold ByteArray.toList.loop
    have hs : b.data.toList.length = b.size := by rw [Array.length_toList]; rfl
    have hlt : i < b.data.toList.length := by omega
    have hg : b.get! i = b.data.toList[i] := by
      have h2 : i < b.data.size := by simpa using hlt
      rw [Array.getElem_toList]
      exact getElem!_pos b.data i h2
    rw [if_pos (by omega), ih (i + 1) _ (by omega), List.drop_eq_getElem_cons hlt, hg]
    simp only [List.reverse_cons, List.append_assoc, List.singleton_append]
theorem str_toList (l : Bytes) : (str l).toList = l := by rw [bytes_toList, str_data]
theorem str_inj {a b : Bytes} (h : str a = str b) : a = b := by rw [← str_toList a, h, str_toList]
theorem run_str {P : Program} {S : Nat → Prop} {w : World} {v : Value} {l : Bytes} (h : Bs S w v l) {src e dst : TypeId} (hs : P.underlying src = some (.slice e)) (he : P.underlying e = some (.int .u8)) (hd : P.underlying dst = some .string) :
    (convert src dst v).run P w = .ok (.string (str l)) w := by
  obtain ⟨A, c, rfl, -, -⟩ := h.shape
  by_cases hl : l = []
  · subst hl
    rcases A with _ | ⟨b, o, s⟩
    · rw [run_convert_bytes_nil w src e hs he _ _ dst hd]; rfl
    · rw [run_convert_bytes_string w src dst e _ _ _ hs he hd]
      simp [Conv.bytesToString, loadCells, loadCellsFrom]
      rfl
  · obtain ⟨b, o, rfl, _, _, hc⟩ := h.cells hl
    rw [run_convert_bytes_arg w src e hs he b o l.length c (l.map fun c => (c.toNat : Int)) (by simp) (fun i hi => ?_) dst hd]
    · have h9 : l.map ((fun n : Int => UInt8.ofNat n.toNat) ∘ fun c : UInt8 => (c.toNat : Int)) = l := by
        conv => rhs; rw [← List.map_id l]
        exact List.map_congr_left (fun c _ => by simp)
      simp only [strOfNums, str, List.map_map, h9]
    · refine hc i _ ?_
      simp [u8s, u8v, List.getD, List.getElem?_eq_getElem hi]
theorem bytesEqual (v1 v2 : Value) (a b : Bytes) (S S' : Nat → Prop) (w : World) (h1 : Bs S w v1 a) (h2 : Bs S' w v2 b) :
    Calls Tryz.prog 189 #[v1, v2] w fun e w' => e = .returned (.bool (a == b)) ∧ w = w' := by
  have e1 := run_str (P := Tryz.prog) h1 Tryz.underlying23 Tryz.underlying5 Tryz.underlying9
  have e2 := run_str (P := Tryz.prog) h2 Tryz.underlying23 Tryz.underlying5 Tryz.underlying9
  clear h1 h2
  go_enter Tryz.func189, Tryz.ntmps189
  go_wp2
  go_ret
  have h : ((str a).toList == (str b).toList) = (a == b) := by rw [str_toList, str_toList]
  rw [← h]
  exact ⟨rfl, rfl⟩
set_option maxRecDepth 100000 in
theorem bytesClone (v : Value) (l : Bytes) (S : Nat → Prop) (w : World) (hv : Bs S w v l) (hl : l.length ≤ 17592186044416) :
    Calls Tryz.prog 242 #[v] w fun e w' => ∃ v', e = .returned v' ∧ w'.ownsRow w.heap.size 5 1 v' l.length (u8s l) ∧ Pu w w' := by
  obtain ⟨A2, n2, rfl, -, -, -⟩ := id hv
  have Hv := Lib.hid hv
  clear hv
  cases A2 with
  | none =>
    have he := fun (wx : World) => Lib.run_eql_slice_nil (P := Tryz.prog) wx 23 5 none l.length n2 0 0 Tryz.underlying23
    go_enter Tryz.func242, Tryz.ntmps242
    go_wp2
    go_ret
    have hl : l = [] := by
      obtain ⟨A, c, e, _, _, h3⟩ := Hv.out
      injection e with e1
      subst e1
      rcases l with _ | ⟨x, r⟩
      · rfl
      · obtain ⟨b, o, h, _⟩ := h3 (by simp)
        cases h
    subst hl
    exact ⟨_, rfl, World.ownsRow_nil _ _ _ _, Fr.refl _ _⟩
  | some ad =>
    have he := fun (wx : World) => Lib.run_eql_slice_nil (P := Tryz.prog) wx 23 5 (some ad) l.length n2 0 0 Tryz.underlying23
    have Hown : Hid ((w.alloc (.cells #[] 5)).ownsRow w.heap.size 5 1 (.slice (some ⟨w.heap.size, 0, none⟩) 0 0) 0 []) := World.ownsRow_made w #[] 0 (Nat.le_refl _) (by simp [maxLen]) (by simp)
    have Hr : Hid (Rds (w.alloc (.cells #[] 5)) 1 (some ad) l.length (u8s l)) := Bs.rds (Hv.out.pu ((Fr.refl _ _).alloc _))
    go_enter Tryz.func242, Tryz.ntmps242
    go_wp2_with (at_builtin; refine wpList_append_any _ rfl (.tmp 5) (.tmp 6) 23 rfl w.heap.size 5 (.int .u8 0) 1 1 Tryz.underlying23 infoU8 rfl (by decide) (.slice (some ⟨w.heap.size, 0, none⟩) 0 0) 0 [] rfl Hown.out (some ad) l.length n2 (u8s l) rfl Hr.out (u8s_one l) (by omega) (by simp) ?_; intro v1 w1 hown hgrow hat)
    go_ret
    exact ⟨_, rfl, by simpa using hown, ((Fr.refl _ _).alloc _).grown hgrow (fun k hk e => by simp [Value.ownBlock] at e; omega)⟩
theorem bytesHasPrefix (v1 v2 : Value) (a b : Bytes) (S S' : Nat → Prop) (w : World) (h1 : Bs S w v1 a) (h2 : Bs S' w v2 b) :
    Calls Tryz.prog 330 #[v1, v2] w fun e w' => e = .returned (.bool (b.isPrefixOf a)) ∧ w = w' := by
  obtain ⟨A1, c1, rfl, hc1, hm1⟩ := h1.shape
  obtain ⟨A2, c2, rfl, hc2, hm2⟩ := h2.shape
  by_cases hl : b.length ≤ a.length
  · have h3 := Bs.take (k := b.length) (c' := c1) h1 hl (by omega) hm1
    have H2 := Lib.hid h2
    have H3 := Lib.hid h3
    clear h1 h2 h3
    go_enter Tryz.func330, Tryz.ntmps330
    go_wp2_with fail
    refine (bytesEqual _ _ _ _ _ _ w H3.out H2.out).mono ?_
    rintro e w' ⟨rfl, rfl⟩
    go_wp2
    go_ret
    have h : b.isPrefixOf a = (a.take b.length == b) := by
      rw [Bool.eq_iff_iff, List.isPrefixOf_iff_prefix, List.prefix_iff_eq_take, beq_iff_eq]
      exact eq_comm
    rw [h]
    exact ⟨rfl, rfl⟩
  · clear h1 h2
    go_enter Tryz.func330, Tryz.ntmps330
    go_wp2
    go_ret
    have h : b.isPrefixOf a = false := by
      rw [Bool.eq_false_iff]
      intro h
      have := (List.isPrefixOf_iff_prefix.1 h).length_le
      omega
    rw [h]
    exact ⟨rfl, rfl⟩

set_option maxRecDepth 100000 in
/-- slices.Grow of nil: room for n. -/
theorem growNil (n : Nat) (w : World) (hn : n ≤ 17592186044416) :
    Calls Tryz.prog 304 #[.slice none 0 0, .int .i64 n] w fun e w' => ∃ v', e = .returned v' ∧ w'.ownsRow w.heap.size 5 1 v' 0 [] ∧ Pu w w' := by
  by_cases h0 : 0 < n
  · obtain ⟨i0, hi, hz0, hz1, hz2⟩ := info_parts infoU8
    have hr := fun ty => Lib.run_append_nil_zeros (P := Tryz.prog) w 23 3 ty 5 i0 (.int .u8 0) .i64 .i64 Tryz.underlying23 Tryz.underlying3 hi hz0 n h0 (by omega) (by omega) (by rw [hz2]; omega)
    have hge := grownCap_ge w n 0 5
    have hle := grownCap_le_maxLen w n 0 5 (by simp [maxLen]; omega)
    have hle : grownCap w n 0 5 ≤ 9223372036854775807 := by simpa [maxLen] using hle
    generalize grownCap w n 0 5 = cap at *
    have Hr := Lib.hid hr
    clear hr
    go_enter Tryz.func304, Tryz.ntmps304
    go_wp2_with (at_builtin; (refine Lib.wpList_append_run _ rfl (.tmp 20) (.tmp 21) 23 3 rfl (.slice none 0 0) (.int .i64 n) rfl rfl _ _ (Hr.out _) ?_))
    all_goals
      go_ret
      exact ⟨_, rfl, World.ownsRow_made w.drew _ cap (Nat.le_refl _) (by simpa [maxLen] using hle) (by simp [Builtin.zeroCells, Value.cells]; omega), (Fr.refl _ _).drew.alloc _⟩
  · obtain rfl : n = 0 := by omega
    go_enter Tryz.func304, Tryz.ntmps304
    go_wp2
    go_ret
    exact ⟨_, rfl, World.ownsRow_nil _ _ _ _, Fr.refl _ _⟩
end Go.Proofs.YtaendhbiehknlaaGreatDoor
