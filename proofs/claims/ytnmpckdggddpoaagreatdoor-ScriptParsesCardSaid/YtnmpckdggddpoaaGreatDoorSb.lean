/- script.number: what it reads. -/
import Derived.Test.YtnmpckdggddpoaaGreatDoorSa
import Derived.Test.YtnmpckdggddpoaaGreatDoorShelf
import Derived.Shelf.Strings.SlTrimAscii
import Derived.BigQuiet
import Derived.Lib.AtoiErrMem
namespace Go.Proofs.YtnmpckdggddpoaaGreatDoor
set_option linter.unusedSimpArgs false
set_option linter.unusedVariables false
open Go.RowKit Go.Shelf Go.Lib

def digs : List UInt8 := [48, 49, 50, 51, 52, 53, 54, 55, 56, 57]
theorem digs_has (b : UInt8) : digs.contains b = digB b := by
  rw [Bool.eq_iff_iff, digB_iff]
  simp only [digs, List.contains_iff_mem, List.mem_cons, List.not_mem_nil, or_false]
  constructor
  · rintro (h | h | h | h | h | h | h | h | h | h) <;> subst h <;> decide
  · intro h
    have e : ∀ n : UInt8, b.toNat = n.toNat → b = n := fun n hn => UInt8.toNat_inj.1 hn
    have : b.toNat = 48 ∨ b.toNat = 49 ∨ b.toNat = 50 ∨ b.toNat = 51 ∨ b.toNat = 52 ∨ b.toNat = 53 ∨ b.toNat = 54 ∨ b.toNat = 55 ∨ b.toNat = 56 ∨ b.toNat = 57 := by omega
    rcases this with h | h | h | h | h | h | h | h | h | h
    · exact .inl (e 48 h)
    · exact .inr (.inl (e 49 h))
    · exact .inr (.inr (.inl (e 50 h)))
    · exact .inr (.inr (.inr (.inl (e 51 h))))
    · exact .inr (.inr (.inr (.inr (.inl (e 52 h)))))
    · exact .inr (.inr (.inr (.inr (.inr (.inl (e 53 h))))))
    · exact .inr (.inr (.inr (.inr (.inr (.inr (.inl (e 54 h)))))))
    · exact .inr (.inr (.inr (.inr (.inr (.inr (.inr (.inl (e 55 h))))))))
    · exact .inr (.inr (.inr (.inr (.inr (.inr (.inr (.inr (.inl (e 56 h)))))))))
    · exact .inr (.inr (.inr (.inr (.inr (.inr (.inr (.inr (.inr (e 57 h)))))))))

theorem dropW_nil (p : UInt8 → Bool) (l : List UInt8) : l.dropWhile p = [] ↔ ∀ b ∈ l, p b = true := by
  induction l with
  | nil => simp
  | cons c l ih =>
    rw [List.dropWhile_cons]
    by_cases h : p c = true
    · rw [if_pos h, ih]; simp [h]
    · rw [if_neg h]; simp [h]
theorem dropW_last (p : UInt8 → Bool) (l : List UInt8) (h : l.dropWhile p ≠ []) : ∃ b ∈ l.dropWhile p, p b = false := by
  induction l with
  | nil => exact absurd rfl h
  | cons c l ih =>
    rw [List.dropWhile_cons] at h ⊢
    by_cases hc : p c = true
    · rw [if_pos hc] at h ⊢; exact ih h
    · rw [if_neg hc]; exact ⟨c, List.mem_cons_self, by simpa using hc⟩
theorem trimS_nil (l cs : List UInt8) : Lib.trimS l cs = [] ↔ ∀ b ∈ l, cs.contains b = true := by
  unfold Lib.trimS Lib.trimLeftS
  rw [dropW_nil]
  unfold Lib.trimRightS
  constructor
  · intro h
    by_cases hn : (l.reverse.dropWhile (cs.contains ·)) = []
    · have := (dropW_nil _ _).1 hn
      exact fun b hb => this b (by simpa using hb)
    · obtain ⟨b, hb, hbf⟩ := dropW_last _ _ hn
      have := h b (by simpa using hb)
      rw [hbf] at this
      cases this
  · intro h b hb
    rw [List.mem_reverse] at hb
    exact h b (by simpa using (List.dropWhile_suffix _).subset hb)

theorem numB_none {l : List UInt8} (h : l = [] ∨ 18 < l.length ∨ l.all digB = false ∨ (l.head? = some 48 ∧ 1 < l.length)) : numB l = none := by unfold numB; rw [if_pos h]
theorem numB_some {l : List UInt8} (h : ¬ (l = [] ∨ 18 < l.length ∨ l.all digB = false ∨ (l.head? = some 48 ∧ 1 < l.length))) : numB l = some (numV 0 l) := by unfold numB; rw [if_neg h]

theorem below_drewN {B : Nat} {w w' : World} (h : Below B w w') (n : Nat) : Below B w (w'.drewN n) := ⟨h.1, h.2, h.3, h.4, h.5⟩
theorem byte_at {s : ByteArray} {k : Nat} {c : UInt8} (h : s.data.toList[k]? = some c) : ∀ h' : k < s.size, s[k]'h' = c := fun h' => by
  obtain ⟨⟨l⟩⟩ := s
  obtain ⟨_, e⟩ := List.getElem?_eq_some_iff.1 h
  exact e
theorem ne_empty {s : ByteArray} (h : s.data.toList ≠ []) : s.toList.isEmpty = false := by rw [ByteArray.toList_eq]; cases hl : s.data.toList with | nil => exact absurd hl h | cons _ _ => rfl
theorem is_empty {s : ByteArray} (h : s.data.toList = []) : s.toList.isEmpty = true := by rw [ByteArray.toList_eq, h]; rfl

set_option maxHeartbeats 2000000 in
theorem sc_number (s : ByteArray) (w : World) (hs : s.size ≤ 9223372036854775806) :
    Calls Tryz.prog 28 #[.string s] w fun e w' => e = .returned (.tuple #[.int .i64 ((numB s.data.toList).getD 0 : Nat), .bool (numB s.data.toList).isSome]) ∧ Below w.heap.size w w' := by
  have hcon := Any.strings_Trim_laid Tryz.lays160 (by kernel_rfl) s ⟨#[48, 49, 50, 51, 52, 53, 54, 55, 56, 57]⟩ w (by omega) (by decide) (ascii_of_all (by decide))
  change Calls Tryz.prog 54 _ _ (fun e w' => e = .returned (.string ⟨(Lib.trimS s.data.toList digs).toArray⟩) ∧ Below w.heap.size w w') at hcon
  obtain ⟨r, hr⟩ : ∃ r, Hid ((⟨(Lib.trimS s.data.toList digs).toArray⟩ : ByteArray) = r) := ⟨_, rfl⟩
  rw [hr.out] at hcon
  have hL : s.data.toList.length = s.size := Array.length_toList
  by_cases h0 : s.data.toList = []
  · rw [numB_none (.inl h0)]
    clear hcon hr
    have he : s.toList.isEmpty = true := is_empty h0
    go_enter Tryz.func28, Tryz.ntmps28
    go_wp2_with (fail)
    go_ret2
    exact ⟨rfl, Below.refl _ _⟩
  have h0' : s.toList.isEmpty = false := ne_empty h0
  by_cases h18 : 18 < s.size
  · rw [numB_none (.inr (.inl (by omega)))]
    clear hcon hr
    have he : (18 : Int) < (s.size : Int) := by omega
    go_enter Tryz.func28, Tryz.ntmps28
    go_wp2_with (fail)
    go_ret2
    exact ⟨rfl, Below.refl _ _⟩
  have h18' : ¬ (18 : Int) < (s.size : Int) := by omega
  have hrl : r.data.toList = Lib.trimS s.data.toList digs := by rw [← hr.out]
  by_cases hd : ¬ s.data.toList.all digB = true
  · rw [numB_none (.inr (.inr (.inl (by simpa using hd))))]
    have hr0 : r.toList.isEmpty = false := ne_empty (by
      rw [hrl]
      intro h
      rw [trimS_nil] at h
      exact hd (List.all_eq_true.2 fun b hb => by rw [← digs_has]; exact h b hb))
    clear hr hrl
    go_enter Tryz.func28, Tryz.ntmps28
    go_wp2_with (go_at_call 54; refine hcon.mono ?_; rintro e w' ⟨rfl, hB⟩)
    go_ret2
    exact ⟨rfl, hB⟩
  rw [Classical.not_not] at hd
  have hr0 : r.toList.isEmpty = true := is_empty (by
    rw [hrl, trimS_nil]
    intro b hb
    rw [digs_has]
    exact List.all_eq_true.1 hd b hb)
  clear hr hrl
  obtain ⟨c, hc⟩ : ∃ c, s.data.toList[0]? = some c := ⟨_, List.getElem?_eq_getElem (by cases hl : s.data.toList with | nil => exact absurd hl h0 | cons _ _ => simp)⟩
  have hb := byte_at hc
  have hpos : 0 < s.size := by rw [← hL]; exact (List.getElem?_eq_some_iff.1 hc).1
  have hpos' : (0 : Int) < (s.size : Int) := by omega
  obtain ⟨hp1, hp2⟩ := int_dig s.data.toList (List.all_eq_true.1 hd) h0 (by omega)
  have hP := fun w => Tryz.strconv_ParseInt_10_at64_ok s hs _ hp1 w
  have hhd : s.data.toList.head? = some c := by rw [List.head?_eq_getElem?]; exact hc
  by_cases h48 : c = 48
  · subst h48
    by_cases h1 : 1 < s.size
    · rw [numB_none (.inr (.inr (.inr ⟨hhd, by omega⟩)))]
      have h1' : (1 : Int) < (s.size : Int) := by omega
      clear hP hp1 hp2
      go_enter Tryz.func28, Tryz.ntmps28
      go_wp2_with (go_at_call 54; refine hcon.mono ?_; rintro e w' ⟨rfl, hB⟩)
      go_ret2
      exact ⟨rfl, hB⟩
    · rw [numB_some (by rintro (h | h | h | h); exact h0 h; omega; rw [hd] at h; cases h; have := h.2; omega)]
      have h1' : ¬ (1 : Int) < (s.size : Int) := by omega
      have HP := Lib.hid hP
      generalize numV 0 s.data.toList = q at *
      clear hP hp1 hp2
      go_enter Tryz.func28, Tryz.ntmps28
      go_wp2_with (first | (go_at_call 54; refine hcon.mono ?_; rintro e w' ⟨rfl, hB⟩) | (go_at_call 55; refine (HP.out _).mono ?_; rintro e w2 ⟨rfl, hB2⟩))
      go_quiet (fail)
      go_wp2
      go_ret2
      refine ⟨rfl, ?_⟩
      rcases hB2 with rfl | ⟨t, rfl⟩
      · exact below_drewN hB _
      · exact below_drewN (hB.trans ((Lib.bytesWorld_below _ _ _).mono hB.size)) _
  · have h48' : ((c.toNat : Int) == 48) = false := by rw [beq_eq_false_iff_ne]; intro h; exact h48 (UInt8.toNat_inj.1 (by show c.toNat = 48; omega))
    rw [numB_some (by rintro (h | h | h | h); exact h0 h; omega; rw [hd] at h; cases h; rw [hhd] at h; exact h48 (Option.some.inj h.1))]
    have HP := Lib.hid hP
    generalize numV 0 s.data.toList = q at *
    clear hP hp1 hp2
    go_enter Tryz.func28, Tryz.ntmps28
    go_wp2_with (first | (go_at_call 54; refine hcon.mono ?_; rintro e w' ⟨rfl, hB⟩) | (go_at_call 55; refine (HP.out _).mono ?_; rintro e w2 ⟨rfl, hB2⟩))
    go_quiet (fail)
    go_wp2
    go_ret2
    refine ⟨rfl, ?_⟩
    rcases hB2 with rfl | ⟨t, rfl⟩
    · exact below_drewN hB _
    · exact below_drewN (hB.trans ((Lib.bytesWorld_below _ _ _).mono hB.size)) _

end Go.Proofs.YtnmpckdggddpoaaGreatDoor
