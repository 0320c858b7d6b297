/- What the rows lay for all walks; word.Parse and the lexer's number, loosely. -/
import Derived.Test.YtnmpckdggddpoaaGreatDoorSq
import Derived.Test.YtnmpckdggddpoaaGreatDoorWd
import Derived.Lib.AppendIntMem
namespace Go.Proofs.YtnmpckdggddpoaaGreatDoor
set_option linter.unusedSimpArgs false
set_option linter.unusedVariables false
open Go.RowKit Go.Shelf Go.Lib

/-- What was laid below B when the program began. -/
structure Env (B : Nat) (w : World) : Prop where
  le : B ≤ w.heap.size
  nine : 9 ≤ B
  ml : ∃ m, w.cell? ⟨0, 0, none⟩ = some (.int .i64 m)
  es : ∃ ev, w.cell? ⟨2, 0, none⟩ = some ev ∧ (ev = .nilIface ∨ ∃ te pe, ev = .iface te pe)
  er : ∃ ev, w.cell? ⟨3, 0, none⟩ = some ev ∧ (ev = .nilIface ∨ ∃ te pe, ev = .iface te pe)
  sp : Lib.TabBelow Tryz.prog B w "strings.asciiSpace" .u8 Lib.asciiSpaceTab
  p10 : Lib.TabBelow Tryz.prog B w "internal/strconv.uint64pow10" .u64 Lib.pow10Tab
theorem Env.on {B : Nat} {w w' : World} (h : Env B w) (hb : Below B w w') : Env B w' := by
  have h9 := h.nine
  obtain ⟨m, hm⟩ := h.ml
  obtain ⟨es, h1, h2⟩ := h.es
  obtain ⟨er, h3, h4⟩ := h.er
  have c0 : (0 : Nat) < B := by omega
  have c1 : (2 : Nat) < B := by omega
  have c2 : (3 : Nat) < B := by omega
  exact ⟨Nat.le_trans h.le hb.size, h9, ⟨m, (hb.cell c0).trans hm⟩, ⟨es, (hb.cell c1).trans h1, h2⟩, ⟨er, (hb.cell c2).trans h3, h4⟩, h.sp.on hb, h.p10.on hb⟩
theorem Env.fr {B : Nat} {w w' : World} {F : List Nat} (h : Env B w) (hf : Fr F w w') (hF : ∀ k ∈ F, B ≤ k) : Env B w' := h.on (hf.below h.le hF)
theorem Env.drewN {B : Nat} {w : World} (h : Env B w) (n : Nat) : Env B (w.drewN n) := h.on (below_drewN (Below.refl B w) n)
theorem fr_of_below {F : List Nat} {w w' : World} (h : Below w.heap.size w w') : Fr F w w' := ⟨h.os, h.tape, h.output, h.size, fun k hk _ => h.block k hk⟩
theorem blk_below {w w' : World} {b : Nat} {c : List Value} {t : TypeId} (h : Blk w b c t) (hb : Below w.heap.size w w') : Blk w' b c t := h.go (hb.block b h.lt)

theorem ns_wInt_in (n : Int) : U64 (wInt n) := by unfold U64 wInt; omega

set_option maxRecDepth 100000 in
set_option maxHeartbeats 4000000 in
/-- word.Parse at what begins with a digit: it answers. -/
theorem word_Parse_any (s : ByteArray) (hs : s.size ≤ 4096) (c : UInt8) (hc : s.data.toList[0]? = some c) (hd : 48 ≤ c.toNat ∧ c.toNat ≤ 57) (B : Nat) (w : World) (hE : Env B w) :
    Calls Tryz.prog 197 #[.string s] w fun e w' => ∃ x er : Int, e = .returned (.tuple #[.int .u64 x, .int .i64 er]) ∧ U64 x ∧ Below w.heap.size w w' := by
  have hC := Tryz.strings_CutPrefix s ⟨#[45]⟩ w
  have hl0 : ∃ r, s.data.toList = c :: r := by
    cases hl : s.data.toList with
    | nil => rw [hl] at hc; cases hc
    | cons x r => rw [hl] at hc; cases hc; exact ⟨r, rfl⟩
  obtain ⟨l0, hl0⟩ := hl0
  have hnp : Lib.hasPrefix s.data.toList (⟨#[45]⟩ : ByteArray).data.toList = false := by
    rw [hl0]
    show (45 == c && ([] : List UInt8).isPrefixOf l0) = false
    have : (45 == c) = false := by rw [beq_eq_false_iff_ne]; rintro rfl; revert hd; decide
    rw [this]; rfl
  have htp : (⟨(Lib.trimPrefix s.data.toList (⟨#[45]⟩ : ByteArray).data.toList).toArray⟩ : ByteArray) = s := by
    unfold Lib.trimPrefix
    rw [hnp]
    rfl
  rw [hnp, htp] at hC
  have hT := fun w => Any.strings_Trim_laid Tryz.lays160 (by kernel_rfl) s ⟨#[48, 49, 50, 51, 52, 53, 54, 55, 56, 57]⟩ w (by omega) (by decide) (ascii_of_all (by decide))
  change ∀ w, Calls Tryz.prog 54 _ _ (fun e w' => e = .returned (.string ⟨(Lib.trimS s.data.toList digs).toArray⟩) ∧ Below w.heap.size w w') at hT
  obtain ⟨r, hr⟩ : ∃ r, Hid ((⟨(Lib.trimS s.data.toList digs).toArray⟩ : ByteArray) = r) := ⟨_, rfl⟩
  rw [hr.out] at hT
  have hb := byte_at hc
  have hpos : 0 < s.size := by rw [← size_toList]; exact (List.getElem?_eq_some_iff.1 hc).1
  have hpos' : (0 : Int) < (s.size : Int) := by omega
  have he : s.toList.isEmpty = false := ne_empty (by rw [hl0]; simp)
  have HE := Lib.hid hE
  have HT := Lib.hid hT
  have HC := Lib.hid hC
  clear hE hT hC hnp htp hr
  have hno : ∀ er : Int, U64 0 := fun _ => by unfold U64; omega
  have u0 : U64 0 := hno 0
  clear hno
  cases hre : r.toList.isEmpty
  · go_enter Tryz.func197, Tryz.ntmps197
    go_wp2_with (first | (go_at_call 234; refine HC.out.mono ?_; rintro e w' ⟨rfl, rfl⟩) | (go_at_call 54; refine (HT.out _).mono ?_; rintro e w' ⟨rfl, hB⟩))
    go_ret2
    exact ⟨_, _, rfl, u0, hB⟩
  have h48 : c = 48 ∨ ((c.toNat : Int) == 48) = false := by
    by_cases h : c = 48
    · exact .inl h
    · exact .inr (bne8 c 48 h (by decide))
  have hparse : ∀ w' : World, Below w.heap.size w w' → Calls Tryz.prog 235 #[.string s, .int .i64 10, .int .i64 64] w' fun e w2 => ∃ (u : Nat) (x : Value), e = .returned (.tuple #[.int .u64 u, x]) ∧ (x = .nilIface ∨ ∃ te pe, x = .iface te pe) ∧ Below w'.heap.size w' w2 := fun w' hb' => by
    have hE' := HE.out.on (hb'.mono HE.out.le)
    cases hp : Lib.parseUintB 64 s.data.toList with
    | ok u =>
      refine (Tryz.strconv_ParseUint_10_at64_ok s (by omega) u hp w').mono ?_
      rintro e w2 ⟨rfl, hw⟩
      refine ⟨u, _, rfl, .inl rfl, ?_⟩
      rcases hw with rfl | rfl
      · exact Below.refl _ _
      · exact Lib.bytesWorld_below _ _ _
    | range =>
      obtain ⟨ev, h1, h2⟩ := hE'.er
      refine (Tryz.strconv_ParseUint_10_at64_range s (by omega) hp ev w' h1 h2).mono ?_
      rintro e w2 ⟨N, rfl, _, _, hB⟩
      exact ⟨18446744073709551615, _, rfl, .inr ⟨_, _, rfl⟩, hB⟩
    | _ =>
      obtain ⟨ev, h1, h2⟩ := hE'.es
      refine (Tryz.strconv_ParseUint_10_at64_syntax s (by omega) hp ev w' h1 h2).mono ?_
      rintro e w2 ⟨N, rfl, _, _, hB⟩
      exact ⟨0, _, rfl, .inr ⟨_, _, rfl⟩, hB⟩
  have HP := Lib.hid hparse
  clear hparse
  by_cases h1 : (1 : Int) < (s.size : Int)
  · rcases h48 with rfl | h48
    · go_enter Tryz.func197, Tryz.ntmps197
      go_wp2_with (first | (go_at_call 234; refine HC.out.mono ?_; rintro e w' ⟨rfl, rfl⟩) | (go_at_call 54; refine (HT.out _).mono ?_; rintro e w' ⟨rfl, hB⟩))
      go_ret2
      exact ⟨_, _, rfl, u0, hB⟩
    · skip
      go_enter Tryz.func197, Tryz.ntmps197
      go_wp2_with (first | (go_at_call 234; refine HC.out.mono ?_; rintro e w' ⟨rfl, rfl⟩) | (go_at_call 54; refine (HT.out _).mono ?_; rintro e w' ⟨rfl, hB⟩))
      refine (HP.out _ hB).mono ?_
      rintro e w2 ⟨u, x, rfl, hx, hB2⟩
      rcases hx with rfl | ⟨te, pe, rfl⟩
      · by_cases hu1 : (4611686018427387904 : Int) < (u : Int)
        · go_wp2_with (fail)
          go_ret2
          exact ⟨_, _, rfl, u0, hB.trans (hB2.mono hB.size)⟩
        · by_cases hu2 : ((u : Int) == 4611686018427387904) = true
          · go_wp2_with (fail)
            go_ret2
            exact ⟨_, _, rfl, u0, hB.trans (hB2.mono hB.size)⟩
          · rw [Bool.not_eq_true] at hu2
            go_wp2_with (go_at_call 40; with_reducible refine Calls.mono (word_Int _ _) ?_; rintro e w' ⟨rfl, rfl⟩)
            go_ret2
            exact ⟨_, _, rfl, ns_wInt_in _, hB.trans (hB2.mono hB.size)⟩
      · go_wp2_with (fail)
        go_ret2
        exact ⟨_, _, rfl, u0, hB.trans (hB2.mono hB.size)⟩
  · rcases h48 with rfl | h48
    · skip
      go_enter Tryz.func197, Tryz.ntmps197
      go_wp2_with (first | (go_at_call 234; refine HC.out.mono ?_; rintro e w' ⟨rfl, rfl⟩) | (go_at_call 54; refine (HT.out _).mono ?_; rintro e w' ⟨rfl, hB⟩))
      refine (HP.out _ hB).mono ?_
      rintro e w2 ⟨u, x, rfl, hx, hB2⟩
      rcases hx with rfl | ⟨te, pe, rfl⟩
      · by_cases hu1 : (4611686018427387904 : Int) < (u : Int)
        · go_wp2_with (fail)
          go_ret2
          exact ⟨_, _, rfl, u0, hB.trans (hB2.mono hB.size)⟩
        · by_cases hu2 : ((u : Int) == 4611686018427387904) = true
          · go_wp2_with (fail)
            go_ret2
            exact ⟨_, _, rfl, u0, hB.trans (hB2.mono hB.size)⟩
          · rw [Bool.not_eq_true] at hu2
            go_wp2_with (go_at_call 40; with_reducible refine Calls.mono (word_Int _ _) ?_; rintro e w' ⟨rfl, rfl⟩)
            go_ret2
            exact ⟨_, _, rfl, ns_wInt_in _, hB.trans (hB2.mono hB.size)⟩
      · go_wp2_with (fail)
        go_ret2
        exact ⟨_, _, rfl, u0, hB.trans (hB2.mono hB.size)⟩
    · skip
      go_enter Tryz.func197, Tryz.ntmps197
      go_wp2_with (first | (go_at_call 234; refine HC.out.mono ?_; rintro e w' ⟨rfl, rfl⟩) | (go_at_call 54; refine (HT.out _).mono ?_; rintro e w' ⟨rfl, hB⟩))
      refine (HP.out _ hB).mono ?_
      rintro e w2 ⟨u, x, rfl, hx, hB2⟩
      rcases hx with rfl | ⟨te, pe, rfl⟩
      · by_cases hu1 : (4611686018427387904 : Int) < (u : Int)
        · go_wp2_with (fail)
          go_ret2
          exact ⟨_, _, rfl, u0, hB.trans (hB2.mono hB.size)⟩
        · by_cases hu2 : ((u : Int) == 4611686018427387904) = true
          · go_wp2_with (fail)
            go_ret2
            exact ⟨_, _, rfl, u0, hB.trans (hB2.mono hB.size)⟩
          · rw [Bool.not_eq_true] at hu2
            go_wp2_with (go_at_call 40; with_reducible refine Calls.mono (word_Int _ _) ?_; rintro e w' ⟨rfl, rfl⟩)
            go_ret2
            exact ⟨_, _, rfl, ns_wInt_in _, hB.trans (hB2.mono hB.size)⟩
      · go_wp2_with (fail)
        go_ret2
        exact ⟨_, _, rfl, u0, hB.trans (hB2.mono hB.size)⟩

theorem inName_digit (c : UInt8) (hd : 48 ≤ c.toNat ∧ c.toNat ≤ 57) : inNameB (c.toNat : Int) = true := by
  unfold inNameB
  have : digitB (c.toNat : Int) = true := by unfold digitB; simp; omega
  rw [this]; simp

set_option maxRecDepth 100000 in
set_option maxHeartbeats 4000000 in
theorem lx_number (b : Nat) (s : ByteArray) (k : Nat) (out : Value) (B : Nat) (w : World) (hE : Env B w) (hBb : B ≤ b) (h : Rd w b s k out) (hs : s.size ≤ 4096) (c : UInt8) (hc : s.data.toList[k]? = some c) (hd : 48 ≤ c.toNat ∧ c.toNat ≤ 57) :
    Calls Tryz.prog 211 #[.pointer (some ⟨b, 0, none⟩)] w fun e w' =>
      (∃ (j : Nat) (n : Int), e = .returned (.int .i64 n) ∧ k < j ∧ j ≤ s.size ∧ Rd w' b s j out ∧ Fr [b] w w') ∨ (∃ er at_ : Int, e = flt er at_ ∧ Fr [b] w w') := by
  have hk : k < s.size := by rw [← size_toList]; exact (List.getElem?_eq_some_iff.1 hc).1
  have HR := Lib.hid (lx_run b s k out w h (by omega) hs)
  have cb := h.cell
  have HE := Lib.hid hE
  have HC := Lib.hid hc
  clear h hE hc
  go_enter Tryz.func211, Tryz.ntmps211
  go_wp2_with (fail)
  refine HR.out.mono ?_
  rintro e w1 ⟨j, rfl, hkj, hjs, hin, hR1, hU1⟩
  have hlt := hin c HC.out (inName_digit c hd)
  have hx0 : (s.extract k j).data.toList[0]? = some c := by
    obtain ⟨⟨l⟩⟩ := s
    rw [ByteArray.extract_mk]
    show ((l.drop k).take (j - k))[0]? = some c
    rw [List.getElem?_take, if_pos (by omega), List.getElem?_drop, Nat.add_zero]
    exact HC.out
  have hxs : (s.extract k j).size ≤ 4096 := by rw [ByteArray.size_extract]; omega
  have HP := Lib.hid (word_Parse_any (s.extract k j) hxs c hx0 hd B w1 (HE.out.fr hU1.fr (by intro q hq; simp at hq; omega)))
  have HR1 := Lib.hid hR1
  have HU1 := Lib.hid hU1
  clear hR1 hU1 hin hx0 hxs cb
  go_wp2_with (fail)
  refine HP.out.mono ?_
  rintro e w2 ⟨x, er, rfl, hx, hB2⟩
  have HR2 := Lib.hid (blk_below HR1.out hB2)
  have HF := Lib.hid (HU1.out.fr.then (fr_of_below (F := [b]) hB2))
  clear hB2
  by_cases h0 : (er == 0) = true
  · go_wp2_with (go_at_call 103; with_reducible refine Calls.mono (word_Num _ hx _) ?_; rintro e w' ⟨rfl, rfl⟩)
    go_ret
    exact .inl ⟨j, _, rfl, hlt, hjs, HR2.out, HF.out⟩
  · rw [Bool.not_eq_true] at h0
    by_cases h5 : (er == 5) = true
    · go_wp2_with (fail)
      exact ⟨rfl, .inr ⟨_, _, rfl, HF.out⟩⟩
    · rw [Bool.not_eq_true] at h5
      go_wp2_with (fail)
      exact ⟨rfl, .inr ⟨_, _, rfl, HF.out⟩⟩

end Go.Proofs.YtnmpckdggddpoaaGreatDoor
