/- The lexer's reader: one. -/
import Derived.Test.YtnmpckdggddpoaaGreatDoorSs
import Derived.Test.YtnmpckdggddpoaaGreatDoorSu
namespace Go.Proofs.YtnmpckdggddpoaaGreatDoor
set_option linter.unusedSimpArgs false
set_option linter.unusedVariables false
open Go.RowKit Go.Shelf Go.Lib

theorem oneR_other {s : List UInt8} {k j : Nat} {c : UInt8} {kind n : Int} {t : List UInt8} (hc : s[k]? = some c) (h34 : c ≠ 34) (h2 : kind ≠ 2) (hkj : k < j) (hj : j ≤ s.length) : OneR s k j kind k n t :=
  ⟨hkj, hj, rfl, fun h => absurd h h2, fun h => absurd (Option.some.inj (hc.symm.trans h)) h34⟩
theorem oneF_other {s : List UInt8} {k : Nat} {c : UInt8} (hc : s[k]? = some c) (h34 : c ≠ 34) : OneF s k :=
  ⟨(List.getElem?_eq_some_iff.1 hc).1, fun h => absurd (Option.some.inj (hc.symm.trans h)) h34⟩
theorem sym_w {P : Program} {f : FuncId} {args : Array Value} {w : World} {v : Value} (h : Calls P f args w fun e w' => e = .returned v ∧ w' = w) : Calls P f args w fun e w' => e = .returned v ∧ w = w' := h.mono fun _ _ ⟨h1, h2⟩ => ⟨h1, h2.symm⟩
theorem upd_of_fr {F F' : List Nat} {w w' : World} (h : Fr F w w') (hF : ∀ k ∈ F, k ∈ F') : Upd F' F' w w' := ⟨⟨h.os, h.tape, h.output, h.size, fun k hk hn => h.block k hk (fun hm => hn (hF k hm))⟩, fun _ hk => .inl hk⟩

set_option maxRecDepth 100000 in
set_option maxHeartbeats 8000000 in
theorem lx_one (b : Nat) (s : ByteArray) (k : Nat) (out : Value) (B : Nat) (w : World) (hE : Env B w) (hBb : B ≤ b) (h : Rd w b s k out) (hs : s.size ≤ 4096) (hk : k < s.size) :
    Calls Tryz.prog 158 #[.pointer (some ⟨b, 0, none⟩)] w fun e w' =>
      (∃ (j : Nat) (kind at_ n : Int) (t : ByteArray), OneR s.data.toList k j kind at_ n t.data.toList ∧ e = .returned (.agg #[.int .i64 kind, .int .i64 at_, .int .i64 n, .string t]) ∧ Rd w' b s j out ∧ Fr [b] w w') ∨
      (∃ er at_ : Int, e = flt er at_ ∧ OneF s.data.toList k ∧ Fr [b] w w') := by
  obtain ⟨c, hc⟩ : ∃ c, s.data.toList[k]? = some c := ⟨_, List.getElem?_eq_getElem (by rw [size_toList]; exact hk)⟩
  have hb := byte_at hc
  have hlt' : (k : Int) < (s.size : Int) := by omega
  have cb := h.cell
  have H := Lib.hid h
  have HC := Lib.hid hc
  have HE := Lib.hid hE
  have hbw := h.lt
  clear h hc hE
  go_enter Tryz.func158, Tryz.ntmps158
  go_wp2_with (fail)
  go_quiet (fail)
  obtain ⟨r0, hr0⟩ : ∃ r0, r0 = w.heap.size := ⟨_, rfl⟩
  rw [← hr0] at hbw ⊢
  obtain ⟨wa, hwa⟩ : ∃ wa, wa = (((w.alloc (.cells #[.int .i64 0, .int .i64 0, .int .i64 0, .string ⟨#[]⟩] 84)).alloc (.cells #[.int .i64 0, .int .i64 (k : Nat), .int .i64 0, .string ⟨#[]⟩] 84)).drewN nq) := ⟨_, rfl⟩
  have hA : Blk wa (r0 + 1) [.int .i64 0, .int .i64 (k : Nat), .int .i64 0, .string ⟨#[]⟩] 84 := by
    rw [hwa]; exact Blk.drewN (Blk.new' (c := [_, _, _, _]) (by simp [hr0])) _
  have hZ : Blk wa r0 [.int .i64 0, .int .i64 0, .int .i64 0, .string ⟨#[]⟩] 84 := by
    rw [hwa]; exact Blk.drewN (Blk.alloc (Blk.new' (c := [_, _, _, _]) hr0) _) _
  have hR : Rd wa b s k out := by rw [hwa]; exact Blk.drewN ((H.out.alloc _).alloc _) _
  have hU : Upd [b] [b, r0, r0 + 1] w wa := by
    rw [hwa]
    exact ((((Upd.refl [b] w).alloc _).alloc _).drewN _).sub (fun q hq => by simp at hq ⊢; omega)
  have HEa := Lib.hid (HE.out.on (hU.fr.below HE.out.le (by intro q hq; simp at hq; omega)))
  rw [← hwa]
  clear hwa hr0
  have HA := Lib.hid hA
  have HZ := Lib.hid hZ
  have HR := Lib.hid hR
  have HU := Lib.hid hU
  have HS := Lib.hid (fun w => sym_w (lx_small (c.toNat : Int) w))
  have HG := Lib.hid (fun w => sym_w (lx_great (c.toNat : Int) w))
  have HD := Lib.hid (fun w => sym_w (lx_digit (c.toNat : Int) w))
  clear hA hZ hR hU HE cb hb H
  obtain ⟨x, hx⟩ : ∃ x, Hid (smallB (c.toNat : Int) = x) := ⟨_, rfl⟩
  obtain ⟨y, hy⟩ : ∃ y, Hid (greatB (c.toNat : Int) = y) := ⟨_, rfl⟩
  obtain ⟨z, hz⟩ : ∃ z, Hid (digitB (c.toNat : Int) = z) := ⟨_, rfl⟩
  rw [hx.out] at HS
  rw [hy.out] at HG
  rw [hz.out] at HD
  have hxy34 : Hid (x = true ∨ y = true → c ≠ 34) := Lib.hid (by
    rintro h rfl
    have h1 := hx.out
    have h2 := hy.out
    rw [show smallB ((34 : UInt8).toNat : Int) = false by decide] at h1
    rw [show greatB ((34 : UInt8).toNat : Int) = false by decide] at h2
    rcases h with h | h
    · rw [h] at h1; cases h1
    · rw [h] at h2; cases h2)
  by_cases hxy : x = true ∨ y = true
  · have h34 := Lib.hid (hxy34.out hxy)
    have hin : Hid (inNameB (c.toNat : Int) = true) := Lib.hid (by
      unfold inNameB
      rw [hx.out, hy.out]
      rcases hxy with h | h
      · rw [h]; simp
      · rw [h]; simp)
    have HRun := Lib.hid (lx_run b s k out wa HR.out (by omega) hs)
    have HRun2 : Hid (Calls Tryz.prog 208 #[.pointer (some ⟨b, 0, none⟩)] wa fun e w1 => ∃ (t : ByteArray), e = .returned (.string t) ∧ t.size ≤ 4096 ∧ Hid (∃ j : Nat, k < j ∧ j ≤ s.size ∧ Rd w1 b s j out) ∧ Hid (Fr [b] wa w1)) := Lib.hid (by
      refine HRun.out.mono ?_
      rintro e w1 ⟨j, rfl, h1, h2, h3, h4, h5⟩
      exact ⟨_, rfl, by rw [ByteArray.size_extract]; omega, ⟨j, h3 c HC.out hin.out, h2, h4⟩, h5.fr⟩)
    clear HRun hin hxy34
    have HI := Lib.hid (fun (t : ByteArray) (ht : t.size ≤ 4096) (w1 : World) (hF : Fr [b, r0, r0 + 1] wa w1) => (isWord_any t ht B w1 (HEa.out.fr hF (by intro q hq; simp at hq; omega))).mono (R' := fun e w' => ∃ q, e = .returned (.bool q) ∧ w1 = w') (fun _ _ ⟨q, h1, h2⟩ => ⟨q, h1, h2.symm⟩))
    cases y
    · have hxt : x = true := by rcases hxy with h | h; exact h; cases h
      subst hxt
      go_wp2_with (first | (go_at_call 206; refine (HS.out _).mono ?_; rintro e w' ⟨rfl, rfl⟩) | (go_at_call 207; refine (HG.out _).mono ?_; rintro e w' ⟨rfl, rfl⟩))
      refine HRun2.out.mono ?_
      rintro e w1 ⟨t, rfl, ht, hj, hF⟩
      have ct := (hF.out.keep HA.out (by simp; omega)).cell
      have ft := (hF.out.keep HA.out (by simp; omega)).free
      have cz := (hF.out.keep HZ.out (by simp; omega)).cell
      have fz := (hF.out.keep HZ.out (by simp; omega)).free
      have hne : r0 ≠ r0 + 1 := by omega
      cases hu : (t.toList == [95])
      go_wp2_with (first | (go_at_call 206; refine (HS.out _).mono ?_; rintro e w' ⟨rfl, rfl⟩) | (go_at_call 207; refine (HG.out _).mono ?_; rintro e w' ⟨rfl, rfl⟩) | (go_at_call 209; refine (HI.out t ht _ (((upd_of_fr (F' := [b, r0, r0 + 1]) hF.out (by simp)).set (by simp) _ _).fr)).mono ?_; rintro e w' ⟨q, rfl, rfl⟩))
      all_goals
        obtain ⟨j, hkj, hjs, hRj⟩ := hj.out
        have hZ1 := hF.out.keep HZ.out (by simp; omega)
        have hU1 := HU.out.trans (upd_of_fr (F' := [b, r0, r0 + 1]) hF.out (by simp))
        refine ⟨rfl, _, ret_tok rfl rfl (((((((hZ1.other (by omega) _ _).other (by omega) _ _).set 0 _).set 1 _).set 2 _).set 3 _)), .inl ⟨j, _, _, _, t, oneR_other HC.out h34.out (by decide) hkj (by rw [size_toList]; exact hjs), rfl, ?_, ?_⟩⟩
        · exact ((((((hRj.other (by omega) _ _).other (by omega) _ _).other (by omega) _ _).other (by omega) _ _).other (by omega) _ _).other (by omega) _ _)
        · exact (((((((hU1.set (by simp) _ _).set (by simp) _ _).set (by simp) _ _).set (by simp) _ _).set (by simp) _ _).set (by simp) _ _)).fr
    · cases x
      all_goals
        go_wp2_with (first | (go_at_call 206; refine (HS.out _).mono ?_; rintro e w' ⟨rfl, rfl⟩) | (go_at_call 207; refine (HG.out _).mono ?_; rintro e w' ⟨rfl, rfl⟩))
        refine HRun2.out.mono ?_
        rintro e w1 ⟨t, rfl, ht, hj, hF⟩
        have ct := (hF.out.keep HA.out (by simp; omega)).cell
        have ft := (hF.out.keep HA.out (by simp; omega)).free
        have cz := (hF.out.keep HZ.out (by simp; omega)).cell
        have fz := (hF.out.keep HZ.out (by simp; omega)).free
        have hne : r0 ≠ r0 + 1 := by omega
        go_wp2_with (first | (go_at_call 206; refine (HS.out _).mono ?_; rintro e w' ⟨rfl, rfl⟩) | (go_at_call 207; refine (HG.out _).mono ?_; rintro e w' ⟨rfl, rfl⟩))
        obtain ⟨j, hkj, hjs, hRj⟩ := hj.out
        have hZ1 := hF.out.keep HZ.out (by simp; omega)
        have hU1 := HU.out.trans (upd_of_fr (F' := [b, r0, r0 + 1]) hF.out (by simp))
        refine ⟨rfl, _, ret_tok rfl rfl (((((((hZ1.other (by omega) _ _).other (by omega) _ _).set 0 _).set 1 _).set 2 _).set 3 _)), .inl ⟨j, _, _, _, t, oneR_other HC.out h34.out (by decide) hkj (by rw [size_toList]; exact hjs), rfl, ?_, ?_⟩⟩
        · exact ((((((hRj.other (by omega) _ _).other (by omega) _ _).other (by omega) _ _).other (by omega) _ _).other (by omega) _ _).other (by omega) _ _)
        · exact (((((((hU1.set (by simp) _ _).set (by simp) _ _).set (by simp) _ _).set (by simp) _ _).set (by simp) _ _).set (by simp) _ _)).fr
  · have hxf : x = false := by cases x; rfl; exact absurd (.inl rfl) hxy
    have hyf : y = false := by cases y; rfl; exact absurd (.inr rfl) hxy
    subst hxf
    subst hyf
    clear hxy hxy34 hx hy
    cases z
    · by_cases hc34 : c = 34
      · subst hc34
        have HT := Lib.hid (lx_text b s k out wa HR.out hs hk)
        go_wp2_with (first | (go_at_call 206; refine (HS.out _).mono ?_; rintro e w' ⟨rfl, rfl⟩) | (go_at_call 207; refine (HG.out _).mono ?_; rintro e w' ⟨rfl, rfl⟩) | (go_at_call 210; refine (HD.out _).mono ?_; rintro e w' ⟨rfl, rfl⟩))
        refine HT.out.mono ?_
        rintro e w1 (⟨x, j, hx, hkj, hjs, rfl, hRj, hF⟩ | ⟨hx, he, hF⟩)
        · have hF := Lib.hid hF
          have HX := Lib.hid hx
          have HRj := Lib.hid hRj
          clear hx hRj
          have ct := (hF.out.keep HA.out (by simp; omega)).cell
          have ft := (hF.out.keep HA.out (by simp; omega)).free
          have cz := (hF.out.keep HZ.out (by simp; omega)).cell
          have fz := (hF.out.keep HZ.out (by simp; omega)).free
          have hne : r0 ≠ r0 + 1 := by omega
          go_wp2_with (fail)
          have hRj := HRj.out
          have hZ1 := hF.out.keep HZ.out (by simp; omega)
          have hU1 := HU.out.trans (upd_of_fr (F' := [b, r0, r0 + 1]) hF.out (by simp))
          refine ⟨rfl, _, ret_tok rfl rfl (((((((hZ1.other (by omega) _ _).other (by omega) _ _).set 0 _).set 1 _).set 2 _).set 3 _)), .inl ⟨j, _, _, _, ⟨x.toArray⟩, ⟨hkj, by rw [size_toList]; exact hjs, rfl, fun _ => HC.out, fun _ => ⟨rfl, rfl, HX.out⟩⟩, rfl, ?_, ?_⟩⟩
          · exact ((((((hRj.other (by omega) _ _).other (by omega) _ _).other (by omega) _ _).other (by omega) _ _).other (by omega) _ _).other (by omega) _ _)
          · exact (((((((hU1.set (by simp) _ _).set (by simp) _ _).set (by simp) _ _).set (by simp) _ _).set (by simp) _ _).set (by simp) _ _)).fr
        · unfold flt at he
          subst he
          go_wp2_with (fail)
          exact ⟨rfl, .inr ⟨_, _, rfl, ⟨by rw [size_toList]; exact hk, fun _ => hx⟩, (HU.out.trans (upd_of_fr (F' := [b, r0, r0 + 1]) hF (by simp))).fr⟩⟩
      · have t34 : ((c.toNat : Int) == 34) = false := bne8 c 34 hc34 (by decide)
        have HT := Lib.hid (lx_sign b s k out B wa HEa.out hBb HR.out hs hk)
        have h34 := Lib.hid hc34
        clear hc34
        go_wp2_with (first | (go_at_call 206; refine (HS.out _).mono ?_; rintro e w' ⟨rfl, rfl⟩) | (go_at_call 207; refine (HG.out _).mono ?_; rintro e w' ⟨rfl, rfl⟩) | (go_at_call 210; refine (HD.out _).mono ?_; rintro e w' ⟨rfl, rfl⟩))
        refine HT.out.mono ?_
        rintro e w1 (⟨j, t, rfl, hkj, hjs, hRj, hF⟩ | ⟨he, hF⟩)
        · have hF := Lib.hid hF
          have HRj := Lib.hid hRj
          clear hRj
          have ct := (hF.out.keep HA.out (by simp; omega)).cell
          have ft := (hF.out.keep HA.out (by simp; omega)).free
          have cz := (hF.out.keep HZ.out (by simp; omega)).cell
          have fz := (hF.out.keep HZ.out (by simp; omega)).free
          have hne : r0 ≠ r0 + 1 := by omega
          go_wp2_with (fail)
          have hRj := HRj.out
          have hZ1 := hF.out.keep HZ.out (by simp; omega)
          have hU1 := HU.out.trans (upd_of_fr (F' := [b, r0, r0 + 1]) hF.out (by simp))
          refine ⟨rfl, _, ret_tok rfl rfl (((((((hZ1.other (by omega) _ _).other (by omega) _ _).set 0 _).set 1 _).set 2 _).set 3 _)), .inl ⟨j, _, _, _, t, oneR_other HC.out h34.out (by decide) hkj (by rw [size_toList]; exact hjs), rfl, ?_, ?_⟩⟩
          · exact ((((((hRj.other (by omega) _ _).other (by omega) _ _).other (by omega) _ _).other (by omega) _ _).other (by omega) _ _).other (by omega) _ _)
          · exact (((((((hU1.set (by simp) _ _).set (by simp) _ _).set (by simp) _ _).set (by simp) _ _).set (by simp) _ _).set (by simp) _ _)).fr
        · unfold flt at he
          subst he
          go_wp2_with (fail)
          exact ⟨rfl, .inr ⟨_, _, rfl, oneF_other HC.out h34.out, (HU.out.trans (upd_of_fr (F' := [b, r0, r0 + 1]) hF (by simp))).fr⟩⟩
    · have hd : 48 ≤ c.toNat ∧ c.toNat ≤ 57 := by
        have := hz.out
        unfold digitB at this
        simp at this
        omega
      have h34 := Lib.hid (show c ≠ 34 by rintro rfl; revert hd; decide)
      have HT := Lib.hid (lx_number b s k out B wa HEa.out hBb HR.out hs c HC.out hd)
      clear hd
      go_wp2_with (first | (go_at_call 206; refine (HS.out _).mono ?_; rintro e w' ⟨rfl, rfl⟩) | (go_at_call 207; refine (HG.out _).mono ?_; rintro e w' ⟨rfl, rfl⟩) | (go_at_call 210; refine (HD.out _).mono ?_; rintro e w' ⟨rfl, rfl⟩))
      refine HT.out.mono ?_
      rintro e w1 (⟨j, n, rfl, hkj, hjs, hRj, hF⟩ | ⟨er, at_, he, hF⟩)
      · have hF := Lib.hid hF
        have HRj := Lib.hid hRj
        clear hRj
        have ct := (hF.out.keep HA.out (by simp; omega)).cell
        have ft := (hF.out.keep HA.out (by simp; omega)).free
        have cz := (hF.out.keep HZ.out (by simp; omega)).cell
        have fz := (hF.out.keep HZ.out (by simp; omega)).free
        have hne : r0 ≠ r0 + 1 := by omega
        go_wp2_with (fail)
        have hRj := HRj.out
        have hZ1 := hF.out.keep HZ.out (by simp; omega)
        have hU1 := HU.out.trans (upd_of_fr (F' := [b, r0, r0 + 1]) hF.out (by simp))
        refine ⟨rfl, _, ret_tok rfl rfl (((((((hZ1.other (by omega) _ _).other (by omega) _ _).set 0 _).set 1 _).set 2 _).set 3 _)), .inl ⟨j, _, _, _, ⟨#[]⟩, oneR_other HC.out h34.out (by decide) hkj (by rw [size_toList]; exact hjs), rfl, ?_, ?_⟩⟩
        · exact ((((((hRj.other (by omega) _ _).other (by omega) _ _).other (by omega) _ _).other (by omega) _ _).other (by omega) _ _).other (by omega) _ _)
        · exact (((((((hU1.set (by simp) _ _).set (by simp) _ _).set (by simp) _ _).set (by simp) _ _).set (by simp) _ _).set (by simp) _ _)).fr
      · unfold flt at he
        subst he
        go_wp2_with (fail)
        exact ⟨rfl, .inr ⟨_, _, rfl, oneF_other HC.out h34.out, (HU.out.trans (upd_of_fr (F' := [b, r0, r0 + 1]) hF (by simp))).fr⟩⟩

end Go.Proofs.YtnmpckdggddpoaaGreatDoor
