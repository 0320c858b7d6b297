/- The lexer's reader: form, whole. -/
import Derived.Test.YtnmpckdggddpoaaGreatDoorSn
namespace Go.Proofs.YtnmpckdggddpoaaGreatDoor
set_option linter.unusedSimpArgs false
set_option linter.unusedVariables false
open Go.RowKit Go.Shelf Go.Lib

def hexI (b : UInt8) : Int := match hexV b with | some n => (n : Int) | none => -1
theorem lib_hex (a : UInt8) (w : World) : Calls Tryz.prog 203 #[.string ⟨#[48, 49, 50, 51, 52, 53, 54, 55, 56, 57, 97, 98, 99, 100, 101, 102]⟩, .int .u8 a.toNat] w fun e w' => e = .returned (.int .i64 (hexI a)) ∧ w' = w := by
  have h := Tryz.strings_IndexByte hexS (a.toNat : Int) w
  have e : ((a.toNat : Int).toNat.toUInt8) = a := by simp
  rw [e, hex_at] at h
  exact h

set_option maxHeartbeats 4000000 in
theorem lx_form_x (b : Nat) (s : ByteArray) (k : Nat) (out : Value) (from_ : Int) (w : World) (h : Rd w b s k out) (hs : s.size ≤ 4096) (c1 c2 : UInt8) (r : List UInt8) (hl : s.data.toList.drop k = 120 :: c1 :: c2 :: r)
    (p q : Nat) (hp : hexV c1 = some p) (hq : hexV c2 = some q) :
    Calls Tryz.prog 241 #[.pointer (some ⟨b, 0, none⟩), .int .i64 from_] w fun e w' => e = .returned (.int .u8 (UInt8.ofNat (16 * p + q)).toNat) ∧ Rd w' b s (k + 3) out ∧ Upd [b] [b] w w' := by
  obtain ⟨hc, hr, hk⟩ := drop_at hl
  have cb := h.cell
  have fb := h.free
  have H := Lib.hid h
  clear h
  have hp16 := hexV_lt hp
  have hq16 := hexV_lt hq
  rw [ofNat8 (by omega)]
  have k0 : (0 : Int) ≤ (k : Int) := by omega
  have k1 : (k : Int) ≤ (s.size : Int) := by omega
  have e1 : IntKind.i64.wrap ((k : Int) + 1) = (k : Int) + 1 := IntWalk.i64_in _ (by omega)
  have e2 : IntKind.i64.wrap ((k : Int) + 1 + 2) = (k : Int) + 1 + 2 := IntWalk.i64_in _ (by omega)
  have hxl : (s.extract k s.size).data.toList = 120 :: c1 :: c2 :: r := by rw [ext_drop, hl]
  obtain ⟨x, hx⟩ : ∃ x, s.extract k s.size = x := ⟨_, rfl⟩
  rw [hx] at hxl
  have he : x.toList.isEmpty = false := ne_empty (by rw [hxl]; simp)
  have hx0 := byte_at (s := x) (k := 0) (c := 120) (by rw [hxl]; rfl)
  have hx1 := byte_at (s := x) (k := 1) (c := c1) (by rw [hxl]; rfl)
  have hx2 := byte_at (s := x) (k := 2) (c := c2) (by rw [hxl]; rfl)
  have hxs : 2 < x.size := by rw [← size_toList, hxl]; simp
  have hxs' : (2 : Int) < (x.size : Int) := by omega
  have hxs1 : (1 : Int) < (x.size : Int) := by omega
  have hxs0 : (0 : Int) < (x.size : Int) := by omega
  have H1 := Lib.hid (fun w => lib_hex c1 w)
  have H2 := Lib.hid (fun w => lib_hex c2 w)
  have i1 : hexI c1 = (p : Int) := by unfold hexI; rw [hp]
  have i2 : hexI c2 = (q : Int) := by unfold hexI; rw [hq]
  rw [i1] at H1
  rw [i2] at H2
  have p0 : (0 : Int) ≤ (p : Int) := by omega
  have q0 : (0 : Int) ≤ (q : Int) := by omega
  have m1 : IntKind.i64.wrap (16 * (p : Int)) = 16 * (p : Int) := IntWalk.i64_in _ (by omega)
  have m2 : IntKind.i64.wrap (16 * (p : Int) + (q : Int)) = 16 * (p : Int) + (q : Int) := IntWalk.i64_in _ (by omega)
  have m3 : IntKind.u8.wrap (16 * (p : Int) + (q : Int)) = 16 * (p : Int) + (q : Int) := by rw [IntKind.wrap_u8]; omega
  have m4 : ((16 * p + q : Nat) : Int) = 16 * (p : Int) + (q : Int) := by omega
  rw [m4]
  clear hxl hc hr hl hs hp hq i1 i2 m4
  go_enter Tryz.func241, Tryz.ntmps241
  go_wp2_with (fail)
  go_quiet (fail)
  go_wp2_with (fail)
  go_quiet (first | (go_at_call 203; with_reducible exact qeq (H1.out _)) | (go_at_call 203; with_reducible exact qeq (H2.out _)))
  go_wp2_with (fail)
  go_ret
  exact ⟨rfl, Rd.move (Blk.drewN (Rd.move (H.out.drewN _) (k + 1)) _) (k + 3), ((((Upd.refl _ _).drewN _).set (by simp) _ _).drewN _).set (by simp) _ _⟩

set_option maxHeartbeats 4000000 in
theorem lx_form_other (b : Nat) (s : ByteArray) (k : Nat) (out : Value) (from_ : Int) (w : World) (h : Rd w b s k out) (hs : s.size ≤ 4096) (c : UInt8) (r : List UInt8) (hl : s.data.toList.drop k = c :: r)
    (h1 : c ≠ 34) (h2 : c ≠ 92) (h3 : c ≠ 110) (h4 : c ≠ 116) (h5 : c ≠ 120) :
    Calls Tryz.prog 241 #[.pointer (some ⟨b, 0, none⟩), .int .i64 from_] w fun e w' => e = flt 20 from_ ∧ Upd [b] [b] w w' := by
  obtain ⟨hc, hr, hk⟩ := drop_at hl
  have cb := h.cell
  have fb := h.free
  clear h
  have k0 : (0 : Int) ≤ (k : Int) := by omega
  have k1 : (k : Int) ≤ (s.size : Int) := by omega
  have e1 : IntKind.i64.wrap ((k : Int) + 1) = (k : Int) + 1 := IntWalk.i64_in _ (by omega)
  have hxl : (s.extract k s.size).data.toList = c :: r := by rw [ext_drop, hl]
  obtain ⟨x, hx⟩ : ∃ x, s.extract k s.size = x := ⟨_, rfl⟩
  rw [hx] at hxl
  have he : x.toList.isEmpty = false := ne_empty (by rw [hxl]; simp)
  have hx0 := byte_at (s := x) (k := 0) (c := c) (by rw [hxl]; rfl)
  have hxs : 0 < x.size := by rw [← size_toList, hxl]; simp
  have hxs' : (0 : Int) < (x.size : Int) := by omega
  have t1 : ((c.toNat : Int) == 34) = false := bne8 c 34 h1 (by decide)
  have t2 : ((c.toNat : Int) == 92) = false := bne8 c 92 h2 (by decide)
  have t3 : ((c.toNat : Int) == 110) = false := bne8 c 110 h3 (by decide)
  have t4 : ((c.toNat : Int) == 116) = false := bne8 c 116 h4 (by decide)
  have t5 : ((c.toNat : Int) == 120) = false := bne8 c 120 h5 (by decide)
  clear hxl hc hr hl hs h1 h2 h3 h4 h5
  go_enter Tryz.func241, Tryz.ntmps241
  go_wp2_with (fail)
  go_quiet (fail)
  go_wp2_with (fail)
  exact ⟨rfl, rfl, ((Upd.refl _ _).drewN _).set (by simp) _ _⟩

set_option maxHeartbeats 4000000 in
theorem lx_form_short (b : Nat) (s : ByteArray) (k : Nat) (out : Value) (from_ : Int) (w : World) (h : Rd w b s k out) (hs : s.size ≤ 4096) (r : List UInt8) (hl : s.data.toList.drop k = 120 :: r) (hr2 : r.length < 2) :
    Calls Tryz.prog 241 #[.pointer (some ⟨b, 0, none⟩), .int .i64 from_] w fun e w' => e = flt 20 from_ ∧ Upd [b] [b] w w' := by
  obtain ⟨hc, hr, hk⟩ := drop_at hl
  have cb := h.cell
  have fb := h.free
  clear h
  have k0 : (0 : Int) ≤ (k : Int) := by omega
  have k1 : (k : Int) ≤ (s.size : Int) := by omega
  have e1 : IntKind.i64.wrap ((k : Int) + 1) = (k : Int) + 1 := IntWalk.i64_in _ (by omega)
  have hxl : (s.extract k s.size).data.toList = 120 :: r := by rw [ext_drop, hl]
  obtain ⟨x, hx⟩ : ∃ x, s.extract k s.size = x := ⟨_, rfl⟩
  rw [hx] at hxl
  have he : x.toList.isEmpty = false := ne_empty (by rw [hxl]; simp)
  have hx0 := byte_at (s := x) (k := 0) (c := 120) (by rw [hxl]; rfl)
  have hxs : 0 < x.size := by rw [← size_toList, hxl]; simp
  have hxs' : (0 : Int) < (x.size : Int) := by omega
  have hxs2 : x.size ≤ 2 := by rw [← size_toList, hxl]; simp; omega
  have hxs3 : ¬ (2 : Int) < (x.size : Int) := by omega
  clear hxl hc hr hl hs hr2
  go_enter Tryz.func241, Tryz.ntmps241
  go_wp2_with (fail)
  go_quiet (fail)
  go_wp2_with (fail)
  exact ⟨rfl, rfl, ((Upd.refl _ _).drewN _).set (by simp) _ _⟩

set_option maxHeartbeats 4000000 in
theorem lx_form_nohex (b : Nat) (s : ByteArray) (k : Nat) (out : Value) (from_ : Int) (w : World) (h : Rd w b s k out) (hs : s.size ≤ 4096) (c1 c2 : UInt8) (r : List UInt8) (hl : s.data.toList.drop k = 120 :: c1 :: c2 :: r)
    (hpq : hexV c1 = none ∨ hexV c2 = none) :
    Calls Tryz.prog 241 #[.pointer (some ⟨b, 0, none⟩), .int .i64 from_] w fun e w' => e = flt 20 from_ ∧ Upd [b] [b] w w' := by
  obtain ⟨hc, hr, hk⟩ := drop_at hl
  have cb := h.cell
  have fb := h.free
  clear h
  have k0 : (0 : Int) ≤ (k : Int) := by omega
  have k1 : (k : Int) ≤ (s.size : Int) := by omega
  have e1 : IntKind.i64.wrap ((k : Int) + 1) = (k : Int) + 1 := IntWalk.i64_in _ (by omega)
  have hxl : (s.extract k s.size).data.toList = 120 :: c1 :: c2 :: r := by rw [ext_drop, hl]
  obtain ⟨x, hx⟩ : ∃ x, s.extract k s.size = x := ⟨_, rfl⟩
  rw [hx] at hxl
  have he : x.toList.isEmpty = false := ne_empty (by rw [hxl]; simp)
  have hx0 := byte_at (s := x) (k := 0) (c := 120) (by rw [hxl]; rfl)
  have hx1 := byte_at (s := x) (k := 1) (c := c1) (by rw [hxl]; rfl)
  have hx2 := byte_at (s := x) (k := 2) (c := c2) (by rw [hxl]; rfl)
  have hxs : 2 < x.size := by rw [← size_toList, hxl]; simp
  have hxs' : (2 : Int) < (x.size : Int) := by omega
  have hxs1 : (1 : Int) < (x.size : Int) := by omega
  have hxs0 : (0 : Int) < (x.size : Int) := by omega
  have H1 := Lib.hid (fun w => lib_hex c1 w)
  have H2 := Lib.hid (fun w => lib_hex c2 w)
  obtain ⟨p, hp⟩ : ∃ p, hexI c1 = p := ⟨_, rfl⟩
  obtain ⟨q, hq⟩ : ∃ q, hexI c2 = q := ⟨_, rfl⟩
  rw [hp] at H1
  rw [hq] at H2
  have hpq' : p < 0 ∨ (0 ≤ p ∧ q < 0) := by
    by_cases h : p < 0
    · exact .inl h
    · refine .inr ⟨by omega, ?_⟩
      rcases hpq with h1 | h1
      · have : (-1 : Int) = p := by rw [← hp]; unfold hexI; rw [h1]
        omega
      · have : (-1 : Int) = q := by rw [← hq]; unfold hexI; rw [h1]
        omega
  clear hxl hc hr hl hs hp hq hpq
  rcases hpq' with h | ⟨h, h'⟩
  all_goals
    go_enter Tryz.func241, Tryz.ntmps241
    go_wp2_with (fail)
    go_quiet (fail)
    go_wp2_with (fail)
    go_quiet (first | (go_at_call 203; with_reducible exact qeq (H1.out _)) | (go_at_call 203; with_reducible exact qeq (H2.out _)))
    go_wp2_with (fail)
    exact ⟨rfl, rfl, (((Upd.refl _ _).drewN _).set (by simp) _ _).drewN _⟩

/-- What form tells where there is a form. -/
theorem lx_form_ok (b : Nat) (s : ByteArray) (k : Nat) (out : Value) (from_ : Int) (w : World) (h : Rd w b s k out) (hs : s.size ≤ 4096) (p : UInt8 × List UInt8) (hp : formS (s.data.toList.drop k) = some p) :
    Calls Tryz.prog 241 #[.pointer (some ⟨b, 0, none⟩), .int .i64 from_] w fun e w' => ∃ j, e = .returned (.int .u8 p.1.toNat) ∧ k < j ∧ j ≤ s.size ∧ p.2 = s.data.toList.drop j ∧ Rd w' b s j out ∧ Upd [b] [b] w w' := by
  cases hl : s.data.toList.drop k with
  | nil => rw [hl] at hp; cases hp
  | cons c r =>
    obtain ⟨hc, hr, hk⟩ := drop_at hl
    have one : ∀ v : UInt8, ((c = 34 ∧ v = 34) ∨ (c = 92 ∧ v = 92) ∨ (c = 110 ∧ v = 10) ∨ (c = 116 ∧ v = 9)) → p = (v, r) → Calls Tryz.prog 241 #[.pointer (some ⟨b, 0, none⟩), .int .i64 from_] w fun e w' => ∃ j, e = .returned (.int .u8 p.1.toNat) ∧ k < j ∧ j ≤ s.size ∧ p.2 = s.data.toList.drop j ∧ Rd w' b s j out ∧ Upd [b] [b] w w' := by
      rintro v hv rfl
      exact (lx_form_one b s k out from_ w h hs c r hl v hv).mono fun e w' ⟨he, hR, hU⟩ => ⟨k + 1, he, by omega, by omega, hr, hR, hU⟩
    rw [hl, formS_cons] at hp
    split at hp
    · exact one 34 (.inl ⟨by assumption, rfl⟩) (by cases hp; rfl)
    split at hp
    · exact one 92 (.inr (.inl ⟨by assumption, rfl⟩)) (by cases hp; rfl)
    split at hp
    · exact one 10 (.inr (.inr (.inl ⟨by assumption, rfl⟩))) (by cases hp; rfl)
    split at hp
    · exact one 9 (.inr (.inr (.inr ⟨by assumption, rfl⟩))) (by cases hp; rfl)
    split at hp
    · rename_i h120
      subst h120
      cases r with
      | nil => cases hp
      | cons c1 r =>
        cases r with
        | nil => cases hp
        | cons c2 r =>
          simp only [formX] at hp
          cases h1 : hexV c1 with
          | none => rw [h1] at hp; cases hp
          | some x =>
            cases h2 : hexV c2 with
            | none => rw [h1, h2] at hp; cases hp
            | some y =>
              rw [h1, h2] at hp
              cases hp
              have hd : s.data.toList.drop (k + 3) = r := by rw [← List.drop_drop, hl]; rfl
              have hsz : k + 3 ≤ s.size := by
                have := congrArg List.length hl
                rw [List.length_drop, size_toList] at this
                simp only [List.length_cons] at this
                omega
              exact (lx_form_x b s k out from_ w h hs c1 c2 r hl x y h1 h2).mono fun e w' ⟨he, hR, hU⟩ => ⟨k + 3, he, by omega, hsz, hd.symm, hR, hU⟩
    · cases hp
/-- What form does where there is none. -/
theorem lx_form_no (b : Nat) (s : ByteArray) (k : Nat) (out : Value) (from_ : Int) (w : World) (h : Rd w b s k out) (hk : k ≤ s.size) (hs : s.size ≤ 4096) (hp : formS (s.data.toList.drop k) = none) :
    Calls Tryz.prog 241 #[.pointer (some ⟨b, 0, none⟩), .int .i64 from_] w fun e w' => e = flt 20 from_ ∧ Upd [b] [b] w w' := by
  cases hl : s.data.toList.drop k with
  | nil =>
    refine lx_form_end b s k out from_ w h ?_
    have := List.drop_eq_nil_iff.1 hl
    rw [size_toList] at this
    omega
  | cons c r =>
    rw [hl, formS_cons] at hp
    split at hp
    · cases hp
    split at hp
    · cases hp
    split at hp
    · cases hp
    split at hp
    · cases hp
    split at hp
    · rename_i h120
      subst h120
      match r, hl, hp with
      | [], hl, _ => exact lx_form_short b s k out from_ w h hs _ hl (by simp)
      | [c1], hl, _ => exact lx_form_short b s k out from_ w h hs _ hl (by simp)
      | c1 :: c2 :: r, hl, hp =>
        refine lx_form_nohex b s k out from_ w h hs c1 c2 r hl ?_
        cases h1 : hexV c1 with
        | none => exact .inl rfl
        | some x =>
          cases h2 : hexV c2 with
          | none => exact .inr rfl
          | some y => simp [formX, h1, h2] at hp
    · exact lx_form_other b s k out from_ w h hs c r hl (by assumption) (by assumption) (by assumption) (by assumption) (by assumption)

end Go.Proofs.YtnmpckdggddpoaaGreatDoor
