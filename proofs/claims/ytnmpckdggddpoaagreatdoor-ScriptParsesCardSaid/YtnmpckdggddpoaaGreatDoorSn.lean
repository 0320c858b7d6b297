/- The lexer's reader: form. -/
import Derived.Test.YtnmpckdggddpoaaGreatDoorSm
namespace Go.Proofs.YtnmpckdggddpoaaGreatDoor
set_option linter.unusedSimpArgs false
set_option linter.unusedVariables false
open Go.RowKit Go.Shelf Go.Lib

/-- A fault that is raised. -/
def flt (er at_ : Int) : Ending := .panicked [{ v := .iface 204 (.agg #[.int .i64 er, .int .i64 at_]), recovered := false }]
def hexS : ByteArray := ⟨#[48, 49, 50, 51, 52, 53, 54, 55, 56, 57, 97, 98, 99, 100, 101, 102]⟩
theorem hex_at : ∀ b : UInt8, Lib.indexByte hexS.data.toList b = (match hexV b with | some n => (n : Int) | none => -1) := by
  intro b
  have key : ∀ n : Fin 256, Lib.indexByte hexS.data.toList (UInt8.ofNat n.val) = (match hexV (UInt8.ofNat n.val) with | some n => (n : Int) | none => -1) := by decide +kernel
  have := key ⟨b.toNat, b.toNat_lt⟩
  simpa using this
theorem hexV_lt {b : UInt8} {n : Nat} (h : hexV b = some n) : n < 16 := by
  unfold hexV at h
  split at h
  · cases h; omega
  split at h
  · cases h; omega
  · cases h
theorem drop_at {s : ByteArray} {k : Nat} {c : UInt8} {r : List UInt8} (h : s.data.toList.drop k = c :: r) : s.data.toList[k]? = some c ∧ r = s.data.toList.drop (k + 1) ∧ k < s.size := by
  have h1 : (s.data.toList.drop k)[0]? = some c := by rw [h]; rfl
  rw [List.getElem?_drop, Nat.add_zero] at h1
  refine ⟨h1, ?_, ?_⟩
  · rw [← List.drop_drop, h]; rfl
  · rw [← size_toList]; exact (List.getElem?_eq_some_iff.1 h1).1

set_option maxHeartbeats 2000000 in
theorem lx_form_end (b : Nat) (s : ByteArray) (k : Nat) (out : Value) (from_ : Int) (w : World) (h : Rd w b s k out) (hk : k = s.size) :
    Calls Tryz.prog 241 #[.pointer (some ⟨b, 0, none⟩), .int .i64 from_] w fun e w' => e = flt 20 from_ ∧ Upd [b] [b] w w' := by
  have cb := h.cell
  clear h
  have k0 : (0 : Int) ≤ (k : Int) := by omega
  have k1 : (k : Int) ≤ (s.size : Int) := by omega
  have he : (s.extract k s.size).toList.isEmpty = true := is_empty (by rw [ext_drop, hk, ← size_toList]; simp)
  go_enter Tryz.func241, Tryz.ntmps241
  go_wp2_with (fail)
  go_quiet (fail)
  go_wp2_with (fail)
  exact ⟨rfl, rfl, (Upd.refl _ _).drewN _⟩

theorem bne8 (c : UInt8) (n : Nat) (h : c ≠ UInt8.ofNat n) (hn : n < 256) : ((c.toNat : Int) == (n : Int)) = false := by
  rw [beq_eq_false_iff_ne]
  intro e
  apply h
  have : c.toNat = n := by omega
  rw [← this]; simp
theorem beq8 (c : UInt8) (n : Nat) (h : c = UInt8.ofNat n) (hn : n < 256) : ((c.toNat : Int) == (n : Int)) = true := by
  rw [beq_iff_eq, h]
  simp only [UInt8.toNat_ofNat']
  omega
theorem ofNat8 {n : Nat} (h : n < 256) : (UInt8.ofNat n).toNat = n := by simp only [UInt8.toNat_ofNat']; omega

set_option maxHeartbeats 4000000 in
theorem lx_form_one (b : Nat) (s : ByteArray) (k : Nat) (out : Value) (from_ : Int) (w : World) (h : Rd w b s k out) (hs : s.size ≤ 4096) (c : UInt8) (r : List UInt8) (hl : s.data.toList.drop k = c :: r)
    (v : UInt8) (hv : (c = 34 ∧ v = 34) ∨ (c = 92 ∧ v = 92) ∨ (c = 110 ∧ v = 10) ∨ (c = 116 ∧ v = 9)) :
    Calls Tryz.prog 241 #[.pointer (some ⟨b, 0, none⟩), .int .i64 from_] w fun e w' => e = .returned (.int .u8 v.toNat) ∧ Rd w' b s (k + 1) out ∧ Upd [b] [b] w w' := by
  obtain ⟨hc, hr, hk⟩ := drop_at hl
  have cb := h.cell
  have fb := h.free
  have H := Lib.hid h
  clear h
  have k0 : (0 : Int) ≤ (k : Int) := by omega
  have k1 : (k : Int) ≤ (s.size : Int) := by omega
  have e1 : IntKind.i64.wrap ((k : Int) + 1) = (k : Int) + 1 := IntWalk.i64_in _ (by omega)
  have hxl : (s.extract k s.size).data.toList = c :: r := by rw [ext_drop, hl]
  obtain ⟨x, hx⟩ : ∃ x, s.extract k s.size = x := ⟨_, rfl⟩
  rw [hx] at hxl
  have he : x.toList.isEmpty = false := ne_empty (by rw [hxl]; simp)
  have hx0 := byte_at (s := x) (k := 0) (c := c) (by rw [hxl]; rfl)
  have hxs : 0 < x.size := by rw [← size_toList, hxl]; simp
  have hxs' : (0 : Int) < (x.size : Int) := by omega
  have HXL := Lib.hid hxl
  clear hxl hc hr hl hs
  rcases hv with ⟨rfl, rfl⟩ | ⟨rfl, rfl⟩ | ⟨rfl, rfl⟩ | ⟨rfl, rfl⟩
  all_goals
    go_enter Tryz.func241, Tryz.ntmps241
    go_wp2_with (fail)
    go_quiet (fail)
    go_wp2_with (fail)
    go_ret
    exact ⟨rfl, Rd.move (H.out.drewN _) (k + 1), ((Upd.refl _ _).drewN _).set (by simp) _ _⟩

end Go.Proofs.YtnmpckdggddpoaaGreatDoor
