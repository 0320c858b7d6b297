/- What a lexer tells of a text that is wholly one quoted text: the plain law, over what its parts promise. -/
import Derived.Test.YtnmpckdggddpoaaGreatDoorSc
namespace Go.Proofs.YtnmpckdggddpoaaGreatDoor
set_option linter.unusedSimpArgs false
set_option linter.unusedVariables false

/-- A gap from a to b: none ahead of a quote; it doesn't end with a quote. -/
structure GapR (s : List UInt8) (a b : Nat) : Prop where
  le : a ≤ b
  ub : b ≤ s.length
  q : s[a]? = some 34 → b = a
  last : a < b → s[b - 1]? ≠ some 34
/-- A token from a to b. -/
structure OneR (s : List UInt8) (a b : Nat) (kind at_ num : Int) (t : List UInt8) : Prop where
  lt : a < b
  ub : b ≤ s.length
  pl : at_ = a
  txt : kind = 2 → s[a]? = some 34
  q : s[a]? = some 34 → kind = 2 ∧ num = 0 ∧ textL [] (s.drop (a + 1)) = some (t, s.drop b)
def GapF (s : List UInt8) (a : Nat) : Prop := a < s.length ∧ s[a]? ≠ some 34
def OneF (s : List UInt8) (a : Nat) : Prop := a < s.length ∧ (s[a]? = some 34 → textL [] (s.drop (a + 1)) = none)
/-- How it stands between two tokens: at p, n read; the first one. -/
def LexI (s : List UInt8) (p n : Nat) (k0 a0 n0 : Int) (t0 : List UInt8) : Prop :=
  (n = 0 → GapR s 0 p) ∧ (0 < n → ∃ p0 p1, GapR s 0 p0 ∧ OneR s p0 p1 k0 a0 n0 t0 ∧ p1 ≤ p ∧ (n = 1 → GapR s p1 p) ∧ (1 < n → p1 < s.length))
/-- What is told at the end. -/
def LexOk (s : List UInt8) (er : Int) (n : Nat) (k0 a0 n0 : Int) (t0 : List UInt8) : Prop :=
  (quoS s = none ∧ (er = 0 → n = 2 → 0 < s.length ∧ (k0 = 2 → a0 = 0 → s[s.length - 1]? ≠ some 34))) ∨
  (quoS s = some t0 ∧ er = 0 ∧ n = 2 ∧ k0 = 2 ∧ a0 = 0 ∧ n0 = 0 ∧ 0 < s.length ∧ s[s.length - 1]? = some 34)

theorem GapR.refl {s : List UInt8} {a : Nat} (h : a ≤ s.length) : GapR s a a := ⟨Nat.le_refl _, h, fun _ => rfl, fun h => absurd h (by omega)⟩
theorem GapR.trans {s : List UInt8} {a b c : Nat} (h : GapR s a b) (k : GapR s b c) : GapR s a c :=
  ⟨Nat.le_trans h.le k.le, k.ub, fun hq => by have := h.q hq; subst this; exact k.q hq, fun hac => by
    by_cases hbc : b < c
    · exact k.last hbc
    · have := k.le
      have : b = c := by omega
      subst this
      exact h.last hac⟩
theorem textF_last : ∀ (n : Nat) (acc l x : List UInt8), textF n acc l = some (x, []) → l.getLast? = some 34
  | 0, _, _, _, h => by cases h
  | _ + 1, _, [], _, h => by cases h
  | n + 1, acc, c :: r, x, h => by
    unfold textF at h
    split at h
    · rename_i hc
      cases h
      subst hc
      rfl
    split at h
    · split at h
      · cases h
      · rename_i p hp
        obtain ⟨k, k1, k2, k3⟩ := formS_drop hp
        have := textF_last n _ _ x h
        rw [k3, List.getLast?_drop] at this
        split at this
        · cases this
        · rw [List.getLast?_cons, this]; rfl
    · have := textF_last n _ _ x h
      rw [List.getLast?_cons, this]; rfl
theorem quoS_some {s x : List UInt8} (h : quoS s = some x) : s.length ≤ 4096 ∧ 0 < s.length ∧ s[0]? = some 34 ∧ textL [] (s.drop 1) = some (x, []) ∧ s[s.length - 1]? = some 34 := by
  unfold quoS at h
  split at h
  · cases h
  cases s with
  | nil => cases h
  | cons c r =>
    simp only [] at h
    split at h
    · rename_i hc
      subst hc
      split at h
      · rename_i y hy
        cases h
        refine ⟨by omega, by simp, rfl, hy, ?_⟩
        have := textF_last _ _ _ _ hy
        rw [← List.getLast?_eq_getElem?, List.getLast?_cons, this]; rfl
      · cases h
    · cases h
theorem quoS_of {s x : List UInt8} (hl : s.length ≤ 4096) (h0 : s[0]? = some 34) (ht : textL [] (s.drop 1) = some (x, [])) : quoS s = some x := by
  unfold quoS
  rw [if_neg (by omega)]
  cases s with
  | nil => cases h0
  | cons c r =>
    have hc : c = 34 := by simpa using h0
    subst hc
    have ht' : textL [] r = some (x, []) := ht
    simp only [if_true, ht']
/-- Nothing fails in a text that is wholly one. -/
theorem LexI.whole {s : List UInt8} {p n : Nat} {k0 a0 n0 : Int} {t0 x : List UInt8} (h : LexI s p n k0 a0 n0 t0) (hq : quoS s = some x) :
    (n = 0 ∧ p = 0) ∨ (n = 1 ∧ p = s.length ∧ k0 = 2 ∧ a0 = 0 ∧ n0 = 0 ∧ t0 = x) := by
  obtain ⟨q1, q2, q3, q4, _⟩ := quoS_some hq
  by_cases hn : n = 0
  · exact .inl ⟨hn, (h.1 hn).q q3⟩
  · obtain ⟨p0, p1, g0, o1, hp, h1, h2⟩ := h.2 (by omega)
    have e0 : p0 = 0 := g0.q q3
    subst e0
    obtain ⟨e1, e2, e3⟩ := o1.q q3
    rw [show (0 : Nat) + 1 = 1 from rfl, q4] at e3
    injection e3 with e3
    injection e3 with e4 e5
    have hp1 : s.length ≤ p1 := List.drop_eq_nil_iff.1 e5.symm
    have hub := o1.ub
    by_cases hn2 : 1 < n
    · have := h2 hn2; omega
    · have hn1 : n = 1 := by omega
      have := (h1 hn1).le
      have := (h1 hn1).ub
      exact .inr ⟨hn1, by omega, e1, o1.pl, e2, e4.symm⟩
theorem LexI.gapF {s : List UInt8} {p n : Nat} {k0 a0 n0 : Int} {t0 : List UInt8} (h : LexI s p n k0 a0 n0 t0) (hf : OneF s p) : quoS s = none := by
  cases hq : quoS s with
  | none => rfl
  | some x =>
    exfalso
    obtain ⟨q1, q2, q3, q4, _⟩ := quoS_some hq
    rcases h.whole hq with ⟨_, rfl⟩ | ⟨_, rfl, _⟩
    · have := hf.2 q3
      rw [show (0 : Nat) + 1 = 1 from rfl, q4] at this
      cases this
    · have := hf.1; omega
theorem gapF_start {s : List UInt8} (hf : GapF s 0) : quoS s = none := by
  cases hq : quoS s with
  | none => rfl
  | some x => exact absurd (quoS_some hq).2.2.1 hf.2
/-- A token is read. -/
theorem LexI.one {s : List UInt8} {p n p1 : Nat} {k0 a0 n0 : Int} {t0 : List UInt8} (h : LexI s p n k0 a0 n0 t0) {k a m : Int} {t : List UInt8} (ho : OneR s p p1 k a m t) (hp : p < s.length) :
    (n = 0 → LexI s p1 1 k a m t) ∧ (0 < n → LexI s p1 (n + 1) k0 a0 n0 t0) := by
  refine ⟨fun hn => ⟨fun h => by omega, fun _ => ⟨p, p1, h.1 hn, ho, Nat.le_refl _, fun _ => GapR.refl ho.ub, fun h => by omega⟩⟩, fun hn => ⟨fun h => by omega, fun _ => ?_⟩⟩
  obtain ⟨q0, q1, g0, o1, hq, h1, h2⟩ := h.2 hn
  have := ho.lt
  exact ⟨q0, q1, g0, o1, by omega, fun h => by omega, fun _ => by omega⟩
/-- A gap is passed over. -/
theorem LexI.gap {s : List UInt8} {p p1 n : Nat} {k0 a0 n0 : Int} {t0 : List UInt8} (h : LexI s p n k0 a0 n0 t0) (hg : GapR s p p1) : LexI s p1 n k0 a0 n0 t0 := by
  refine ⟨fun hn => (h.1 hn).trans hg, fun hn => ?_⟩
  obtain ⟨q0, q1, g0, o1, hq, h1, h2⟩ := h.2 hn
  exact ⟨q0, q1, g0, o1, Nat.le_trans hq hg.le, fun h => (h1 h).trans hg, h2⟩
/-- Behind the last token. -/
theorem LexI.done {s : List UInt8} {n : Nat} {k0 a0 n0 : Int} {t0 : List UInt8} (h : LexI s s.length n k0 a0 n0 t0) (hl : s.length ≤ 4096) : LexOk s 0 (n + 1) k0 a0 n0 t0 := by
  cases hq : quoS s with
  | some x =>
    obtain ⟨q1, q2, q3, q4, q5⟩ := quoS_some hq
    rcases h.whole hq with ⟨_, e⟩ | ⟨e1, _, e2, e3, e4, e5⟩
    · omega
    · subst e1; subst e5; exact .inr ⟨hq, rfl, rfl, e2, e3, e4, q2, q5⟩
  | none =>
    refine .inl ⟨hq, fun _ hn => ?_⟩
    have hn1 : n = 1 := by omega
    obtain ⟨p0, p1, g0, o1, hp, h1, h2⟩ := h.2 (by omega)
    have hlt := o1.lt
    have hub := o1.ub
    refine ⟨by omega, fun hk ha hlast => ?_⟩
    have e0 : p0 = 0 := by have := o1.pl; omega
    subst e0
    have hs := o1.txt hk
    obtain ⟨_, _, e3⟩ := o1.q hs
    have hg := h1 hn1
    have hp1 : p1 = s.length := by
      by_cases hc : p1 < s.length
      · exact absurd hlast (hg.last hc)
      · omega
    subst hp1
    rw [List.drop_eq_nil_of_le (Nat.le_refl _)] at e3
    rw [quoS_of hl hs e3] at hq
    cases hq

end Go.Proofs.YtnmpckdggddpoaaGreatDoor
