/- A script's beginnings: the plain law of ScriptCuts. -/
import Derived.Test.YtnmpckdggddpoaaGreatDoorSc
namespace Go.Proofs.YtnmpckdggddpoaaGreatDoor
set_option linter.unusedSimpArgs false
set_option linter.unusedVariables false

theorem linesG_snoc (b : List UInt8) : ∀ (a cur : List UInt8), linesG cur (a ++ 10 :: b) = linesG cur (a ++ [10]) ++ linesG [] b
  | [], cur => by simp [linesG]
  | c :: a, cur => by
    have h1 := linesG_snoc b a []
    have h2 := linesG_snoc b a (cur ++ [c])
    simp only [List.cons_append]
    rw [linesG_cons, linesG_cons]
    split
    · rw [h1]; rfl
    · exact h2
/-- A beginning that ends with a line's end, or all. -/
theorem lines_cut (t : List UInt8) (k : Nat) (h : k = 0 ∨ t.length ≤ k ∨ t[k - 1]? = some 10) : linesG [] (t.take k) <+: linesG [] t := by
  rcases h with h | h | h
  · subst h; exact ⟨_, by simp [linesG]; rfl⟩
  · rw [List.take_of_length_le h]; exact List.prefix_refl _
  · by_cases h0 : k = 0
    · subst h0; exact ⟨_, by simp [linesG]; rfl⟩
    obtain ⟨j, rfl⟩ : ∃ j, k = j + 1 := ⟨k - 1, by omega⟩
    rw [Nat.add_sub_cancel] at h
    obtain ⟨hlt, hj⟩ := List.getElem?_eq_some_iff.1 h
    have e : t = t.take j ++ 10 :: t.drop (j + 1) := by
      conv => lhs; rw [← List.take_append_drop j t, List.drop_eq_getElem_cons hlt, hj]
    have e2 : t.take (j + 1) = t.take j ++ [10] := by rw [List.take_add_one, h]; rfl
    have h2 := linesG_snoc (t.drop (j + 1)) (t.take j) []
    rw [← e] at h2
    rw [e2, h2]
    exact ⟨_, rfl⟩

theorem stepS_grow {p r : Sp} {x : List UInt8} (h : stepS p x = .inr r) : p.l <+: r.l ∧ (p.l ≠ [] → r.cells = p.cells ∧ r.stack = p.stack) := by
  unfold stepS at h
  split at h
  · split at h
    · cases h
    · split at h
      · cases h
      · rename_i hn
        split at h
        · cases h
        · have hl : p.l = [] := Classical.byContradiction fun hc => hn (.inl hc)
          split at h <;> (cases h; exact ⟨List.prefix_refl _, fun hc => absurd hl hc⟩)
  · split at h
    · cases h
    · cases h
      exact ⟨⟨_, rfl⟩, fun _ => ⟨rfl, rfl⟩⟩
theorem goS_grow : ∀ (l : List (List UInt8)) (p r : Sp) (k : Nat), goS p k l = .inr r → p.l <+: r.l ∧ (p.l ≠ [] → r.cells = p.cells ∧ r.stack = p.stack)
  | [], p, r, k, h => by cases h; exact ⟨List.prefix_refl _, fun _ => ⟨rfl, rfl⟩⟩
  | x :: l, p, r, k, h => by
    unfold goS at h
    cases hs : stepS p x with
    | inl e => rw [hs] at h; cases h
    | inr q =>
      rw [hs] at h
      obtain ⟨h1, h2⟩ := stepS_grow hs
      obtain ⟨h3, h4⟩ := goS_grow l q r (k + 1) h
      refine ⟨h1.trans h3, fun hp => ?_⟩
      have hq : q.l ≠ [] := fun e => by rw [e] at h1; exact hp (List.prefix_nil.1 h1)
      exact ⟨(h4 hq).1.trans (h2 hp).1, (h4 hq).2.trans (h2 hp).2⟩
theorem goS_cons (p : Sp) (k : Nat) (x : List UInt8) (r : List (List UInt8)) : goS p k (x :: r) = (match stepS p x with | .inl e => .inl (e, k) | .inr q => goS q (k + 1) r) := rfl
theorem goS_app : ∀ (a b : List (List UInt8)) (p : Sp) (k : Nat), goS p k (a ++ b) = (match goS p k a with | .inl e => .inl e | .inr q => goS q (k + a.length) b)
  | [], b, p, k => rfl
  | x :: a, b, p, k => by
    show goS p k (x :: (a ++ b)) = _
    rw [goS_cons, goS_cons]
    cases stepS p x with
    | inl e => rfl
    | inr q =>
      show goS q (k + 1) (a ++ b) = (match goS q (k + 1) a with | .inl e => .inl e | .inr q => goS q (k + (x :: a).length) b)
      rw [goS_app a b q (k + 1), List.length_cons, Nat.add_assoc, Nat.add_comm 1]
theorem parse_cut {t q : List UInt8} (hq : linesG [] q <+: linesG [] t) (hl : q.length ≤ t.length) {p : Sp} (h : parseS t = .inr p) :
    ∃ r, parseS q = .inr r ∧ r.l <+: p.l ∧ (r.l ≠ [] → r.cells = p.cells ∧ r.stack = p.stack) := by
  unfold parseS at h ⊢
  split at h
  · cases h
  split at h
  · cases h
  rename_i h1 h2
  have h3 : (linesG [] q).length ≤ (linesG [] t).length := hq.length_le
  rw [if_neg (by omega), if_neg (by omega)]
  obtain ⟨b, hb⟩ := hq
  rw [← hb, goS_app] at h
  cases hg : goS spNew 1 (linesG [] q) with
  | inl e => rw [hg] at h; cases h
  | inr r =>
    rw [hg] at h
    obtain ⟨h4, h5⟩ := goS_grow _ _ _ _ h
    exact ⟨r, rfl, h4, fun hr => ⟨(h5 hr).1.symm, (h5 hr).2.symm⟩⟩

end Go.Proofs.YtnmpckdggddpoaaGreatDoor
