/- The script's texts: the plain law of lines, quoted texts, acts and the whole. -/
import Derived.Test.YtnmpckdggddpoaaGreatDoorSa
import Derived.Lib.IndexMore
namespace Go.Proofs.YtnmpckdggddpoaaGreatDoor
set_option linter.unusedSimpArgs false
set_option linter.unusedVariables false

/-! ### quoted texts -/
def hexV (b : UInt8) : Option Nat :=
  if 48 ≤ b.toNat ∧ b.toNat ≤ 57 then some (b.toNat - 48) else if 97 ≤ b.toNat ∧ b.toNat ≤ 102 then some (b.toNat - 87) else none
/-- What stands behind a backslash and an x. -/
def formX : List UInt8 → Option (UInt8 × List UInt8)
  | a :: b :: r' => (hexV a).bind fun x => (hexV b).map fun y => (UInt8.ofNat (16 * x + y), r')
  | _ => none
/-- What stands behind a backslash. -/
def formS : List UInt8 → Option (UInt8 × List UInt8)
  | [] => none
  | c :: r => if c = 34 then some (34, r) else if c = 92 then some (92, r) else if c = 110 then some (10, r) else if c = 116 then some (9, r) else if c = 120 then formX r else none
theorem formS_cons (c : UInt8) (r : List UInt8) : formS (c :: r) = if c = 34 then some (34, r) else if c = 92 then some (92, r) else if c = 110 then some (10, r) else if c = 116 then some (9, r) else if c = 120 then formX r else none := rfl
def textF : Nat → List UInt8 → List UInt8 → Option (List UInt8 × List UInt8)
  | 0, _, _ => none
  | _ + 1, _, [] => none
  | n + 1, acc, c :: r =>
    if c = 34 then some (acc, r)
    else if c = 92 then (match formS r with | none => none | some p => textF n (acc ++ [p.1]) p.2)
    else textF n (acc ++ [c]) r
/-- A text's rest behind its quote: what it spells behind acc, and what is left. -/
def textL (acc l : List UInt8) : Option (List UInt8 × List UInt8) := textF (l.length + 1) acc l
def quoS (l : List UInt8) : Option (List UInt8) :=
  if 4096 < l.length then none
  else match l with
    | [] => none
    | c :: r => if c = 34 then (match textL [] r with | some (x, []) => some x | _ => none) else none

theorem formS_drop {l : List UInt8} {p : UInt8 × List UInt8} (h : formS l = some p) : ∃ k, 1 ≤ k ∧ k ≤ l.length ∧ p.2 = l.drop k := by
  cases l with
  | nil => cases h
  | cons c r =>
    rw [formS_cons] at h
    split at h
    · cases h; exact ⟨1, by omega, by simp, rfl⟩
    split at h
    · cases h; exact ⟨1, by omega, by simp, rfl⟩
    split at h
    · cases h; exact ⟨1, by omega, by simp, rfl⟩
    split at h
    · cases h; exact ⟨1, by omega, by simp, rfl⟩
    split at h
    · cases r with
      | nil => cases h
      | cons a r =>
        cases r with
        | nil => cases h
        | cons b r' =>
          simp only [formX] at h
          cases h1 : hexV a with
          | none => rw [h1] at h; cases h
          | some x =>
            cases h2 : hexV b with
            | none => rw [h1, h2] at h; cases h
            | some y => rw [h1, h2] at h; cases h; exact ⟨3, by omega, by simp, rfl⟩
    · cases h
theorem textF_fuel : ∀ (n m : Nat) (acc l : List UInt8), l.length < n → l.length < m → textF n acc l = textF m acc l
  | 0, _, _, _, h, _ => by omega
  | _ + 1, 0, _, _, _, h => by omega
  | _ + 1, _ + 1, _, [], _, _ => rfl
  | n + 1, m + 1, acc, c :: r, h1, h2 => by
    unfold textF
    split
    · rfl
    split
    · cases hf : formS r with
      | none => rfl
      | some p =>
        obtain ⟨k, k1, k2, k3⟩ := formS_drop hf
        simp only [List.length_cons] at h1 h2
        have : p.2.length < n := by rw [k3, List.length_drop]; omega
        have : p.2.length < m := by rw [k3, List.length_drop]; omega
        exact textF_fuel n m _ _ (by assumption) (by assumption)
    · simp only [List.length_cons] at h1 h2
      exact textF_fuel n m _ _ (by omega) (by omega)
theorem textL_nil (acc : List UInt8) : textL acc [] = none := rfl
theorem textL_end (acc r : List UInt8) : textL acc (34 :: r) = some (acc, r) := rfl
theorem textL_bad (acc r : List UInt8) (h : formS r = none) : textL acc (92 :: r) = none := by
  unfold textL textF
  rw [if_neg (by decide), if_pos rfl, h]
theorem textL_form (acc r : List UInt8) (p : UInt8 × List UInt8) (h : formS r = some p) : textL acc (92 :: r) = textL (acc ++ [p.1]) p.2 := by
  obtain ⟨k, k1, k2, k3⟩ := formS_drop h
  unfold textL
  conv => lhs; unfold textF
  rw [if_neg (by decide), if_pos rfl, h]
  exact textF_fuel _ _ _ _ (by rw [k3, List.length_drop]; simp; omega) (by omega)
theorem textL_cons (acc r : List UInt8) (c : UInt8) (h1 : c ≠ 34) (h2 : c ≠ 92) : textL acc (c :: r) = textL (acc ++ [c]) r := by
  unfold textL
  conv => lhs; unfold textF
  rw [if_neg h1, if_neg h2]
  exact textF_fuel _ _ _ _ (by simp) (by simp)

/-! ### lines -/
def cutS (c : UInt8) : List UInt8 → List UInt8 × List UInt8 × Bool
  | [] => ([], [], false)
  | b :: l => if b = c then ([], l, true) else (b :: (cutS c l).1, (cutS c l).2.1, (cutS c l).2.2)
def linesG (cur : List UInt8) : List UInt8 → List (List UInt8)
  | [] => if cur = [] then [] else [cur]
  | b :: l => if b = 10 then cur :: linesG [] l else linesG (cur ++ [b]) l

theorem linesG_cons (cur : List UInt8) (b : UInt8) (l : List UInt8) : linesG cur (b :: l) = if b = 10 then cur :: linesG [] l else linesG (cur ++ [b]) l := rfl
theorem cutS_cons (c b : UInt8) (l : List UInt8) : cutS c (b :: l) = if b = c then ([], l, true) else (b :: (cutS c l).1, (cutS c l).2.1, (cutS c l).2.2) := rfl
theorem linesG_cut : ∀ (l cur : List UInt8), (cur ≠ [] ∨ l ≠ []) → linesG cur l = (cur ++ (cutS 10 l).1) :: linesG [] (cutS 10 l).2.1
  | [], cur, h => by
    have hc : cur ≠ [] := h.elim id (fun h => absurd rfl h)
    simp [linesG, cutS, hc]
  | b :: l, cur, _ => by
    rw [linesG_cons, cutS_cons]
    by_cases hb : b = 10
    · rw [if_pos hb, if_pos hb]; simp
    · rw [if_neg hb, if_neg hb, linesG_cut l (cur ++ [b]) (.inl (by simp))]
      simp [List.append_assoc]
theorem cutS_len (c : UInt8) : ∀ l : List UInt8, l ≠ [] → (cutS c l).2.1.length < l.length
  | [], h => absurd rfl h
  | b :: l, _ => by
    unfold cutS
    split
    · simp
    · by_cases hl : l = []
      · subst hl; simp [cutS]
      · have := cutS_len c l hl; simp only [List.length_cons]; omega
theorem cutS_le (c : UInt8) (l : List UInt8) : (cutS c l).1.length ≤ l.length ∧ (cutS c l).2.1.length ≤ l.length := by
  induction l with
  | nil => simp [cutS]
  | cons b l ih => unfold cutS; split <;> simp <;> omega
/-- How the library says it. -/
theorem cut_one (c : UInt8) : ∀ l : List UInt8, Lib.cut l [c] = cutS c l
  | [] => rfl
  | b :: l => by
    have ih := cut_one c l
    unfold Lib.cut at ih ⊢
    rw [cutS_cons]
    by_cases hb : b = c
    · subst hb
      have e : Lib.index (b :: l) [b] = 0 := by unfold Lib.index; rw [if_pos (by simp [List.isPrefixOf])]
      rw [e, if_pos rfl, if_pos (by decide)]
      simp
    · have hn : ¬ ([c] : List UInt8).isPrefixOf (b :: l) = true := by simp [List.isPrefixOf]; exact fun h => hb h.symm
      have hge := Lib.index_ge l [c]
      rw [if_neg hb, ← ih]
      by_cases hm : Lib.index l [c] = -1
      · have e : Lib.index (b :: l) [c] = -1 := by unfold Lib.index; rw [if_neg hn, if_pos (by simpa using hm)]
        rw [e, hm]; simp
      · have e : Lib.index (b :: l) [c] = Lib.index l [c] + 1 := by conv => lhs; unfold Lib.index
                                                                    rw [if_neg hn, if_neg (by simpa using hm)]
        have h0 : 0 ≤ Lib.index l [c] := by omega
        rw [e, if_pos h0, if_pos (by omega)]
        have e2 : (Lib.index l [c] + 1).toNat = (Lib.index l [c]).toNat + 1 := by omega
        rw [e2]
        simp

theorem linesG_len : ∀ (l cur : List UInt8), (linesG cur l).length = l.count 10 + (if (cur ++ l) = [] ∨ l.getLast? = some 10 then 0 else 1)
  | [], cur => by by_cases h : cur = [] <;> simp [linesG, h]
  | b :: l, cur => by
    unfold linesG
    by_cases hb : b = 10
    · subst hb
      rw [if_pos rfl, List.length_cons, linesG_len l [], List.count_cons_self]
      cases l with
      | nil => simp
      | cons c l => simp [List.getLast?_cons_cons]; omega
    · rw [if_neg hb, linesG_len l (cur ++ [b]), List.count_cons_of_ne (by simpa using hb)]
      cases l with
      | nil => simp [hb]
      | cons c l => simp [List.getLast?_cons_cons]
theorem lines_many (l : List UInt8) : 1000 < (linesG [] l).length ↔ 1000 ≤ Lib.countByte (Lib.trimSuffix l [10]) 10 := by
  rw [linesG_len]
  unfold Lib.countByte Lib.trimSuffix Lib.hasSuffix
  by_cases hl : l = []
  · subst hl; simp [List.isSuffixOf]
  · obtain ⟨x, hx⟩ : ∃ x, l.getLast? = some x := ⟨_, List.getLast?_eq_some_getLast hl⟩
    obtain ⟨r, rfl⟩ : ∃ r, l = r ++ [x] := ⟨l.dropLast, by
      have := List.dropLast_concat_getLast hl
      rw [List.getLast?_eq_some_getLast hl] at hx; cases hx; exact this.symm⟩
    by_cases h10 : x = 10
    · subst h10
      have hs : ([10] : List UInt8).isSuffixOf (r ++ [10]) = true := by simp [List.isSuffixOf_iff_suffix]
      rw [if_pos hs]
      simp [List.count_append]
      omega
    · have hs : ¬ ([10] : List UInt8).isSuffixOf (r ++ [x]) = true := by
        rw [List.isSuffixOf_iff_suffix]
        rintro ⟨t, ht⟩
        have := congrArg List.getLast? ht
        simp at this
        exact h10 this.symm
      rw [if_neg hs]
      simp [h10]
      omega

/-! ### acts -/
structure Ac where
  kind : Nat
  n : Nat
  s : List UInt8
deriving DecidableEq
structure Sp where
  cells : Nat
  stack : Nat
  l : List Ac
  sc : Bool
  ss : Bool
def wCells : List UInt8 := [99, 101, 108, 108, 115]
def wStack : List UInt8 := [115, 116, 97, 99, 107]
def wLine : List UInt8 := [108, 105, 110, 101]
def wRun : List UInt8 := [114, 117, 110]
def wColl : List UInt8 := [99, 111, 108, 108, 101, 99, 116]
def actS (w r : List UInt8) (m : Bool) : Option Ac :=
  if w = wLine ∧ m = true then (quoS r).map fun x => ⟨1, 0, x⟩
  else if w = wRun ∧ m = true then (numB r).map fun n => ⟨2, n, []⟩
  else if w = wColl ∧ m = false then some ⟨3, 0, []⟩ else none
/-- A line: what is wrong, or how it stands behind it. -/
def stepS (p : Sp) (x : List UInt8) : Nat ⊕ Sp :=
  if (cutS 32 x).1 = wCells ∨ (cutS 32 x).1 = wStack then
    match numB (cutS 32 x).2.1 with
    | none => .inl 5
    | some n =>
      if p.l ≠ [] ∨ ((cutS 32 x).1 = wCells ∧ p.sc = true) ∨ ((cutS 32 x).1 = wStack ∧ p.ss = true) then .inl 5
      else if ((cutS 32 x).1 = wCells ∧ (n < 2 ∨ 32768 < n)) ∨ ((cutS 32 x).1 = wStack ∧ (n < 1 ∨ 8192 < n)) then .inl 2
      else if (cutS 32 x).1 = wCells then .inr { p with cells := n, sc := true } else .inr { p with stack := n, ss := true }
  else
    match actS (cutS 32 x).1 (cutS 32 x).2.1 (cutS 32 x).2.2 with
    | none => .inl 5
    | some a => .inr { p with l := p.l ++ [a] }
/-- What is wrong first, and the line; or how it stands behind all. -/
def goS (p : Sp) (k : Nat) : List (List UInt8) → (Nat × Nat) ⊕ Sp
  | [] => .inr p
  | x :: r => match stepS p x with
    | .inl e => .inl (e, k)
    | .inr p' => goS p' (k + 1) r
def spNew : Sp := ⟨32768, 8192, [], false, false⟩
def parseS (t : List UInt8) : (Nat × Nat) ⊕ Sp :=
  if 65536 < t.length then .inl (4, 0) else if 1000 < (linesG [] t).length then .inl (3, 0) else goS spNew 1 (linesG [] t)

end Go.Proofs.YtnmpckdggddpoaaGreatDoor
