/- Words as numbers, and an arena as a list of blocks: the plain side, without Go and memory. -/
import Derived.WalkKit
namespace Go.Proofs.YtnmpckdggddpoaaGreatDoor
set_option linter.unusedSimpArgs false
set_option linter.unusedVariables false

/-- A number of 64 bits without a sign. -/
def U64 (x : Int) : Prop := 0 ≤ x ∧ x ≤ 18446744073709551615
def I64 (x : Int) : Prop := -9223372036854775808 ≤ x ∧ x ≤ 9223372036854775807

def wIsInt (w : Int) : Bool := w % 2 == 1
def wInt (n : Int) : Int := (2 * n + 1) % 18446744073709551616
def wNum (w : Int) : Int := if w ≤ 9223372036854775807 then w / 2 else (w - 18446744073709551616) / 2
def wPtr (a : Int) : Int := if a < 0 ∨ 2147483647 < a then 0 else 2 * a
def wAddr (w : Int) : Int := if w % 2 = 1 ∨ 2147483647 < w / 2 then 0 else w / 2
def wHead (t s : Int) : Int := if t < 0 ∨ 255 < t ∨ s < 0 ∨ 2147483647 < s then 0 else wInt (256 * s + t)
def wBad (w : Int) : Bool := !wIsInt w || decide (wNum w < 0) || decide (2147483647 < wNum w / 256)
def wTag (w : Int) : Int := if wBad w then 0 else wNum w % 256
def wSize (w : Int) : Int := if wBad w then 0 else wNum w / 256

theorem wInt_u (n : Int) : U64 (wInt n) := by unfold U64 wInt; omega
theorem wPtr_u (a : Int) : U64 (wPtr a) := by unfold U64 wPtr; split <;> omega
theorem wHead_u (t s : Int) : U64 (wHead t s) := by
  unfold wHead
  split
  · unfold U64; omega
  · exact wInt_u _
theorem wNum_b {w : Int} (h : U64 w) : -4611686018427387904 ≤ wNum w ∧ wNum w ≤ 4611686018427387903 := by unfold U64 at h; unfold wNum; split <;> omega
theorem wAddr_b {w : Int} (h : U64 w) : 0 ≤ wAddr w ∧ wAddr w ≤ 2147483647 := by unfold U64 at h; unfold wAddr; split <;> omega
theorem wNum_wInt {n : Int} (h : -4611686018427387904 ≤ n) (h' : n ≤ 4611686018427387903) : wNum (wInt n) = n := by unfold wNum wInt; split <;> omega
theorem wIsInt_wInt (n : Int) : wIsInt (wInt n) = true := by unfold wIsInt wInt; simp
theorem wIsInt_wPtr (a : Int) : wIsInt (wPtr a) = false := by unfold wIsInt wPtr; split <;> simp <;> omega
theorem wAddr_wPtr {a : Int} (h : 0 ≤ a) (h' : a ≤ 2147483647) : wAddr (wPtr a) = a := by
  unfold wAddr wPtr; rw [if_neg (by omega)]; rw [if_neg (by omega)]; omega
theorem wHead_is {t s : Int} (ht : 0 ≤ t) (ht' : t ≤ 255) (hs : 0 ≤ s) (hs' : s ≤ 2147483647) : wHead t s = wInt (256 * s + t) := by
  unfold wHead; rw [if_neg (by omega)]
theorem wBad_head {t s : Int} (ht : 0 ≤ t) (ht' : t ≤ 255) (hs : 0 ≤ s) (hs' : s ≤ 2147483647) : wBad (wHead t s) = false := by
  rw [wHead_is ht ht' hs hs']; unfold wBad
  rw [wNum_wInt (by omega) (by omega), wIsInt_wInt]
  have h1 : ¬ 256 * s + t < 0 := by omega
  have h2 : ¬ 2147483647 < (256 * s + t) / 256 := by omega
  simp [h1, h2]
theorem wTag_head {t s : Int} (ht : 0 ≤ t) (ht' : t ≤ 255) (hs : 0 ≤ s) (hs' : s ≤ 2147483647) : wTag (wHead t s) = t := by
  unfold wTag; rw [wBad_head ht ht' hs hs', wHead_is ht ht' hs hs', wNum_wInt (by omega) (by omega)]; simp; omega
theorem wSize_head {t s : Int} (ht : 0 ≤ t) (ht' : t ≤ 255) (hs : 0 ≤ s) (hs' : s ≤ 2147483647) : wSize (wHead t s) = s := by
  unfold wSize; rw [wBad_head ht ht' hs hs', wHead_is ht ht' hs hs', wNum_wInt (by omega) (by omega)]; simp; omega
theorem wSize_b {w : Int} : 0 ≤ wSize w ∧ wSize w ≤ 2147483647 := by
  unfold wSize; split
  · omega
  · rename_i h; unfold wBad at h; simp at h; omega
theorem wTag_b {w : Int} : 0 ≤ wTag w ∧ wTag w ≤ 255 := by
  unfold wTag; split <;> omega

/-- A block: its tag and its fields. -/
structure Bk where
  tag : Nat
  fs : List Int

def Bk.ok (b : Bk) : Prop := (b.tag ≤ 200 ∨ b.tag = 202) ∧ b.fs.length ≤ 4096 ∧ ∀ x ∈ b.fs, U64 x

/-- The cells of blocks, one behind the other. -/
def flat : List Bk → List Int
  | [] => []
  | b :: L => wHead b.tag b.fs.length :: (b.fs ++ flat L)
/-- Their addresses, if the first one's head lies at p. -/
def starts (p : Nat) : List Bk → List Nat
  | [] => []
  | b :: L => (p + 1) :: starts (p + 1 + b.fs.length) L
def adr (p : Nat) : List Bk → Nat → Nat
  | [], _ => 0
  | _ :: _, 0 => p + 1
  | b :: L, i + 1 => adr (p + 1 + b.fs.length) L i

/-- Does an inner slot lie in a block at a distance above 0? -/
def Bk.inner (b : Bk) (d : Nat) : Bool := decide (d < b.fs.length) && (b.tag == 200) && (b.fs.getD (d - 1) 0 == wHead 201 d)

/-- The block (its number), and the distance, to which an address leads. -/
def look (p : Nat) : List Bk → Nat → Option (Nat × Nat)
  | [], _ => none
  | b :: L, x =>
    if x < p + 1 then none
    else if x = p + 1 then some (0, 0)
    else if x < p + 1 + b.fs.length then (if b.inner (x - (p + 1)) then some (0, x - (p + 1)) else none)
    else (look (p + 1 + b.fs.length) L x).map fun r => (r.1 + 1, r.2)

theorem flat_append (L M : List Bk) : flat (L ++ M) = flat L ++ flat M := by
  induction L with
  | nil => rfl
  | cons b L ih => simp [flat, ih]
theorem starts_length (p : Nat) (L : List Bk) : (starts p L).length = L.length := by
  induction L generalizing p with
  | nil => rfl
  | cons b L ih => simp [starts, ih]
theorem starts_append (p : Nat) (L : List Bk) (b : Bk) : starts p (L ++ [b]) = starts p L ++ [p + (flat L).length + 1] := by
  induction L generalizing p with
  | nil => simp [starts, flat]
  | cons c L ih => simp [starts, flat, ih]; omega
theorem starts_get (p : Nat) (L : List Bk) (i : Nat) (h : i < L.length) : (starts p L)[i]? = some (adr p L i) := by
  induction L generalizing p i with
  | nil => simp at h
  | cons b L ih =>
    cases i with
    | zero => simp [starts, adr]
    | succ i => simp [starts, adr]; exact ih _ _ (by simpa using h)
theorem adr_lo (p : Nat) (L : List Bk) (i : Nat) (h : i < L.length) : p + 1 ≤ adr p L i := by
  induction L generalizing p i with
  | nil => simp at h
  | cons b L ih =>
    cases i with
    | zero => simp [adr]
    | succ i => have := ih (p + 1 + b.fs.length) i (by simpa using h); simp only [adr]; omega
theorem adr_hi (p : Nat) (L : List Bk) (i : Nat) (b : Bk) (h : L[i]? = some b) : adr p L i + b.fs.length ≤ p + (flat L).length := by
  induction L generalizing p i with
  | nil => simp at h
  | cons c L ih =>
    cases i with
    | zero => simp at h; subst h; simp [adr, flat]; omega
    | succ i => have := ih (p + 1 + c.fs.length) i (by simpa using h); simp [adr, flat] at this ⊢; omega
theorem adr_step (p : Nat) (L : List Bk) (i : Nat) (b : Bk) (h : L[i]? = some b) (h' : i + 1 < L.length) : adr p L (i + 1) = adr p L i + b.fs.length + 1 := by
  induction L generalizing p i with
  | nil => simp at h
  | cons c L ih =>
    cases i with
    | zero =>
      simp at h; subst h
      cases L with
      | nil => simp at h'
      | cons c L => simp [adr]
    | succ i => have := ih (p + 1 + c.fs.length) i (by simpa using h) (by simpa using h'); simp [adr] at this ⊢; omega
/-- The head of block i, and its fields, among the cells. -/
theorem flat_head (p : Nat) (L : List Bk) (i : Nat) (b : Bk) (h : L[i]? = some b) : (flat L)[adr p L i - 1 - p]? = some (wHead b.tag b.fs.length) := by
  induction L generalizing p i with
  | nil => simp at h
  | cons c L ih =>
    cases i with
    | zero => simp at h; subst h; simp [adr, flat]
    | succ i =>
      have hi : L[i]? = some b := by simpa using h
      have h1 := adr_lo (p + 1 + c.fs.length) L i (List.getElem?_eq_some_iff.1 hi).1
      have h2 := ih (p + 1 + c.fs.length) i hi
      simp only [adr, flat]
      rw [show adr (p + 1 + c.fs.length) L i - 1 - p = (adr (p + 1 + c.fs.length) L i - 1 - (p + 1 + c.fs.length) + c.fs.length) + 1 by omega, List.getElem?_cons_succ,
        List.getElem?_append_right (by omega), show adr (p + 1 + c.fs.length) L i - 1 - (p + 1 + c.fs.length) + c.fs.length - c.fs.length = adr (p + 1 + c.fs.length) L i - 1 - (p + 1 + c.fs.length) by omega]
      exact h2
theorem flat_field (p : Nat) (L : List Bk) (i k : Nat) (b : Bk) (h : L[i]? = some b) (hk : k < b.fs.length) : (flat L)[adr p L i + k - p]? = b.fs[k]? := by
  induction L generalizing p i with
  | nil => simp at h
  | cons c L ih =>
    cases i with
    | zero =>
      simp at h; subst h
      simp only [adr, flat]
      rw [show p + 1 + k - p = k + 1 by omega, List.getElem?_cons_succ, List.getElem?_append_left hk]
    | succ i =>
      have hi : L[i]? = some b := by simpa using h
      have h1 := adr_lo (p + 1 + c.fs.length) L i (List.getElem?_eq_some_iff.1 hi).1
      have h2 := ih (p + 1 + c.fs.length) i hi
      simp only [adr, flat]
      rw [show adr (p + 1 + c.fs.length) L i + k - p = (adr (p + 1 + c.fs.length) L i + k - (p + 1 + c.fs.length) + c.fs.length) + 1 by omega, List.getElem?_cons_succ,
        List.getElem?_append_right (by omega), show adr (p + 1 + c.fs.length) L i + k - (p + 1 + c.fs.length) + c.fs.length - c.fs.length = adr (p + 1 + c.fs.length) L i + k - (p + 1 + c.fs.length) by omega]
      exact h2

/-- A field that is put. -/
def putF (L : List Bk) (i k : Nat) (x : Int) : List Bk := L.modify i fun b => { b with fs := b.fs.set k x }

theorem putF_length (L : List Bk) (i k : Nat) (x : Int) : (putF L i k x).length = L.length := by simp [putF]
theorem putF_starts (p : Nat) (L : List Bk) (i k : Nat) (x : Int) : starts p (putF L i k x) = starts p L := by
  unfold putF
  induction L generalizing p i with
  | nil => cases i <;> simp [starts]
  | cons b L ih =>
    cases i with
    | zero => simp [starts]
    | succ i => simp [starts]; exact ih _ _
theorem putF_flat (p : Nat) (L : List Bk) (i k : Nat) (x : Int) (b : Bk) (h : L[i]? = some b) (hk : k < b.fs.length) : flat (putF L i k x) = (flat L).set (adr p L i + k - p) x := by
  unfold putF
  induction L generalizing p i with
  | nil => simp at h
  | cons c L ih =>
    cases i with
    | zero =>
      simp at h; subst h
      simp only [List.modify_zero_cons, flat, adr, List.length_set]
      rw [show p + 1 + k - p = k + 1 by omega, List.set_cons_succ, List.set_append_left _ _ hk]
    | succ i =>
      have hi : L[i]? = some b := by simpa using h
      have h1 := adr_lo (p + 1 + c.fs.length) L i (List.getElem?_eq_some_iff.1 hi).1
      have h2 := ih (p + 1 + c.fs.length) i hi
      simp only [List.modify_succ_cons, flat, adr]
      rw [h2, show adr (p + 1 + c.fs.length) L i + k - p = (adr (p + 1 + c.fs.length) L i + k - (p + 1 + c.fs.length) + c.fs.length) + 1 by omega, List.set_cons_succ, List.set_append_right _ _ (by omega),
        show adr (p + 1 + c.fs.length) L i + k - (p + 1 + c.fs.length) + c.fs.length - c.fs.length = adr (p + 1 + c.fs.length) L i + k - (p + 1 + c.fs.length) by omega]
theorem putF_flat_length (L : List Bk) (i k : Nat) (x : Int) : (flat (putF L i k x)).length = (flat L).length := by
  unfold putF
  induction L generalizing i with
  | nil => cases i <;> simp [flat]
  | cons b L ih =>
    cases i with
    | zero => simp [flat]
    | succ i => simp [flat]; exact ih i

/-- What a search among the addresses tells. -/
theorem look_found (p : Nat) (L : List Bk) (x i : Nat) (h : i < L.length) (hx : adr p L i = x) : look p L x = some (i, 0) := by
  induction L generalizing p i with
  | nil => simp at h
  | cons b L ih =>
    cases i with
    | zero => simp [adr] at hx; subst hx; simp [look]
    | succ i =>
      have hi : i < L.length := by simpa using h
      simp only [adr] at hx
      have h1 := adr_lo (p + 1 + b.fs.length) L i hi
      simp only [look]
      rw [if_neg (by omega), if_neg (by omega), if_neg (by omega), ih _ _ hi hx]
      rfl
theorem look_first (p : Nat) (L : List Bk) (x : Nat) (h : 0 < L.length → x < adr p L 0) : look p L x = none := by
  cases L with
  | nil => rfl
  | cons b L => have := h (by simp); simp [adr] at this; simp [look]; omega
theorem look_in (p : Nat) (L : List Bk) (x j : Nat) (b : Bk) (h : L[j]? = some b) (h1 : adr p L j < x) (h2 : j + 1 < L.length → x < adr p L (j + 1)) :
    look p L x = if b.inner (x - adr p L j) then some (j, x - adr p L j) else none := by
  induction L generalizing p j with
  | nil => simp at h
  | cons c L ih =>
    cases j with
    | zero =>
      simp at h; subst h
      simp [adr] at h1
      show look p (c :: L) x = if c.inner (x - (p + 1)) then some (0, x - (p + 1)) else none
      simp only [look]
      rw [if_neg (by omega), if_neg (by omega)]
      by_cases hx : x < p + 1 + c.fs.length
      · rw [if_pos hx]
      · rw [if_neg hx]
        have hin : c.inner (x - (p + 1)) = false := by
          have : ¬ (x - (p + 1) < c.fs.length) := by omega
          simp [Bk.inner, this]
        have : look (p + 1 + c.fs.length) L x = none := by
          apply look_first
          intro hl
          have := h2 (by simpa using hl)
          simpa [adr] using this
        rw [this, hin]; rfl
    | succ j =>
      have hj : L[j]? = some b := by simpa using h
      simp only [adr] at h1
      have h3 := adr_lo (p + 1 + c.fs.length) L j (List.getElem?_eq_some_iff.1 hj).1
      have := ih (p + 1 + c.fs.length) j hj h1 (fun hl => by have := h2 (by simpa using hl); simpa [adr] using this)
      show look p (c :: L) x = if b.inner (x - adr (p + 1 + c.fs.length) L j) then some (j + 1, x - adr (p + 1 + c.fs.length) L j) else none
      simp only [look]
      rw [if_neg (by omega), if_neg (by omega), if_neg (by omega), this]
      split <;> rfl
theorem look_lt {p : Nat} {L : List Bk} {x i d : Nat} (h : look p L x = some (i, d)) : i < L.length ∧ adr p L i + d = x := by
  induction L generalizing p i with
  | nil => simp [look] at h
  | cons b L ih =>
    simp only [look] at h
    split at h
    · cases h
    · split at h
      · cases h; simp [adr]; omega
      · split at h
        · split at h
          · cases h; simp [adr]; omega
          · cases h
        · simp only [Option.map_eq_some_iff] at h
          obtain ⟨⟨i', d'⟩, h1, h2⟩ := h
          cases h2
          have := ih h1
          simp [adr]
          omega

/-- An arena: how many cells a half has, whether the upper one is current, its blocks. -/
structure Ar where
  n : Nat
  hi : Bool
  L : List Bk

def Ar.base (A : Ar) : Nat := if A.hi then A.n else 0
def Ar.top (A : Ar) : Nat := A.base + (flat A.L).length
def Ar.ok (A : Ar) : Prop := 2 ≤ A.n ∧ A.n ≤ 32768 ∧ (flat A.L).length ≤ A.n ∧ ∀ b ∈ A.L, b.ok

theorem Ar.base_le (A : Ar) : A.base ≤ A.n := by unfold Ar.base; split <;> omega

/-- The block and the distance that a word leads to. -/
def Ar.find (A : Ar) (w : Int) : Option (Nat × Nat) := if wIsInt w || (wAddr w == 0) then none else look A.base A.L (wAddr w).toNat

end Go.Proofs.YtnmpckdggddpoaaGreatDoor
