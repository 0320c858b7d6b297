/- ArenaApart: the plain law: all fields are filled with numbers, one after the other. -/
import Derived.Test.YtcfmemnokecgbaaRp
import Derived.Test.YtcfmemnokecgbaaLf
namespace Go.Proofs.Ytcfmemnokecgbaa
open Go.RowKit

/-- How many fields lie ahead of block m. -/
def cnt : List Bk → Nat → Nat
  | [], _ => 0
  | _ :: _, 0 => 0
  | b :: L, m + 1 => b.fs.length + cnt L m
/-- Where the head of block m lies. -/
def pos (p : Nat) : List Bk → Nat → Nat
  | [], _ => p
  | _ :: _, 0 => p
  | b :: L, m + 1 => pos (p + 1 + b.fs.length) L m

theorem cnt_zero (L : List Bk) : cnt L 0 = 0 := by cases L <;> rfl
theorem pos_zero (p : Nat) (L : List Bk) : pos p L 0 = p := by cases L <;> rfl
theorem cnt_step (L : List Bk) (m : Nat) (b : Bk) (h : L[m]? = some b) : cnt L (m + 1) = cnt L m + b.fs.length := by
  induction L generalizing m with
  | nil => simp at h
  | cons c L ih =>
    cases m with
    | zero => simp at h; subst h; show _ + cnt L 0 = 0 + _; rw [cnt_zero]; omega
    | succ m => show _ + cnt L (m + 1) = _ + cnt L m + _; rw [ih m (by simpa using h)]; omega
theorem pos_step (p : Nat) (L : List Bk) (m : Nat) (b : Bk) (h : L[m]? = some b) : pos p L (m + 1) = pos p L m + (b.fs.length + 1) := by
  induction L generalizing p m with
  | nil => simp at h
  | cons c L ih =>
    cases m with
    | zero => simp at h; subst h; show pos _ L 0 = p + _; rw [pos_zero]; omega
    | succ m => show pos _ L (m + 1) = pos _ L m + _; rw [ih _ m (by simpa using h)]
theorem pos_adr (p : Nat) (L : List Bk) (m : Nat) (h : m < L.length) : adr p L m = pos p L m + 1 := by
  induction L generalizing p m with
  | nil => simp at h
  | cons c L ih =>
    cases m with
    | zero => rfl
    | succ m => exact ih _ m (by simpa using h)
theorem pos_end (p : Nat) (L : List Bk) : pos p L L.length = p + (flat L).length := by
  induction L generalizing p with
  | nil => rfl
  | cons c L ih => show pos _ L L.length = _; rw [ih]; simp [flat]; omega
theorem pos_cnt (p : Nat) (L : List Bk) (m : Nat) : cnt L m ≤ (flat L).length := by
  induction L generalizing m with
  | nil => simp [cnt]
  | cons c L ih =>
    cases m with
    | zero => simp [cnt]
    | succ m => have := ih m; show _ + _ ≤ _; simp [flat]; omega
theorem cnt_in (L : List Bk) (m : Nat) (b : Bk) (h : L[m]? = some b) : cnt L m + b.fs.length ≤ (flat L).length := by
  rw [← cnt_step L m b h]
  exact pos_cnt 0 L (m + 1)

structure Filled (A B : Ar) (j i : Nat) : Prop where
  ok : B.ok
  n : B.n = A.n
  hi : B.hi = A.hi
  ln : B.L.length = A.L.length
  st : starts A.base B.L = starts A.base A.L
  fl : (flat B.L).length = (flat A.L).length
  bk : ∀ m b, A.L[m]? = some b → ∃ c, B.L[m]? = some c ∧ c.fs.length = b.fs.length ∧ ∀ q, q < b.fs.length → (m < j ∨ (m = j ∧ q < i)) → c.fs[q]? = some (wInt (1 + (cnt A.L m : Nat) + (q : Nat)))

theorem Filled.refl {A : Ar} (h : A.ok) : Filled A A 0 0 := ⟨h, rfl, rfl, rfl, rfl, rfl, fun m b hb => ⟨b, hb, rfl, fun q _ h => by omega⟩⟩
theorem Filled.base {A B : Ar} {j i : Nat} (h : Filled A B j i) : B.base = A.base := by unfold Ar.base; rw [h.n, h.hi]
theorem Filled.adr {A B : Ar} {j i : Nat} (h : Filled A B j i) {m : Nat} (hm : m < A.L.length) : adr B.base B.L m = Proofs.Ytcfmemnokecgbaa.adr A.base A.L m := by
  have h1 := starts_get A.base B.L m (by rw [h.ln]; exact hm)
  rw [h.st, starts_get A.base A.L m hm] at h1
  rw [h.base]
  exact (Option.some.inj h1).symm
theorem Filled.next {A B : Ar} {j i : Nat} (h : Filled A B j i) {b : Bk} (hb : A.L[j]? = some b) (hi : b.fs.length ≤ i) : Filled A B (j + 1) 0 :=
  ⟨h.ok, h.n, h.hi, h.ln, h.st, h.fl, fun m c hc => by
    obtain ⟨d, h1, h2, h3⟩ := h.bk m c hc
    refine ⟨d, h1, h2, fun q hq hm => h3 q hq ?_⟩
    by_cases hmj : m = j
    · subst hmj; rw [hb] at hc; injection hc with hc; subst hc; exact .inr ⟨rfl, by omega⟩
    · exact .inl (by omega)⟩
theorem Filled.find {A B : Ar} {j i : Nat} (h : Filled A B j i) {m : Nat} (hm : m < A.L.length) : B.find (wPtr (Proofs.Ytcfmemnokecgbaa.adr A.base A.L m : Nat)) = some (m, 0) := by
  obtain ⟨b, hb⟩ : ∃ b, B.L[m]? = some b := ⟨_, List.getElem?_eq_getElem (by rw [h.ln]; exact hm)⟩
  have hhi := adr_hi B.base B.L m b hb
  have hlo := adr_lo B.base B.L m (by rw [h.ln]; exact hm)
  have hbl := B.base_le
  have hok := h.ok
  have h1 := hok.2.1
  have h2 := hok.2.2.1
  rw [h.adr hm] at hhi hlo
  have ha : wAddr (wPtr ((Proofs.Ytcfmemnokecgbaa.adr A.base A.L m : Nat) : Int)) = ((Proofs.Ytcfmemnokecgbaa.adr A.base A.L m : Nat) : Int) := wAddr_wPtr (by omega) (by omega)
  rw [find_look (y := Proofs.Ytcfmemnokecgbaa.adr A.base A.L m) (wIsInt_wPtr _) ha (by rw [ha]; omega)]
  exact look_found _ _ _ _ (by rw [h.ln]; exact hm) (h.adr hm)
theorem Filled.blk {A B : Ar} {j i : Nat} (h : Filled A B j i) {m : Nat} {b : Bk} (hb : A.L[m]? = some b) :
    ∃ c, B.blk (wPtr (Proofs.Ytcfmemnokecgbaa.adr A.base A.L m : Nat)) = some c ∧ B.L[m]? = some c ∧ c.fs.length = b.fs.length := by
  have hm := (List.getElem?_eq_some_iff.1 hb).1
  obtain ⟨c, h1, h2, _⟩ := h.bk m b hb
  exact ⟨c, by unfold Ar.blk; rw [h.find hm]; exact h1, h1, h2⟩
theorem Filled.size {A B : Ar} {j i : Nat} (h : Filled A B j i) {m : Nat} {b : Bk} (hb : A.L[m]? = some b) : B.sizeOf (wPtr (Proofs.Ytcfmemnokecgbaa.adr A.base A.L m : Nat)) = (b.fs.length : Nat) := by
  obtain ⟨c, h1, _, h3⟩ := h.blk hb
  unfold Ar.sizeOf
  rw [h1, ← h3]
theorem Filled.setE {A B : Ar} {j i : Nat} (h : Filled A B j i) {m q : Nat} {b : Bk} (hb : A.L[m]? = some b) (hq : q < b.fs.length) : B.setE (wPtr (Proofs.Ytcfmemnokecgbaa.adr A.base A.L m : Nat)) q = 0 := by
  obtain ⟨c, _, h2, h3⟩ := h.blk hb
  unfold Ar.setE
  rw [fieldAt_some (h.find (List.getElem?_eq_some_iff.1 hb).1) h2 rfl, if_pos (by rw [h3]; omega)]
theorem Filled.set {A B : Ar} {j i : Nat} (h : Filled A B j i) {b : Bk} (hb : A.L[j]? = some b) (hi : i < b.fs.length) :
    Filled A (B.setF (wPtr (Proofs.Ytcfmemnokecgbaa.adr A.base A.L j : Nat)) i (wInt (1 + (cnt A.L j : Nat) + (i : Nat)))) j (i + 1) := by
  have hj := (List.getElem?_eq_some_iff.1 hb).1
  obtain ⟨c, h1, h2, h3⟩ := h.bk j b hb
  have e := setF_in (v := wInt (1 + (cnt A.L j : Nat) + (i : Nat))) (h.find hj) h1 (by rw [h2]; exact hi)
  have hok := setF_ok h.ok (wPtr (Proofs.Ytcfmemnokecgbaa.adr A.base A.L j : Nat)) i _ (wInt_u (1 + (cnt A.L j : Nat) + (i : Nat)))
  rw [e] at hok ⊢
  refine ⟨hok, h.n, h.hi, by show (putF B.L j i _).length = _; rw [putF_length]; exact h.ln, by show starts A.base (putF B.L j i _) = _; rw [putF_starts]; exact h.st, by show (flat (putF B.L j i _)).length = _; rw [putF_flat_length]; exact h.fl, fun m d hd => ?_⟩
  obtain ⟨f, g1, g2, g3⟩ := h.bk m d hd
  by_cases hm : m = j
  · subst hm
    rw [hb] at hd
    injection hd with hd
    subst hd
    refine ⟨{ f with fs := f.fs.set i (wInt (1 + (cnt A.L m : Nat) + (i : Nat))) }, ?_, by simpa using g2, fun q hq hqi => ?_⟩
    · show (putF B.L m i _)[m]? = _
      unfold putF
      simp [List.getElem?_modify, g1]
    · show (f.fs.set i _)[q]? = _
      by_cases hqq : q = i
      · subst hqq
        rw [List.getElem?_set_self (by rw [g2]; exact hq)]
      · rw [List.getElem?_set_ne (Ne.symm hqq)]
        exact g3 q hq (by omega)
  · refine ⟨f, ?_, g2, fun q hq hqi => g3 q hq (by omega)⟩
    show (putF B.L j i _)[m]? = _
    unfold putF
    rw [List.getElem?_modify]
    simp only [if_neg (Ne.symm hm)]
    simpa using g1
theorem Filled.get {A B : Ar} {j i : Nat} (h : Filled A B j i) {m q : Nat} {b : Bk} (hb : A.L[m]? = some b) (hq : q < b.fs.length) (hd : m < j) :
    B.getF (wPtr (Proofs.Ytcfmemnokecgbaa.adr A.base A.L m : Nat)) q = (wInt (1 + (cnt A.L m : Nat) + (q : Nat)), 0) := by
  obtain ⟨c, h1, h2, h3⟩ := h.blk hb
  obtain ⟨c', g1, g2, g3⟩ := h.bk m b hb
  rw [h2] at g1
  injection g1 with g1
  subst g1
  unfold Ar.getF
  rw [h1]
  simp only []
  rw [if_pos (by rw [h3]; omega)]
  have := g3 q hq (.inl hd)
  simp [List.getD, this]
theorem Filled.top {A B : Ar} {j i : Nat} (h : Filled A B j i) : B.n = A.n ∧ B.base = A.base := ⟨h.n, h.base⟩

end Go.Proofs.Ytcfmemnokecgbaa
