/- ArenaInner: in a closure's block a word leads to an inner slot just where the head of it, at its distance, stands ahead. -/
import Derived.Test.YtcfmemnokecgbaaLf
import Derived.Test.YtcfmemnokecgbaaHq
import Derived.Test.YtcfmemnokecgbaaRd
namespace Go.Proofs.Ytcfmemnokecgbaa
open Go.RowKit

/-- The arena with one closure's block. -/
def AI (os : List Int) : Ar := ⟨64, false, [⟨200, os⟩]⟩

theorem AI_ok {os : List Int} (h : os.length ≤ 30) (hu : ∀ x ∈ os, U64 x) : (AI os).ok := by
  refine ⟨by show 2 ≤ 64; omega, by show 64 ≤ 32768; omega, by simp [AI, flat]; omega, ?_⟩
  intro b hb
  simp [AI] at hb
  subst hb
  exact ⟨.inl (by show 200 ≤ 200; omega), by show os.length ≤ 4096; omega, hu⟩

theorem AI_zero {os : List Int} : (AI os).find 2 = some (0, 0) := by
  have := find_look (A := AI os) (x := 2) (y := 1) (by decide) (by decide) (by decide)
  rw [this]
  rfl
theorem AI_in {os : List Int} {i : Nat} (h1 : 1 ≤ i) (h2 : i < os.length) (h3 : os.length ≤ 30) : (AI os).find (2 + 2 * (i : Int)) = if os.getD (i - 1) 0 = wHead 201 i then some (0, i) else none := by
  have ha : wAddr (2 + 2 * (i : Int)) = ((i + 1 : Nat) : Int) := by unfold wAddr; rw [if_neg (by omega)]; omega
  have := find_look (A := AI os) (x := 2 + 2 * (i : Int)) (y := i + 1) (by unfold wIsInt; simp) ha (by rw [ha]; omega)
  rw [this]
  show look 0 [(⟨200, os⟩ : Bk)] (i + 1) = _
  have hin := look_in 0 [(⟨200, os⟩ : Bk)] (i + 1) 0 ⟨200, os⟩ rfl (by show 0 + 1 < i + 1; omega) (by simp)
  rw [hin]
  have e : i + 1 - adr 0 [(⟨200, os⟩ : Bk)] 0 = i := by show i + 1 - (0 + 1) = i; omega
  rw [e]
  unfold Bk.inner
  by_cases hc : os.getD (i - 1) 0 = wHead 201 i
  · rw [if_pos hc]
    have : (decide (i < os.length) && ((200 : Nat) == 200) && (os.getD (i - 1) 0 == wHead 201 i)) = true := by rw [hc]; simp [h2]
    simp only [this]; rfl
  · rw [if_neg hc]
    have : (decide (i < os.length) && ((200 : Nat) == 200) && (os.getD (i - 1) 0 == wHead 201 i)) = false := by
      have h5 : (os.getD (i - 1) 0 == wHead 201 i) = false := by rw [beq_eq_false_iff_ne]; exact hc
      rw [h5, Bool.and_false]
    simp only [this]; rfl

/-- The fields while they are put. -/
def mixed (os : List Int) (k : Nat) : List Int := os.take k ++ List.replicate (os.length - k) 1

theorem mixed_len {os : List Int} {k : Nat} (h : k ≤ os.length) : (mixed os k).length = os.length := by simp [mixed]; omega
theorem mixed_u {os : List Int} {k : Nat} (h : ∀ x ∈ os, U64 x) : ∀ x ∈ mixed os k, U64 x := by
  intro x hx
  unfold mixed at hx
  simp only [List.mem_append] at hx
  rcases hx with hx | hx
  · exact h x (List.mem_of_mem_take hx)
  · have := (List.mem_replicate.1 hx).2; subst this; unfold U64; omega
theorem mixed_set {os : List Int} {k : Nat} {x : Int} (h : os[k]? = some x) : (mixed os k).set k x = mixed os (k + 1) := by
  have hk := (List.getElem?_eq_some_iff.1 h).1
  unfold mixed
  have h1 : (os.take k).length = k := by simp; omega
  rw [List.set_append_right _ _ (by omega), h1, Nat.sub_self, List.take_add_one, h, show os.length - k = (os.length - (k + 1)) + 1 by omega, List.replicate_succ]
  simp
theorem AI_set {os : List Int} {k : Nat} {x : Int} (h : os[k]? = some x) (hl : os.length ≤ 30) : (AI (mixed os k)).setF 2 k x = AI (mixed os (k + 1)) ∧ (AI (mixed os k)).setE 2 k = 0 := by
  have hk := (List.getElem?_eq_some_iff.1 h).1
  have hb : (AI (mixed os k)).L[0]? = some ⟨200, mixed os k⟩ := rfl
  have hk2 : k < (mixed os k).length := by rw [mixed_len (by omega)]; exact hk
  constructor
  · rw [setF_in (b := ⟨200, mixed os k⟩) AI_zero hb hk2]
    show (⟨64, false, putF [⟨200, mixed os k⟩] 0 k x⟩ : Ar) = _
    simp only [putF, List.modify_zero_cons, mixed_set h]
    rfl
  · unfold Ar.setE
    rw [fieldAt_some (b := ⟨200, mixed os k⟩) (s := 1) AI_zero hb rfl, if_pos ⟨by omega, by exact_mod_cast hk2⟩]

theorem AI_blk_in {os : List Int} {i : Nat} (h1 : 1 ≤ i) (h2 : i < os.length) (h3 : os.length ≤ 30) (h : os.getD (i - 1) 0 = wHead 201 i) : (AI os).blk (2 + 2 * (i : Int)) = some ⟨200, os⟩ := by
  unfold Ar.blk
  rw [AI_in h1 h2 h3, if_pos h]
  rfl
theorem AI_leads_in {os : List Int} {i : Nat} (h1 : 1 ≤ i) (h2 : i < os.length) (h3 : os.length ≤ 30) (h : os.getD (i - 1) 0 = wHead 201 i) : (AI os).leads (2 + 2 * (i : Int)) = (2, (i : Int)) := by
  unfold Ar.leads
  rw [AI_in h1 h2 h3, if_pos h]
  rfl
theorem AI_leads_out {os : List Int} {i : Nat} (h1 : 1 ≤ i) (h2 : i < os.length) (h3 : os.length ≤ 30) (h : ¬ os.getD (i - 1) 0 = wHead 201 i) : (AI os).leads (2 + 2 * (i : Int)) = (0, 0) := by
  unfold Ar.leads
  rw [AI_in h1 h2 h3, if_neg h]

theorem AI_alloc (m : Nat) (h : m ≤ 30) : (⟨64, false, []⟩ : Ar).allocR 200 m = (AI (List.replicate m 1), (2, 0)) := by
  unfold Ar.allocR
  have e1 : (⟨64, false, []⟩ : Ar).base = 0 := rfl
  have e2 : (⟨64, false, []⟩ : Ar).top = 0 := rfl
  rw [if_neg (by unfold TagOk; omega), if_neg (by omega), if_neg (by rw [e1, e2]; show ¬ (0 + 64 < _); omega)]
  rfl

end Go.Proofs.Ytcfmemnokecgbaa
