/- The arena's contracts over whole numbers; the law's function awake. -/
import Derived.Test.YtcfmemnokecgbaaAp
namespace Go.Proofs.Ytcfmemnokecgbaa
open Go.RowKit

theorem IsAr.eq {w w' : World} {a : Nat} {A : Ar} {F : List Nat} (h : IsAr w a A F) (hk : w'.heap = w.heap) : IsAr w' a A F := h.go fun _ _ => by rw [hk]

instance (t : Int) : Decidable (TagOk t) := by unfold TagOk; exact inferInstance

def Ar.allocR (A : Ar) (tag size : Int) : Ar × (Int × Int) :=
  if ¬ TagOk tag then (A, (0, 1))
  else if size < 0 ∨ 4096 < size then (A, (0, 2))
  else if A.base + A.n < A.top + size.toNat + 1 then (A, (0, 10))
  else (A.alloc tag.toNat size.toNat, (wPtr ((A.top : Int) + 1), 0))

theorem arena_Alloc {w : World} {a : Nat} {A : Ar} {F : List Nat} (h : IsAr w a A F) (hok : A.ok) (tag size : Int) :
    Calls Try.prog 10 #[.pointer (some ⟨a, 0, none⟩), .int .i64 tag, .int .i64 size] w fun e w' =>
      e = .returned (.tuple #[.int .u64 (A.allocR tag size).2.1, .int .i64 (A.allocR tag size).2.2]) ∧ ∃ F', IsAr w' a (A.allocR tag size).1 F' ∧ Upd F F' w w' := by
  by_cases ht : TagOk tag
  · by_cases hs : size < 0 ∨ 4096 < size
    · have e1 : A.allocR tag size = (A, (0, 2)) := by unfold Ar.allocR; rw [if_neg (by simpa using ht), if_pos hs]
      rw [e1]
      refine (alloc_range tag size ht hs).mono ?_
      rintro e w' ⟨rfl, n, rfl⟩
      exact ⟨rfl, F, h.drewN n, (Upd.refl F w).drewN n⟩
    · obtain ⟨sz, rfl⟩ := Int.eq_ofNat_of_zero_le (show 0 ≤ size by omega)
      by_cases hf : A.base + A.n < A.top + sz + 1
      · have e1 : A.allocR tag sz = (A, (0, 10)) := by unfold Ar.allocR; rw [if_neg (by simpa using ht), if_neg hs, if_pos (by simpa using hf)]
        rw [e1]
        refine (alloc_full h hok tag sz ht (by omega) hf).mono ?_
        rintro e w' ⟨rfl, n, rfl⟩
        exact ⟨rfl, F, h.drewN n, (Upd.refl F w).drewN n⟩
      · obtain ⟨tg, rfl⟩ := Int.eq_ofNat_of_zero_le (show 0 ≤ tag by unfold TagOk at ht; omega)
        have e1 : A.allocR tg sz = (A.alloc tg sz, (wPtr ((A.top : Int) + 1), 0)) := by unfold Ar.allocR; rw [if_neg (by simpa using ht), if_neg hs, if_neg (by simpa using hf)]; simp
        rw [e1]
        exact alloc_room h hok tg sz ht (by omega) (by omega)
  · have e1 : A.allocR tag size = (A, (0, 1)) := by unfold Ar.allocR; rw [if_pos (by simpa using ht)]
    rw [e1]
    refine (alloc_arg tag size ht).mono ?_
    rintro e w' ⟨rfl, n, rfl⟩
    exact ⟨rfl, F, h.drewN n, (Upd.refl F w).drewN n⟩

theorem alloc_ok {A : Ar} (h : A.ok) (tag size : Int) : (A.allocR tag size).1.ok := by
  unfold Ar.allocR
  split
  · exact h
  · rename_i ht
    split
    · exact h
    · rename_i hs
      split
      · exact h
      · rename_i hf
        have ht' : TagOk tag := by simpa using ht
        have hfl : flat (A.alloc tag.toNat size.toNat).L = flat A.L ++ (wHead tag.toNat size.toNat :: List.replicate size.toNat 1) := by
          unfold Ar.alloc
          rw [flat_append]
          simp [flat]
        refine ⟨h.1, h.2.1, ?_, ?_⟩
        · rw [hfl]
          unfold Ar.top at hf
          simp
          show (flat A.L).length + (size.toNat + 1) ≤ A.n
          omega
        · intro b hb
          unfold Ar.alloc at hb
          simp only [List.mem_append, List.mem_singleton] at hb
          rcases hb with hb | rfl
          · exact h.2.2.2 b hb
          · refine ⟨?_, by simp; omega, fun x hx => ?_⟩
            · unfold TagOk at ht'
              show tag.toNat ≤ 200 ∨ tag.toNat = 202
              omega
            · have := (List.mem_replicate.1 hx).2
              subst this
              unfold U64; omega

theorem arena_New_in (n : Int) (h1 : 2 ≤ n) (h2 : n ≤ 32768) (w : World) :
    Calls Try.prog 9 #[.int .i64 n] w fun e w' => ∃ a F, e = .returned (.pointer (some ⟨a, 0, none⟩)) ∧ IsAr w' a ⟨n.toNat, false, []⟩ F ∧ Upd [] F w w' := by
  obtain ⟨m, rfl⟩ := Int.eq_ofNat_of_zero_le (show 0 ≤ n by omega)
  exact arena_New m (by omega) (by omega) w

theorem IsAr.half {w : World} {a : Nat} {A : Ar} {F : List Nat} (h : IsAr w a A F) :
    ∃ hb, w.cell? ⟨a, 0, none⟩ = some (.pointer (some ⟨hb, 0, none⟩)) ∧
      Hid (∀ w' : World, w'.heap = w.heap → Calls Try.prog 13 #[.pointer (some ⟨hb, 0, none⟩)] w' fun e w'' => e = .returned (.int .i64 (A.top : Nat)) ∧ w' = w'') ∧
      Hid (∀ w' : World, w'.heap = w.heap → Calls Try.prog 17 #[.pointer (some ⟨hb, 0, none⟩)] w' fun e w'' => e = .returned (.int .i64 (A.base : Nat)) ∧ w' = w'') ∧
      Hid (∀ w' : World, w'.heap = w.heap → Calls Try.prog 37 #[.pointer (some ⟨hb, 0, none⟩)] w' fun e w'' => e = .returned (.int .i64 (A.n : Nat)) ∧ w' = w'') := by
  obtain ⟨hb, cb, sv, cells, rfl, p⟩ := h
  exact ⟨hb, by rw [p.ba.cell]; rfl, fun w' hw => halves_Top (p.eq hw), fun w' hw => halves_Base (p.eq hw), fun w' hw => halves_Half (p.eq hw)⟩

theorem Try.ulArenaP : Try.prog.underlying 24 = some (.pointer (Try.prog.pointee 24)) := by kernel_rfl

def A0 : Ar := ⟨6, false, []⟩
def A1 : Ar := ⟨6, false, [⟨0, [1, 1]⟩]⟩
def A2 : Ar := ⟨6, false, [⟨0, [1, 1]⟩, ⟨5, []⟩]⟩
theorem A0_ok : A0.ok := ⟨by decide, by decide, by decide, by simp [A0]⟩
theorem step1 : A0.allocR 0 2 = (A1, (2, 0)) := by rfl
theorem step2 : A1.allocR 5 0 = (A2, (8, 0)) := by rfl
theorem step3 : A2.allocR 0 2 = (A2, (0, 10)) := by rfl
theorem A1_ok : A1.ok := by have := alloc_ok A0_ok 0 2; rw [step1] at this; exact this
theorem A2_ok : A2.ok := by have := alloc_ok A1_ok 5 0; rw [step2] at this; exact this
theorem A2_leads : A2.leads 2 = (2, 0) := by rfl
theorem A2_tag : A2.tagOf 8 = 5 := by rfl
theorem A2_top : A2.top = 4 := by rfl

set_option maxRecDepth 100000 in
set_option maxHeartbeats 800000 in
theorem law_awake (w : World) : Calls Try.prog 8 #[] w fun e w' => e = .returned (.bool true) ∧ Upd [] [] w w' := by
  go_enter Try.func8, Try.ntmps8
  go_wp2_with (fail)
  refine Calls.mono (arena_New_in 6 (by omega) (by omega) _) ?_
  rintro e w1 ⟨a, F0, rfl, h0, U0⟩
  have H0 := Lib.hid h0
  have HU0 := Lib.hid U0
  clear h0 U0
  go_wp2_with (fail)
  have c1 := arena_Alloc (A := A0) H0.out A0_ok 0 2
  rw [step1] at c1
  refine Calls.mono c1 ?_
  rintro e w2 ⟨rfl, F1, h1, U1⟩
  clear c1
  have H1 := Lib.hid h1
  have HU1 := Lib.hid (HU0.out.trans U1)
  clear h1 U1
  go_wp2_with (fail)
  have c1 := arena_Alloc H1.out A1_ok 5 0
  rw [step2] at c1
  refine Calls.mono c1 ?_
  rintro e w3 ⟨rfl, F2, h2, U2⟩
  clear c1
  have H2 := Lib.hid h2
  have HU2 := Lib.hid (HU1.out.trans U2)
  clear h2 U2
  go_wp2_with (fail)
  have c1 := arena_Alloc H2.out A2_ok 0 2
  rw [step3] at c1
  refine Calls.mono c1 ?_
  rintro e w4 ⟨rfl, F3, h3, U3⟩
  clear c1
  have H3 := Lib.hid h3
  have HU3 := Lib.hid (HU2.out.trans U3)
  obtain ⟨hb, hcell, ht, _, _⟩ := h3.half
  clear h3 U3
  go_wp2_with (fail)
  have c1 := arena_Leads H3.out A2_ok 2 ⟨by omega, by omega⟩
  rw [A2_leads] at c1
  refine Calls.mono c1 ?_
  clear c1
  rintro e w5 ⟨rfl, n, rfl⟩
  go_wp2_with (fail)
  have c1 := ht.out (w4.drewN n) rfl
  rw [A2_top] at c1
  refine Calls.mono c1 ?_
  clear c1
  rintro e w5 ⟨rfl, rfl⟩
  go_wp2_with (fail)
  have c1 := arena_Tag (H3.out.drewN n) A2_ok 8 ⟨by omega, by omega⟩
  rw [A2_tag] at c1
  refine Calls.mono c1 ?_
  clear c1
  rintro e w5 ⟨rfl, m, rfl⟩
  go_wp2
  go_ret
  exact ⟨rfl, (HU3.out.drewN _).sub (fun _ hk => absurd hk List.not_mem_nil)⟩

end Go.Proofs.Ytcfmemnokecgbaa
