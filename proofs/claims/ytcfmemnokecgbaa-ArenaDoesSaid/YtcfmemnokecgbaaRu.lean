/- The laws' same: the arena and the reference tell the same of a word. -/
import Derived.Test.YtcfmemnokecgbaaRp
import Derived.Test.YtcfmemnokecgbaaHq
namespace Go.Proofs.Ytcfmemnokecgbaa
open Go.RowKit

set_option maxHeartbeats 1600000 in
theorem law_same {w : World} {a b : Nat} {A : Ar} {F G : List Nat} (h : Pr w a b A F G) (x i : Int) (hx : U64 x) :
    Calls Try.prog 40 #[.pointer (some ⟨a, 0, none⟩), .pointer (some ⟨b, 0, none⟩), .int .u64 x, .int .i64 i] w fun e w' => e = .returned (.bool true) ∧ ∃ n, w' = w.drewN n := by
  obtain ⟨l1, l2, HL⟩ : ∃ l1 l2, Hid (A.leads x = (l1, l2)) := ⟨_, _, rfl⟩
  obtain ⟨g1, g2, HG⟩ : ∃ g1 g2, Hid (A.getF x i = (g1, g2)) := ⟨_, _, rfl⟩
  obtain ⟨tg, HT⟩ : ∃ tg, Hid (A.tagOf x = tg) := ⟨_, rfl⟩
  obtain ⟨sz, HS⟩ : ∃ sz, Hid (A.sizeOf x = sz) := ⟨_, rfl⟩
  have HP := Lib.hid h
  clear h
  go_enter Try.func40, Try.ntmps40
  go_wp2_with (fail)
  have c := arena_Leads HP.out.ar HP.out.ok x hx
  rw [HL.out] at c
  refine Calls.mono c ?_
  clear c
  rintro e w1 ⟨rfl, n1, rfl⟩
  go_wp2_with (fail)
  have c := ref_Leads (HP.out.rf.drewN n1) HP.out.ok x hx
  rw [HL.out] at c
  refine Calls.mono c ?_
  clear c
  rintro e w1 ⟨rfl, n2, rfl⟩
  go_wp2_with (fail)
  have c := arena_Get (HP.out.ar.drewN (n1 + n2)) HP.out.ok x i hx
  rw [HG.out] at c
  refine Calls.mono c ?_
  clear c
  rintro e w1 ⟨rfl, n3, rfl⟩
  go_wp2_with (fail)
  have c := ref_Get (HP.out.rf.drewN (n1 + n2 + n3)) HP.out.ok x i hx
  rw [HG.out] at c
  refine Calls.mono c ?_
  clear c
  rintro e w1 ⟨rfl, n4, rfl⟩
  go_wp2_with (fail)
  have c := arena_Tag (HP.out.ar.drewN (n1 + n2 + n3 + n4)) HP.out.ok x hx
  rw [HT.out] at c
  refine Calls.mono c ?_
  clear c
  rintro e w1 ⟨rfl, n5, rfl⟩
  go_wp2_with (fail)
  have c := ref_Tag (HP.out.rf.drewN (n1 + n2 + n3 + n4 + n5)) HP.out.ok x hx
  rw [HT.out] at c
  refine Calls.mono c ?_
  clear c
  rintro e w1 ⟨rfl, n6, rfl⟩
  go_wp2_with (fail)
  have c := arena_Size (HP.out.ar.drewN (n1 + n2 + n3 + n4 + n5 + n6)) HP.out.ok x hx
  rw [HS.out] at c
  refine Calls.mono c ?_
  clear c
  rintro e w1 ⟨rfl, n7, rfl⟩
  go_wp2_with (fail)
  have c := ref_Size (HP.out.rf.drewN (n1 + n2 + n3 + n4 + n5 + n6 + n7)) HP.out.ok x hx
  rw [HS.out] at c
  refine Calls.mono c ?_
  clear c
  rintro e w1 ⟨rfl, n8, rfl⟩
  go_wp2
  go_ret
  exact ⟨rfl, n1 + n2 + n3 + n4 + n5 + n6 + n7 + n8, by simp [World.drewN_drewN, Nat.add_assoc]⟩

end Go.Proofs.Ytcfmemnokecgbaa
