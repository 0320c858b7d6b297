/- The reference's lexer: one, up to the token's kind. The reference's lexer: one, at a name, a number. The reference's lexer: one, at a small name. The reference's lexer: one, at a number, a sign. The reference's lexer: one, Lex. -/
import Derived.Test.YtnmpckdggddpoaaGreatDoorGA
import Derived.Deep.CutBlock
import Derived.Deep.DeepCutAuto
import Derived.Test.YtnmpckdggddpoaaGreatDoorSt
import Derived.Test.YtnmpckdggddpoaaGreatDoorSw
namespace Go.Proofs.YtnmpckdggddpoaaGreatDoor
set_option linter.unusedSimpArgs false
set_option linter.unusedVariables false
open Go.RowKit Go.Shelf Go.Lib

theorem ret_tok3 {fn : Func} {p q r : Tmp} (h : fn.results = #[.cell p 84, .tmp q, .tmp r]) {tmps : Array Value} {r0 : Nat} {x y z u : Value} (hp : tmps.getD p undef = .pointer (some ⟨r0, 0, none⟩)) {w : World} (hb : Blk w r0 [x, y, z, u] 84) :
    (results fn tmps).run Tryz.prog w = .ok (.tuple #[.agg #[x, y, z, u], tmps.getD q undef, tmps.getD r undef]) w := by
  have c0 := hb.cell 0
  have c1 := hb.cell 1
  have c2 := hb.cell 2
  have c3 := hb.cell 3
  simp only [List.getElem?_cons_zero, List.getElem?_cons_succ] at c0 c1 c2 c3
  have hp' : tmps[p]?.getD undef = .pointer (some ⟨r0, 0, none⟩) := by simpa using hp
  simp [results, h, go_sem, hp', c0, c1, c2, c3]

def OneRR (s : ByteArray) (k : Nat) (w : World) (e : Ending) (w' : World) : Prop :=
  ∃ (kind at_ num : Int) (t : ByteArray) (n : Nat) (er : Int), e = .returned (.tuple #[.agg #[.int .i64 kind, .int .i64 at_, .int .i64 num, .string t], .int .i64 (n : Nat), .int .i64 er]) ∧
    ((er = 0 ∧ OneR s.data.toList k (k + n) kind at_ num t.data.toList) ∨ (er ≠ 0 ∧ OneF s.data.toList k)) ∧ Below w.heap.size w w'

/-- The world behind the first rows: the result's block, the token's. -/
def OneW (w : World) (k : Nat) (wx : World) : Prop :=
  Blk wx w.heap.size [.int .i64 0, .int .i64 0, .int .i64 0, .string ⟨#[]⟩] 84 ∧ Blk wx (w.heap.size + 1) [.int .i64 0, .int .i64 (k : Nat), .int .i64 0, .string ⟨#[]⟩] 84 ∧ Below w.heap.size w wx


set_option maxRecDepth 100000 in
set_option maxHeartbeats 8000000 in
theorem r_one_quote (s : ByteArray) (hs : s.size ≤ 4096) (k : Nat) (hk : k < s.size) (hc : s.data.toList[k]? = some 34) (w : World) :
    Calls Tryz.prog 102 #[.string s, .int .i64 (k : Nat)] w (OneRR s k w) := by
  obtain ⟨c, hcc⟩ : ∃ c : UInt8, c = 34 := ⟨_, rfl⟩
  rw [← hcc] at hc
  have hb := byte_at hc
  have hlt' : (k : Int) < (s.size : Int) := by omega
  have k0 : (0 : Int) ≤ (k : Int) := by omega
  have HC := Lib.hid hc
  clear hc
  go_enter Tryz.func102, Tryz.ntmps102
  go_upto_block 0 with fail
  obtain ⟨wa, hwa⟩ : ∃ wa, wa = (w.alloc (.cells #[.int .i64 0, .int .i64 0, .int .i64 0, .string ⟨#[]⟩] 84)).alloc (.cells #[.int .i64 0, .int .i64 (k : Nat), .int .i64 0, .string ⟨#[]⟩] 84) := ⟨_, rfl⟩
  have HW : Hid (OneW w k wa) := Lib.hid (by
    rw [hwa]
    exact ⟨(Blk.new' (c := [_, _, _, _]) rfl).alloc _, Blk.new' (c := [_, _, _, _]) (by simp), ((Below.refl _ w).alloc (Nat.le_refl _) _).alloc (by simp) _⟩)
  obtain ⟨r0, hr0⟩ : ∃ r0, r0 = w.heap.size := ⟨_, rfl⟩
  rw [← hwa, ← hr0]
  have HR0 := Lib.hid hr0
  clear hwa hr0
  go_cut [8] (fun nv wx => ∃ m : Nat, nv = .int .i64 m ∧ k + m ≤ s.size ∧ (inNameB (c.toNat : Int) = true → 1 ≤ m) ∧ wx = wa)
  case first =>
    go_wp2_with (fail)
    go_loopw [8] (fun nv wx => ∃ m : Nat, nv = .int .i64 m ∧ k + m ≤ s.size ∧ wx = wa) (fun nv _ => s.size - (RowKit.intOf nv).toNat)
    case atStart => exact ⟨0, rfl, by omega, rfl⟩
    case round =>
      obtain ⟨m, rfl, hm, rfl⟩ := hrel
      clear hb
      by_cases hlt : k + m < s.size
      · obtain ⟨x, hx⟩ : ∃ c, s.data.toList[k + m]? = some c := ⟨_, List.getElem?_eq_getElem (by rw [size_toList]; exact hlt)⟩
        have hbx := byte_at hx
        have h1 : (k : Int) + (m : Int) < (s.size : Int) := by omega
        have h2 : (0 : Int) ≤ (k : Int) + (m : Int) := by omega
        have n1 : ((k : Int) + (m : Int)).toNat = k + m := by omega
        have HS := Lib.hid (fun w => r_small (x.toNat : Int) w)
        have HG := Lib.hid (fun w => r_great (x.toNat : Int) w)
        have HD := Lib.hid (fun w => r_digit (x.toNat : Int) w)
        have hz : Hid (m = 0 → x = c) := Lib.hid (by
          rintro rfl
          rw [Nat.add_zero, HC.out] at hx
          exact (Option.some.inj hx).symm)
        obtain ⟨p, hp⟩ : ∃ p, Hid (smallB (x.toNat : Int) = p) := ⟨_, rfl⟩
        obtain ⟨q, hq⟩ : ∃ p, Hid (greatB (x.toNat : Int) = p) := ⟨_, rfl⟩
        obtain ⟨r, hr⟩ : ∃ p, Hid (digitB (x.toNat : Int) = p) := ⟨_, rfl⟩
        rw [hp.out] at HS
        rw [hq.out] at HG
        rw [hr.out] at HD
        clear hx
        cases p
        · cases q
          · cases r
            · by_cases h39 : x = 39
              · have t39 : ((x.toNat : Int) == 39) = true := by rw [h39]; rfl
                clear h39
                go_wp2_with (first | (go_at_call 169; ((with_reducible refine (HS.out _).mono ?_); rintro e w' ⟨rfl, rfl⟩)) | (go_at_call 170; ((with_reducible refine (HG.out _).mono ?_); rintro e w' ⟨rfl, rfl⟩)) | (go_at_call 171; ((with_reducible refine (HD.out _).mono ?_); rintro e w' ⟨rfl, rfl⟩)))
                go_roundw
                case rel => exact ⟨m + 1, by go_num, by omega, by first | rfl | trivial⟩
                case measure => simp [RowKit.intOf]; omega
              · have t39 : ((x.toNat : Int) == 39) = false := bne8 x 39 h39 (by decide)
                clear h39
                go_wp2_with (first | (go_at_call 169; ((with_reducible refine (HS.out _).mono ?_); rintro e w' ⟨rfl, rfl⟩)) | (go_at_call 170; ((with_reducible refine (HG.out _).mono ?_); rintro e w' ⟨rfl, rfl⟩)) | (go_at_call 171; ((with_reducible refine (HD.out _).mono ?_); rintro e w' ⟨rfl, rfl⟩)))
                go_meet
                refine ⟨m, rfl, by omega, fun h => ?_, rfl⟩
                rcases Nat.eq_zero_or_pos m with h0 | h0
                · have hxc := hz.out h0
                  subst hxc
                  unfold inNameB at h
                  rw [hp.out, hq.out, hr.out, t39] at h
                  cases h
                · exact h0
            · skip
              go_wp2_with (first | (go_at_call 169; ((with_reducible refine (HS.out _).mono ?_); rintro e w' ⟨rfl, rfl⟩)) | (go_at_call 170; ((with_reducible refine (HG.out _).mono ?_); rintro e w' ⟨rfl, rfl⟩)) | (go_at_call 171; ((with_reducible refine (HD.out _).mono ?_); rintro e w' ⟨rfl, rfl⟩)))
              go_roundw
              case rel => exact ⟨m + 1, by go_num, by omega, by first | rfl | trivial⟩
              case measure => simp [RowKit.intOf]; omega
          · skip
            go_wp2_with (first | (go_at_call 169; ((with_reducible refine (HS.out _).mono ?_); rintro e w' ⟨rfl, rfl⟩)) | (go_at_call 170; ((with_reducible refine (HG.out _).mono ?_); rintro e w' ⟨rfl, rfl⟩)) | (go_at_call 171; ((with_reducible refine (HD.out _).mono ?_); rintro e w' ⟨rfl, rfl⟩)))
            go_roundw
            case rel => exact ⟨m + 1, by go_num, by omega, by first | rfl | trivial⟩
            case measure => simp [RowKit.intOf]; omega
        · skip
          go_wp2_with (first | (go_at_call 169; ((with_reducible refine (HS.out _).mono ?_); rintro e w' ⟨rfl, rfl⟩)) | (go_at_call 170; ((with_reducible refine (HG.out _).mono ?_); rintro e w' ⟨rfl, rfl⟩)) | (go_at_call 171; ((with_reducible refine (HD.out _).mono ?_); rintro e w' ⟨rfl, rfl⟩)))
          go_roundw
          case rel => exact ⟨m + 1, by go_num, by omega, by first | rfl | trivial⟩
          case measure => simp [RowKit.intOf]; omega
      · have h1 : ¬ (k : Int) + (m : Int) < (s.size : Int) := by omega
        go_wp2_with (fail)
        go_meet
        exact ⟨m, rfl, by omega, fun _ => by omega, rfl⟩
  case rest =>
    obtain ⟨m, rfl, hm, hm1, rfl⟩ := hcut
    subst hcc
    clear hm1
    have HS := Lib.hid (fun w => r_small 34 w)
    have HG := Lib.hid (fun w => r_great 34 w)
    have HD := Lib.hid (fun w => r_digit 34 w)
    rw [show smallB 34 = false by decide] at HS
    rw [show greatB 34 = false by decide] at HG
    rw [show digitB 34 = false by decide] at HD
    have HT := Lib.hid (fun w => r_text s hs k hk w)
    go_wp2_with (first | (go_at_call 169; ((with_reducible refine (HS.out _).mono ?_); rintro e w' ⟨rfl, rfl⟩)) | (go_at_call 170; ((with_reducible refine (HG.out _).mono ?_); rintro e w' ⟨rfl, rfl⟩)) | (go_at_call 171; ((with_reducible refine (HD.out _).mono ?_); rintro e w' ⟨rfl, rfl⟩)))
    refine (HT.out _).mono ?_
    rintro e w1 ⟨⟨x, n, hx, hn, hkn, rfl⟩ | ⟨hx, rfl⟩, hB⟩
    · have HX := Lib.hid hx
      obtain ⟨hZ, hA, hBW⟩ := HW.out
      rw [← HR0.out] at hZ hA
      have HZ := Lib.hid (blk_below hZ hB)
      have HA := Lib.hid (blk_below hA hB)
      have HB := Lib.hid (hBW.trans (hB.mono hBW.size))
      have cz := HZ.out.cell
      have fz := HZ.out.free
      have ca := HA.out.cell
      have fa := HA.out.free
      have hne : r0 ≠ r0 + 1 := by omega
      have n0 : ((n : Int) == 0) = false := by rw [beq_eq_false_iff_ne]; omega
      clear hx hZ hA hB hBW
      go_wp2_with (fail)
      refine ⟨rfl, _, ret_tok3 rfl rfl ((((((((HZ.out.other (by omega) _ _).other (by omega) _ _).set 0 _).set 1 _).set 2 _).set 3 _))), ?_⟩
      refine ⟨_, _, _, ⟨x.toArray⟩, n, _, rfl, .inl ⟨rfl, by omega, by rw [size_toList]; exact hkn, rfl, fun _ => HC.out, fun _ => ⟨rfl, rfl, HX.out⟩⟩, ?_⟩
      exact ((((((HB.out.setCell (by have := HR0.out; simp; omega) _).setCell (by have := HR0.out; simp; omega) _).setCell (by have := HR0.out; simp; omega) _).setCell (by have := HR0.out; simp; omega) _).setCell (by have := HR0.out; simp; omega) _).setCell (by have := HR0.out; simp; omega) _)
    · have HX := Lib.hid hx
      obtain ⟨hZ, hA, hBW⟩ := HW.out
      rw [← HR0.out] at hZ hA
      have HZ := Lib.hid (blk_below hZ hB)
      have HA := Lib.hid (blk_below hA hB)
      have HB := Lib.hid (hBW.trans (hB.mono hBW.size))
      have cz := HZ.out.cell
      have fz := HZ.out.free
      have ca := HA.out.cell
      have fa := HA.out.free
      have hne : r0 ≠ r0 + 1 := by omega
      clear hx hZ hA hB hBW
      go_wp2_with (fail)
      refine ⟨rfl, _, ret_tok3 rfl rfl ((((((HZ.out.set 0 _).set 1 _).set 2 _).set 3 _))), ?_⟩
      refine ⟨_, _, _, _, 0, 20, rfl, .inr ⟨by decide, by rw [size_toList]; exact hk, fun _ => HX.out⟩, ?_⟩
      exact ((((HB.out.setCell (by have := HR0.out; simp; omega) _).setCell (by have := HR0.out; simp; omega) _).setCell (by have := HR0.out; simp; omega) _).setCell (by have := HR0.out; simp; omega) _)

end Go.Proofs.YtnmpckdggddpoaaGreatDoor

namespace Go.Proofs.YtnmpckdggddpoaaGreatDoor
set_option linter.unusedSimpArgs false
set_option linter.unusedVariables false
open Go.RowKit Go.Shelf Go.Lib

set_option maxRecDepth 100000 in
set_option maxHeartbeats 8000000 in
theorem r_one_great (s : ByteArray) (hs : s.size ≤ 4096) (k : Nat) (hk : k < s.size) (c : UInt8) (hc : s.data.toList[k]? = some c) (hg : greatB (c.toNat : Int) = true) (h34 : Hid (c ≠ 34)) (w : World) :
    Calls Tryz.prog 102 #[.string s, .int .i64 (k : Nat)] w (OneRR s k w) := by
  have HGR := Lib.hid hg
  clear hg
  have hb := byte_at hc
  have hlt' : (k : Int) < (s.size : Int) := by omega
  have k0 : (0 : Int) ≤ (k : Int) := by omega
  have HC := Lib.hid hc
  clear hc
  go_enter Tryz.func102, Tryz.ntmps102
  go_upto_block 0 with fail
  obtain ⟨wa, hwa⟩ : ∃ wa, wa = (w.alloc (.cells #[.int .i64 0, .int .i64 0, .int .i64 0, .string ⟨#[]⟩] 84)).alloc (.cells #[.int .i64 0, .int .i64 (k : Nat), .int .i64 0, .string ⟨#[]⟩] 84) := ⟨_, rfl⟩
  have HW : Hid (OneW w k wa) := Lib.hid (by
    rw [hwa]
    exact ⟨(Blk.new' (c := [_, _, _, _]) rfl).alloc _, Blk.new' (c := [_, _, _, _]) (by simp), ((Below.refl _ w).alloc (Nat.le_refl _) _).alloc (by simp) _⟩)
  obtain ⟨r0, hr0⟩ : ∃ r0, r0 = w.heap.size := ⟨_, rfl⟩
  rw [← hwa, ← hr0]
  have HR0 := Lib.hid hr0
  clear hwa hr0
  go_cut [8] (fun nv wx => ∃ m : Nat, nv = .int .i64 m ∧ k + m ≤ s.size ∧ (inNameB (c.toNat : Int) = true → 1 ≤ m) ∧ wx = wa)
  case first =>
    go_wp2_with (fail)
    go_loopw [8] (fun nv wx => ∃ m : Nat, nv = .int .i64 m ∧ k + m ≤ s.size ∧ wx = wa) (fun nv _ => s.size - (RowKit.intOf nv).toNat)
    case atStart => exact ⟨0, rfl, by omega, rfl⟩
    case round =>
      obtain ⟨m, rfl, hm, rfl⟩ := hrel
      clear hb
      by_cases hlt : k + m < s.size
      · obtain ⟨x, hx⟩ : ∃ c, s.data.toList[k + m]? = some c := ⟨_, List.getElem?_eq_getElem (by rw [size_toList]; exact hlt)⟩
        have hbx := byte_at hx
        have h1 : (k : Int) + (m : Int) < (s.size : Int) := by omega
        have h2 : (0 : Int) ≤ (k : Int) + (m : Int) := by omega
        have n1 : ((k : Int) + (m : Int)).toNat = k + m := by omega
        have HS := Lib.hid (fun w => r_small (x.toNat : Int) w)
        have HG := Lib.hid (fun w => r_great (x.toNat : Int) w)
        have HD := Lib.hid (fun w => r_digit (x.toNat : Int) w)
        have hz : Hid (m = 0 → x = c) := Lib.hid (by
          rintro rfl
          rw [Nat.add_zero, HC.out] at hx
          exact (Option.some.inj hx).symm)
        obtain ⟨p, hp⟩ : ∃ p, Hid (smallB (x.toNat : Int) = p) := ⟨_, rfl⟩
        obtain ⟨q, hq⟩ : ∃ p, Hid (greatB (x.toNat : Int) = p) := ⟨_, rfl⟩
        obtain ⟨r, hr⟩ : ∃ p, Hid (digitB (x.toNat : Int) = p) := ⟨_, rfl⟩
        rw [hp.out] at HS
        rw [hq.out] at HG
        rw [hr.out] at HD
        clear hx
        cases p
        · cases q
          · cases r
            · by_cases h39 : x = 39
              · have t39 : ((x.toNat : Int) == 39) = true := by rw [h39]; rfl
                clear h39
                go_wp2_with (first | (go_at_call 169; ((with_reducible refine (HS.out _).mono ?_); rintro e w' ⟨rfl, rfl⟩)) | (go_at_call 170; ((with_reducible refine (HG.out _).mono ?_); rintro e w' ⟨rfl, rfl⟩)) | (go_at_call 171; ((with_reducible refine (HD.out _).mono ?_); rintro e w' ⟨rfl, rfl⟩)))
                go_roundw
                case rel => exact ⟨m + 1, by go_num, by omega, by first | rfl | trivial⟩
                case measure => simp [RowKit.intOf]; omega
              · have t39 : ((x.toNat : Int) == 39) = false := bne8 x 39 h39 (by decide)
                clear h39
                go_wp2_with (first | (go_at_call 169; ((with_reducible refine (HS.out _).mono ?_); rintro e w' ⟨rfl, rfl⟩)) | (go_at_call 170; ((with_reducible refine (HG.out _).mono ?_); rintro e w' ⟨rfl, rfl⟩)) | (go_at_call 171; ((with_reducible refine (HD.out _).mono ?_); rintro e w' ⟨rfl, rfl⟩)))
                go_meet
                refine ⟨m, rfl, by omega, fun h => ?_, rfl⟩
                rcases Nat.eq_zero_or_pos m with h0 | h0
                · have hxc := hz.out h0
                  subst hxc
                  unfold inNameB at h
                  rw [hp.out, hq.out, hr.out, t39] at h
                  cases h
                · exact h0
            · skip
              go_wp2_with (first | (go_at_call 169; ((with_reducible refine (HS.out _).mono ?_); rintro e w' ⟨rfl, rfl⟩)) | (go_at_call 170; ((with_reducible refine (HG.out _).mono ?_); rintro e w' ⟨rfl, rfl⟩)) | (go_at_call 171; ((with_reducible refine (HD.out _).mono ?_); rintro e w' ⟨rfl, rfl⟩)))
              go_roundw
              case rel => exact ⟨m + 1, by go_num, by omega, by first | rfl | trivial⟩
              case measure => simp [RowKit.intOf]; omega
          · skip
            go_wp2_with (first | (go_at_call 169; ((with_reducible refine (HS.out _).mono ?_); rintro e w' ⟨rfl, rfl⟩)) | (go_at_call 170; ((with_reducible refine (HG.out _).mono ?_); rintro e w' ⟨rfl, rfl⟩)) | (go_at_call 171; ((with_reducible refine (HD.out _).mono ?_); rintro e w' ⟨rfl, rfl⟩)))
            go_roundw
            case rel => exact ⟨m + 1, by go_num, by omega, by first | rfl | trivial⟩
            case measure => simp [RowKit.intOf]; omega
        · skip
          go_wp2_with (first | (go_at_call 169; ((with_reducible refine (HS.out _).mono ?_); rintro e w' ⟨rfl, rfl⟩)) | (go_at_call 170; ((with_reducible refine (HG.out _).mono ?_); rintro e w' ⟨rfl, rfl⟩)) | (go_at_call 171; ((with_reducible refine (HD.out _).mono ?_); rintro e w' ⟨rfl, rfl⟩)))
          go_roundw
          case rel => exact ⟨m + 1, by go_num, by omega, by first | rfl | trivial⟩
          case measure => simp [RowKit.intOf]; omega
      · have h1 : ¬ (k : Int) + (m : Int) < (s.size : Int) := by omega
        go_wp2_with (fail)
        go_meet
        exact ⟨m, rfl, by omega, fun _ => by omega, rfl⟩
  case rest =>
    obtain ⟨m, rfl, hm, hm1, rfl⟩ := hcut
    have hm1 : 1 ≤ m := hm1 (by unfold inNameB; rw [HGR.out]; simp)
    have HS := Lib.hid (fun w => r_small (c.toNat : Int) w)
    have HG := Lib.hid (fun w => r_great (c.toNat : Int) w)
    rw [HGR.out] at HG
    obtain ⟨p, hp⟩ : ∃ p, Hid (smallB (c.toNat : Int) = p) := ⟨_, rfl⟩
    rw [hp.out] at HS
    obtain ⟨hZ, hA, hBW⟩ := HW.out
    rw [← HR0.out] at hZ hA
    have HZ := Lib.hid hZ
    have HA := Lib.hid hA
    have HB := Lib.hid hBW
    have cz := HZ.out.cell
    have fz := HZ.out.free
    have ca := HA.out.cell
    have fa := HA.out.free
    have hne : r0 ≠ r0 + 1 := by omega
    have k1 : (k : Int) ≤ (k : Int) + (m : Int) := by omega
    have k2 : (k : Int) + (m : Int) ≤ (s.size : Int) := by omega
    have k3 : (0 : Int) ≤ (k : Int) + (m : Int) := by omega
    clear hZ hA hBW
    cases p
    all_goals
      go_upto_region 13 with (first | (go_at_call 169; ((with_reducible refine (HS.out _).mono ?_); rintro e w' ⟨rfl, rfl⟩)) | (go_at_call 170; ((with_reducible refine (HG.out _).mono ?_); rintro e w' ⟨rfl, rfl⟩)))
      have HA2 := Lib.hid (((HA.out.set 3 (.string (s.extract k (k + m)))).set 0 (.int .i64 3)).set 0 (.int .i64 4))
      have HZ2 := Lib.hid (((HZ.out.other hne 3 (.string (s.extract k (k + m)))).other hne 0 (.int .i64 3)).other hne 0 (.int .i64 4))
      have HB2 := Lib.hid (((((HB.out.setCell (by have := HR0.out; simp; omega) _).setCell (by have := HR0.out; simp; omega) _).setCell (by have := HR0.out; simp; omega) _) : Below w.heap.size w ((((_ : World).setCell ⟨r0 + 1, 3, none⟩ (.string (s.extract k (k + m)))).setCell ⟨r0 + 1, 0, none⟩ (.int .i64 3)).setCell ⟨r0 + 1, 0, none⟩ (.int .i64 4))))
      clear cz fz ca fa
      generalize ((World.setCell (World.setCell (World.setCell _ ⟨r0 + 1, 3, none⟩ (.string (s.extract k (k + m)))) ⟨r0 + 1, 0, none⟩ (.int .i64 3)) ⟨r0 + 1, 0, none⟩ (.int .i64 4))) = w2 at *
      replace HA2 : Hid (Blk w2 (r0 + 1) [.int .i64 4, .int .i64 (k : Nat), .int .i64 0, .string (s.extract k (k + m))] 84) := HA2
      have cz := HZ2.out.cell
      have fz := HZ2.out.free
      have ca := HA2.out.cell
      have fa := HA2.out.free
      go_wp2_with (fail)
      refine ⟨rfl, _, ret_tok3 rfl rfl ((((HZ2.out.set 0 _).set 1 _).set 2 _).set 3 _), ?_⟩
      refine ⟨_, _, _, _, m, 0, rfl, .inl ⟨rfl, oneR_other HC.out h34.out (by decide) (by omega) (by rw [size_toList]; omega)⟩, ?_⟩
      exact ((((HB2.out.setCell (by have := HR0.out; simp; omega) _).setCell (by have := HR0.out; simp; omega) _).setCell (by have := HR0.out; simp; omega) _).setCell (by have := HR0.out; simp; omega) _)

end Go.Proofs.YtnmpckdggddpoaaGreatDoor

namespace Go.Proofs.YtnmpckdggddpoaaGreatDoor
set_option linter.unusedSimpArgs false
set_option linter.unusedVariables false
open Go.RowKit Go.Shelf Go.Lib

set_option maxRecDepth 100000 in
set_option maxHeartbeats 8000000 in
theorem r_one_small (s : ByteArray) (hs : s.size ≤ 4096) (k : Nat) (hk : k < s.size) (c : UInt8) (hc : s.data.toList[k]? = some c) (hsm : smallB (c.toNat : Int) = true) (hg : greatB (c.toNat : Int) = false) (h34 : Hid (c ≠ 34)) (w : World) :
    Calls Tryz.prog 102 #[.string s, .int .i64 (k : Nat)] w (OneRR s k w) := by
  have HGR := Lib.hid hg
  have HSM := Lib.hid hsm
  clear hg hsm
  have hb := byte_at hc
  have hlt' : (k : Int) < (s.size : Int) := by omega
  have k0 : (0 : Int) ≤ (k : Int) := by omega
  have HC := Lib.hid hc
  clear hc
  go_enter Tryz.func102, Tryz.ntmps102
  go_upto_block 0 with fail
  obtain ⟨wa, hwa⟩ : ∃ wa, wa = (w.alloc (.cells #[.int .i64 0, .int .i64 0, .int .i64 0, .string ⟨#[]⟩] 84)).alloc (.cells #[.int .i64 0, .int .i64 (k : Nat), .int .i64 0, .string ⟨#[]⟩] 84) := ⟨_, rfl⟩
  have HW : Hid (OneW w k wa) := Lib.hid (by
    rw [hwa]
    exact ⟨(Blk.new' (c := [_, _, _, _]) rfl).alloc _, Blk.new' (c := [_, _, _, _]) (by simp), ((Below.refl _ w).alloc (Nat.le_refl _) _).alloc (by simp) _⟩)
  obtain ⟨r0, hr0⟩ : ∃ r0, r0 = w.heap.size := ⟨_, rfl⟩
  rw [← hwa, ← hr0]
  have HR0 := Lib.hid hr0
  clear hwa hr0
  go_cut [8] (fun nv wx => ∃ m : Nat, nv = .int .i64 m ∧ k + m ≤ s.size ∧ (inNameB (c.toNat : Int) = true → 1 ≤ m) ∧ wx = wa)
  case first =>
    go_wp2_with (fail)
    go_loopw [8] (fun nv wx => ∃ m : Nat, nv = .int .i64 m ∧ k + m ≤ s.size ∧ wx = wa) (fun nv _ => s.size - (RowKit.intOf nv).toNat)
    case atStart => exact ⟨0, rfl, by omega, rfl⟩
    case round =>
      obtain ⟨m, rfl, hm, rfl⟩ := hrel
      clear hb
      by_cases hlt : k + m < s.size
      · obtain ⟨x, hx⟩ : ∃ c, s.data.toList[k + m]? = some c := ⟨_, List.getElem?_eq_getElem (by rw [size_toList]; exact hlt)⟩
        have hbx := byte_at hx
        have h1 : (k : Int) + (m : Int) < (s.size : Int) := by omega
        have h2 : (0 : Int) ≤ (k : Int) + (m : Int) := by omega
        have n1 : ((k : Int) + (m : Int)).toNat = k + m := by omega
        have HS := Lib.hid (fun w => r_small (x.toNat : Int) w)
        have HG := Lib.hid (fun w => r_great (x.toNat : Int) w)
        have HD := Lib.hid (fun w => r_digit (x.toNat : Int) w)
        have hz : Hid (m = 0 → x = c) := Lib.hid (by
          rintro rfl
          rw [Nat.add_zero, HC.out] at hx
          exact (Option.some.inj hx).symm)
        obtain ⟨p, hp⟩ : ∃ p, Hid (smallB (x.toNat : Int) = p) := ⟨_, rfl⟩
        obtain ⟨q, hq⟩ : ∃ p, Hid (greatB (x.toNat : Int) = p) := ⟨_, rfl⟩
        obtain ⟨r, hr⟩ : ∃ p, Hid (digitB (x.toNat : Int) = p) := ⟨_, rfl⟩
        rw [hp.out] at HS
        rw [hq.out] at HG
        rw [hr.out] at HD
        clear hx
        cases p
        · cases q
          · cases r
            · by_cases h39 : x = 39
              · have t39 : ((x.toNat : Int) == 39) = true := by rw [h39]; rfl
                clear h39
                go_wp2_with (first | (go_at_call 169; ((with_reducible refine (HS.out _).mono ?_); rintro e w' ⟨rfl, rfl⟩)) | (go_at_call 170; ((with_reducible refine (HG.out _).mono ?_); rintro e w' ⟨rfl, rfl⟩)) | (go_at_call 171; ((with_reducible refine (HD.out _).mono ?_); rintro e w' ⟨rfl, rfl⟩)))
                go_roundw
                case rel => exact ⟨m + 1, by go_num, by omega, by first | rfl | trivial⟩
                case measure => simp [RowKit.intOf]; omega
              · have t39 : ((x.toNat : Int) == 39) = false := bne8 x 39 h39 (by decide)
                clear h39
                go_wp2_with (first | (go_at_call 169; ((with_reducible refine (HS.out _).mono ?_); rintro e w' ⟨rfl, rfl⟩)) | (go_at_call 170; ((with_reducible refine (HG.out _).mono ?_); rintro e w' ⟨rfl, rfl⟩)) | (go_at_call 171; ((with_reducible refine (HD.out _).mono ?_); rintro e w' ⟨rfl, rfl⟩)))
                go_meet
                refine ⟨m, rfl, by omega, fun h => ?_, rfl⟩
                rcases Nat.eq_zero_or_pos m with h0 | h0
                · have hxc := hz.out h0
                  subst hxc
                  unfold inNameB at h
                  rw [hp.out, hq.out, hr.out, t39] at h
                  cases h
                · exact h0
            · skip
              go_wp2_with (first | (go_at_call 169; ((with_reducible refine (HS.out _).mono ?_); rintro e w' ⟨rfl, rfl⟩)) | (go_at_call 170; ((with_reducible refine (HG.out _).mono ?_); rintro e w' ⟨rfl, rfl⟩)) | (go_at_call 171; ((with_reducible refine (HD.out _).mono ?_); rintro e w' ⟨rfl, rfl⟩)))
              go_roundw
              case rel => exact ⟨m + 1, by go_num, by omega, by first | rfl | trivial⟩
              case measure => simp [RowKit.intOf]; omega
          · skip
            go_wp2_with (first | (go_at_call 169; ((with_reducible refine (HS.out _).mono ?_); rintro e w' ⟨rfl, rfl⟩)) | (go_at_call 170; ((with_reducible refine (HG.out _).mono ?_); rintro e w' ⟨rfl, rfl⟩)) | (go_at_call 171; ((with_reducible refine (HD.out _).mono ?_); rintro e w' ⟨rfl, rfl⟩)))
            go_roundw
            case rel => exact ⟨m + 1, by go_num, by omega, by first | rfl | trivial⟩
            case measure => simp [RowKit.intOf]; omega
        · skip
          go_wp2_with (first | (go_at_call 169; ((with_reducible refine (HS.out _).mono ?_); rintro e w' ⟨rfl, rfl⟩)) | (go_at_call 170; ((with_reducible refine (HG.out _).mono ?_); rintro e w' ⟨rfl, rfl⟩)) | (go_at_call 171; ((with_reducible refine (HD.out _).mono ?_); rintro e w' ⟨rfl, rfl⟩)))
          go_roundw
          case rel => exact ⟨m + 1, by go_num, by omega, by first | rfl | trivial⟩
          case measure => simp [RowKit.intOf]; omega
      · have h1 : ¬ (k : Int) + (m : Int) < (s.size : Int) := by omega
        go_wp2_with (fail)
        go_meet
        exact ⟨m, rfl, by omega, fun _ => by omega, rfl⟩
  case rest =>
    obtain ⟨m, rfl, hm, hm1, rfl⟩ := hcut
    have hm1 : 1 ≤ m := hm1 (by unfold inNameB; rw [HSM.out]; simp)
    have HS := Lib.hid (fun w => r_small (c.toNat : Int) w)
    have HG := Lib.hid (fun w => r_great (c.toNat : Int) w)
    rw [HGR.out] at HG
    rw [HSM.out] at HS
    obtain ⟨hZ, hA, hBW⟩ := HW.out
    rw [← HR0.out] at hZ hA
    have HZ := Lib.hid hZ
    have HA := Lib.hid hA
    have HB := Lib.hid hBW
    have cz := HZ.out.cell
    have fz := HZ.out.free
    have ca := HA.out.cell
    have fa := HA.out.free
    have hne : r0 ≠ r0 + 1 := by omega
    have k1 : (k : Int) ≤ (k : Int) + (m : Int) := by omega
    have k2 : (k : Int) + (m : Int) ≤ (s.size : Int) := by omega
    have k3 : (0 : Int) ≤ (k : Int) + (m : Int) := by omega
    clear hZ hA hBW
    go_wp2_with (first | (go_at_call 169; ((with_reducible refine (HS.out _).mono ?_); rintro e w' ⟨rfl, rfl⟩)) | (go_at_call 170; ((with_reducible refine (HG.out _).mono ?_); rintro e w' ⟨rfl, rfl⟩)))
    refine (r_IsWord _ _).mono ?_
    rintro e w1 ⟨⟨q, rfl⟩, hB⟩
    have HA1 : Hid (Blk w1 (r0 + 1) [.int .i64 3, .int .i64 (k : Nat), .int .i64 0, .string (s.extract k (k + m))] 84) := Lib.hid (blk_below ((HA.out.set 3 (.string (s.extract k (k + m)))).set 0 (.int .i64 3)) hB)
    have HZ1 := Lib.hid (blk_below ((HZ.out.other hne 3 (.string (s.extract k (k + m)))).other hne 0 (.int .i64 3)) hB)
    have HB1 : Hid (Below w.heap.size w w1) := Lib.hid (((HB.out.setCell (by have := HR0.out; simp; omega) _).setCell (by have := HR0.out; simp; omega) _).trans (hB.mono (by have := HB.out.size; simp; omega)))
    clear hB cz fz ca fa
    have cz := HZ1.out.cell
    have fz := HZ1.out.free
    have ca := HA1.out.cell
    have fa := HA1.out.free
    cases q
    · cases hu : ((s.extract k (k + m)).toList == [95])
      · have HA2 := HA1
        have HZ2 := HZ1
        have HB2 := HB1
        clear cz fz ca fa
        have cz := HZ2.out.cell
        have fz := HZ2.out.free
        have ca := HA2.out.cell
        have fa := HA2.out.free
        go_wp2_with (fail)
        refine ⟨rfl, _, ret_tok3 rfl rfl ((((HZ2.out.set 0 _).set 1 _).set 2 _).set 3 _), ?_⟩
        refine ⟨_, _, _, _, m, 0, rfl, .inl ⟨rfl, oneR_other HC.out h34.out (by decide) (by omega) (by rw [size_toList]; omega)⟩, ?_⟩
        exact ((((HB2.out.setCell (by have := HR0.out; simp; omega) _).setCell (by have := HR0.out; simp; omega) _).setCell (by have := HR0.out; simp; omega) _).setCell (by have := HR0.out; simp; omega) _)
      · go_upto_region 13 with (fail)
        have HA2 : Hid (Blk (w1.setCell ⟨r0 + 1, 0, none⟩ (.int .i64 5)) (r0 + 1) [.int .i64 5, .int .i64 (k : Nat), .int .i64 0, .string (s.extract k (k + m))] 84) := Lib.hid (HA1.out.set 0 _)
        have HZ2 := Lib.hid (HZ1.out.other hne 0 (.int .i64 5))
        have HB2 := Lib.hid (((HB1.out.setCell (by have := HR0.out; simp; omega) _) : Below w.heap.size w (w1.setCell ⟨r0 + 1, 0, none⟩ (.int .i64 5))))
        clear cz fz ca fa
        generalize (w1.setCell ⟨r0 + 1, 0, none⟩ (.int .i64 5)) = w2 at *
        have cz := HZ2.out.cell
        have fz := HZ2.out.free
        have ca := HA2.out.cell
        have fa := HA2.out.free
        go_wp2_with (fail)
        refine ⟨rfl, _, ret_tok3 rfl rfl ((((HZ2.out.set 0 _).set 1 _).set 2 _).set 3 _), ?_⟩
        refine ⟨_, _, _, _, m, 0, rfl, .inl ⟨rfl, oneR_other HC.out h34.out (by decide) (by omega) (by rw [size_toList]; omega)⟩, ?_⟩
        exact ((((HB2.out.setCell (by have := HR0.out; simp; omega) _).setCell (by have := HR0.out; simp; omega) _).setCell (by have := HR0.out; simp; omega) _).setCell (by have := HR0.out; simp; omega) _)
    · go_upto_region 13 with (fail)
      have HA2 : Hid (Blk (w1.setCell ⟨r0 + 1, 0, none⟩ (.int .i64 5)) (r0 + 1) [.int .i64 5, .int .i64 (k : Nat), .int .i64 0, .string (s.extract k (k + m))] 84) := Lib.hid (HA1.out.set 0 _)
      have HZ2 := Lib.hid (HZ1.out.other hne 0 (.int .i64 5))
      have HB2 := Lib.hid (((HB1.out.setCell (by have := HR0.out; simp; omega) _) : Below w.heap.size w (w1.setCell ⟨r0 + 1, 0, none⟩ (.int .i64 5))))
      clear cz fz ca fa
      generalize (w1.setCell ⟨r0 + 1, 0, none⟩ (.int .i64 5)) = w2 at *
      have cz := HZ2.out.cell
      have fz := HZ2.out.free
      have ca := HA2.out.cell
      have fa := HA2.out.free
      go_wp2_with (fail)
      refine ⟨rfl, _, ret_tok3 rfl rfl ((((HZ2.out.set 0 _).set 1 _).set 2 _).set 3 _), ?_⟩
      refine ⟨_, _, _, _, m, 0, rfl, .inl ⟨rfl, oneR_other HC.out h34.out (by decide) (by omega) (by rw [size_toList]; omega)⟩, ?_⟩
      exact ((((HB2.out.setCell (by have := HR0.out; simp; omega) _).setCell (by have := HR0.out; simp; omega) _).setCell (by have := HR0.out; simp; omega) _).setCell (by have := HR0.out; simp; omega) _)

end Go.Proofs.YtnmpckdggddpoaaGreatDoor

namespace Go.Proofs.YtnmpckdggddpoaaGreatDoor
set_option linter.unusedSimpArgs false
set_option linter.unusedVariables false
open Go.RowKit Go.Shelf Go.Lib

set_option maxRecDepth 100000 in
set_option maxHeartbeats 8000000 in
theorem r_one_digit (s : ByteArray) (hs : s.size ≤ 4096) (k : Nat) (hk : k < s.size) (c : UInt8) (hc : s.data.toList[k]? = some c) (hsm : smallB (c.toNat : Int) = false) (hg : greatB (c.toNat : Int) = false) (hdd : digitB (c.toNat : Int) = true) (h34 : Hid (c ≠ 34)) (w : World) :
    Calls Tryz.prog 102 #[.string s, .int .i64 (k : Nat)] w (OneRR s k w) := by
  have HGR := Lib.hid hg
  have HSM := Lib.hid hsm
  have HDD := Lib.hid hdd
  clear hg hsm hdd
  have hb := byte_at hc
  have hlt' : (k : Int) < (s.size : Int) := by omega
  have k0 : (0 : Int) ≤ (k : Int) := by omega
  have HC := Lib.hid hc
  clear hc
  go_enter Tryz.func102, Tryz.ntmps102
  go_upto_block 0 with fail
  obtain ⟨wa, hwa⟩ : ∃ wa, wa = (w.alloc (.cells #[.int .i64 0, .int .i64 0, .int .i64 0, .string ⟨#[]⟩] 84)).alloc (.cells #[.int .i64 0, .int .i64 (k : Nat), .int .i64 0, .string ⟨#[]⟩] 84) := ⟨_, rfl⟩
  have HW : Hid (OneW w k wa) := Lib.hid (by
    rw [hwa]
    exact ⟨(Blk.new' (c := [_, _, _, _]) rfl).alloc _, Blk.new' (c := [_, _, _, _]) (by simp), ((Below.refl _ w).alloc (Nat.le_refl _) _).alloc (by simp) _⟩)
  obtain ⟨r0, hr0⟩ : ∃ r0, r0 = w.heap.size := ⟨_, rfl⟩
  rw [← hwa, ← hr0]
  have HR0 := Lib.hid hr0
  clear hwa hr0
  go_cut [8] (fun nv wx => ∃ m : Nat, nv = .int .i64 m ∧ k + m ≤ s.size ∧ (inNameB (c.toNat : Int) = true → 1 ≤ m) ∧ wx = wa)
  case first =>
    go_wp2_with (fail)
    go_loopw [8] (fun nv wx => ∃ m : Nat, nv = .int .i64 m ∧ k + m ≤ s.size ∧ wx = wa) (fun nv _ => s.size - (RowKit.intOf nv).toNat)
    case atStart => exact ⟨0, rfl, by omega, rfl⟩
    case round =>
      obtain ⟨m, rfl, hm, rfl⟩ := hrel
      clear hb
      by_cases hlt : k + m < s.size
      · obtain ⟨x, hx⟩ : ∃ c, s.data.toList[k + m]? = some c := ⟨_, List.getElem?_eq_getElem (by rw [size_toList]; exact hlt)⟩
        have hbx := byte_at hx
        have h1 : (k : Int) + (m : Int) < (s.size : Int) := by omega
        have h2 : (0 : Int) ≤ (k : Int) + (m : Int) := by omega
        have n1 : ((k : Int) + (m : Int)).toNat = k + m := by omega
        have HS := Lib.hid (fun w => r_small (x.toNat : Int) w)
        have HG := Lib.hid (fun w => r_great (x.toNat : Int) w)
        have HD := Lib.hid (fun w => r_digit (x.toNat : Int) w)
        have hz : Hid (m = 0 → x = c) := Lib.hid (by
          rintro rfl
          rw [Nat.add_zero, HC.out] at hx
          exact (Option.some.inj hx).symm)
        obtain ⟨p, hp⟩ : ∃ p, Hid (smallB (x.toNat : Int) = p) := ⟨_, rfl⟩
        obtain ⟨q, hq⟩ : ∃ p, Hid (greatB (x.toNat : Int) = p) := ⟨_, rfl⟩
        obtain ⟨r, hr⟩ : ∃ p, Hid (digitB (x.toNat : Int) = p) := ⟨_, rfl⟩
        rw [hp.out] at HS
        rw [hq.out] at HG
        rw [hr.out] at HD
        clear hx
        cases p
        · cases q
          · cases r
            · by_cases h39 : x = 39
              · have t39 : ((x.toNat : Int) == 39) = true := by rw [h39]; rfl
                clear h39
                go_wp2_with (first | (go_at_call 169; ((with_reducible refine (HS.out _).mono ?_); rintro e w' ⟨rfl, rfl⟩)) | (go_at_call 170; ((with_reducible refine (HG.out _).mono ?_); rintro e w' ⟨rfl, rfl⟩)) | (go_at_call 171; ((with_reducible refine (HD.out _).mono ?_); rintro e w' ⟨rfl, rfl⟩)))
                go_roundw
                case rel => exact ⟨m + 1, by go_num, by omega, by first | rfl | trivial⟩
                case measure => simp [RowKit.intOf]; omega
              · have t39 : ((x.toNat : Int) == 39) = false := bne8 x 39 h39 (by decide)
                clear h39
                go_wp2_with (first | (go_at_call 169; ((with_reducible refine (HS.out _).mono ?_); rintro e w' ⟨rfl, rfl⟩)) | (go_at_call 170; ((with_reducible refine (HG.out _).mono ?_); rintro e w' ⟨rfl, rfl⟩)) | (go_at_call 171; ((with_reducible refine (HD.out _).mono ?_); rintro e w' ⟨rfl, rfl⟩)))
                go_meet
                refine ⟨m, rfl, by omega, fun h => ?_, rfl⟩
                rcases Nat.eq_zero_or_pos m with h0 | h0
                · have hxc := hz.out h0
                  subst hxc
                  unfold inNameB at h
                  rw [hp.out, hq.out, hr.out, t39] at h
                  cases h
                · exact h0
            · skip
              go_wp2_with (first | (go_at_call 169; ((with_reducible refine (HS.out _).mono ?_); rintro e w' ⟨rfl, rfl⟩)) | (go_at_call 170; ((with_reducible refine (HG.out _).mono ?_); rintro e w' ⟨rfl, rfl⟩)) | (go_at_call 171; ((with_reducible refine (HD.out _).mono ?_); rintro e w' ⟨rfl, rfl⟩)))
              go_roundw
              case rel => exact ⟨m + 1, by go_num, by omega, by first | rfl | trivial⟩
              case measure => simp [RowKit.intOf]; omega
          · skip
            go_wp2_with (first | (go_at_call 169; ((with_reducible refine (HS.out _).mono ?_); rintro e w' ⟨rfl, rfl⟩)) | (go_at_call 170; ((with_reducible refine (HG.out _).mono ?_); rintro e w' ⟨rfl, rfl⟩)) | (go_at_call 171; ((with_reducible refine (HD.out _).mono ?_); rintro e w' ⟨rfl, rfl⟩)))
            go_roundw
            case rel => exact ⟨m + 1, by go_num, by omega, by first | rfl | trivial⟩
            case measure => simp [RowKit.intOf]; omega
        · skip
          go_wp2_with (first | (go_at_call 169; ((with_reducible refine (HS.out _).mono ?_); rintro e w' ⟨rfl, rfl⟩)) | (go_at_call 170; ((with_reducible refine (HG.out _).mono ?_); rintro e w' ⟨rfl, rfl⟩)) | (go_at_call 171; ((with_reducible refine (HD.out _).mono ?_); rintro e w' ⟨rfl, rfl⟩)))
          go_roundw
          case rel => exact ⟨m + 1, by go_num, by omega, by first | rfl | trivial⟩
          case measure => simp [RowKit.intOf]; omega
      · have h1 : ¬ (k : Int) + (m : Int) < (s.size : Int) := by omega
        go_wp2_with (fail)
        go_meet
        exact ⟨m, rfl, by omega, fun _ => by omega, rfl⟩
  case rest =>
    obtain ⟨m, rfl, hm, hm1, rfl⟩ := hcut
    have hm1 : 1 ≤ m := hm1 (by unfold inNameB; rw [HDD.out]; simp)
    have HS := Lib.hid (fun w => r_small (c.toNat : Int) w)
    have HG := Lib.hid (fun w => r_great (c.toNat : Int) w)
    have HD := Lib.hid (fun w => r_digit (c.toNat : Int) w)
    rw [HGR.out] at HG
    rw [HSM.out] at HS
    rw [HDD.out] at HD
    obtain ⟨hZ, hA, hBW⟩ := HW.out
    rw [← HR0.out] at hZ hA
    have HZ := Lib.hid hZ
    have HA := Lib.hid hA
    have HB := Lib.hid hBW
    have cz := HZ.out.cell
    have fz := HZ.out.free
    have ca := HA.out.cell
    have fa := HA.out.free
    have hne : r0 ≠ r0 + 1 := by omega
    clear hZ hA hBW
    have k1 : (k : Int) ≤ (k : Int) + (m : Int) := by omega
    have k2 : (k : Int) + (m : Int) ≤ (s.size : Int) := by omega
    have k3 : (0 : Int) ≤ (k : Int) + (m : Int) := by omega
    have hd : 48 ≤ c.toNat ∧ c.toNat ≤ 57 := by
      have := HDD.out
      unfold digitB at this
      simp at this
      omega
    have HP := Lib.hid (fun w => r01_Parse (s.extract k (k + m)) (by rw [ByteArray.size_extract]; omega) c (by
      have h1 : (s.extract k (k + m)).data.toList = (s.data.toList.drop k).take m := by simp
      rw [h1, List.getElem?_take, if_pos (by omega), List.getElem?_drop, Nat.add_zero]
      exact HC.out) hd w)
    clear hd
    go_wp2_with (first | (go_at_call 169; ((with_reducible refine (HS.out _).mono ?_); rintro e w' ⟨rfl, rfl⟩)) | (go_at_call 170; ((with_reducible refine (HG.out _).mono ?_); rintro e w' ⟨rfl, rfl⟩)) | (go_at_call 171; ((with_reducible refine (HD.out _).mono ?_); rintro e w' ⟨rfl, rfl⟩)))
    with_reducible refine (HP.out _).mono ?_
    rintro e w' ⟨⟨x, er, hx, hEr, rfl⟩, rfl⟩
    have HX := Lib.hid (fun w => r01_Num x hx w)
    clear hx hEr
    by_cases h5 : er = 5
    · subst h5
      have HA2 := HA
      have HZ2 := HZ
      have HB2 := HB
      clear cz fz ca fa
      have cz := HZ2.out.cell
      have fz := HZ2.out.free
      have ca := HA2.out.cell
      have fa := HA2.out.free
      go_wp2_with (fail)
      refine ⟨rfl, _, ret_tok3 rfl rfl ((((HZ2.out.set 0 _).set 1 _).set 2 _).set 3 _), ?_⟩
      refine ⟨_, _, _, _, 0, 20, rfl, .inr ⟨by decide, oneF_other HC.out h34.out⟩, ?_⟩
      exact ((((HB2.out.setCell (by have := HR0.out; simp; omega) _).setCell (by have := HR0.out; simp; omega) _).setCell (by have := HR0.out; simp; omega) _).setCell (by have := HR0.out; simp; omega) _)
    · have t5 : (er == 5) = false := by rw [beq_eq_false_iff_ne]; exact h5
      by_cases h0 : er = 0
      · subst h0
        clear h5
        go_upto_region 22 with (go_at_call 108; ((with_reducible refine (HX.out _).mono ?_); rintro e w' ⟨rfl, rfl⟩))
        have HA2 := Lib.hid ((HA.out.set 0 (.int .i64 1)).set 2 (.int .i64 (wNum x)))
        have HZ2 := Lib.hid ((HZ.out.other hne 0 (.int .i64 1)).other hne 2 (.int .i64 (wNum x)))
        have HB2 := Lib.hid ((((HB.out.setCell (by have := HR0.out; simp; omega) _).setCell (by have := HR0.out; simp; omega) _) : Below w.heap.size w (((_ : World).setCell ⟨r0 + 1, 0, none⟩ (.int .i64 1)).setCell ⟨r0 + 1, 2, none⟩ (.int .i64 (wNum x)))))
        clear cz fz ca fa
        generalize (World.setCell (World.setCell _ ⟨r0 + 1, 0, none⟩ (.int .i64 1)) ⟨r0 + 1, 2, none⟩ (.int .i64 (wNum x))) = w2 at *
        replace HA2 : Hid (Blk w2 (r0 + 1) [.int .i64 1, .int .i64 (k : Nat), .int .i64 (wNum x), .string ⟨#[]⟩] 84) := HA2
        have cz := HZ2.out.cell
        have fz := HZ2.out.free
        have ca := HA2.out.cell
        have fa := HA2.out.free
        go_wp2_with (fail)
        refine ⟨rfl, _, ret_tok3 rfl rfl ((((HZ2.out.set 0 _).set 1 _).set 2 _).set 3 _), ?_⟩
        refine ⟨_, _, _, _, m, 0, rfl, .inl ⟨rfl, oneR_other HC.out h34.out (by decide) (by omega) (by rw [size_toList]; omega)⟩, ?_⟩
        exact ((((HB2.out.setCell (by have := HR0.out; simp; omega) _).setCell (by have := HR0.out; simp; omega) _).setCell (by have := HR0.out; simp; omega) _).setCell (by have := HR0.out; simp; omega) _)
      · have t0 : (er != 0) = true := by rw [bne_iff_ne]; exact h0
        have H0 := Lib.hid h0
        have HA2 := HA
        have HZ2 := HZ
        have HB2 := HB
        clear cz fz ca fa h0 h5
        have cz := HZ2.out.cell
        have fz := HZ2.out.free
        have ca := HA2.out.cell
        have fa := HA2.out.free
        go_wp2_with (fail)
        refine ⟨rfl, _, ret_tok3 rfl rfl ((((HZ2.out.set 0 _).set 1 _).set 2 _).set 3 _), ?_⟩
        refine ⟨_, _, _, _, 0, er, rfl, .inr ⟨H0.out, oneF_other HC.out h34.out⟩, ?_⟩
        exact ((((HB2.out.setCell (by have := HR0.out; simp; omega) _).setCell (by have := HR0.out; simp; omega) _).setCell (by have := HR0.out; simp; omega) _).setCell (by have := HR0.out; simp; omega) _)

theorem r_Signs' (w : World) : Calls Tryz.prog 175 #[] w fun e w' => ∃ g, w.heap.size ≤ g ∧ e = .returned (.slice (some ⟨g, 0, none⟩) 33 33) ∧ Blk w' g (strs rSigns) 9 ∧ Below w.heap.size w w' :=
  (r_Signs w).mono fun _ _ ⟨h1, h2, h3⟩ => ⟨w.heap.size, Nat.le_refl _, h1, h2, h3⟩
set_option maxRecDepth 100000 in
set_option maxHeartbeats 8000000 in
theorem r_one_sign (s : ByteArray) (hs : s.size ≤ 4096) (k : Nat) (hk : k < s.size) (c : UInt8) (hc : s.data.toList[k]? = some c) (hsm : smallB (c.toNat : Int) = false) (hg : greatB (c.toNat : Int) = false) (hdd : digitB (c.toNat : Int) = false) (h34 : Hid (c ≠ 34)) (w : World) :
    Calls Tryz.prog 102 #[.string s, .int .i64 (k : Nat)] w (OneRR s k w) := by
  have HGR := Lib.hid hg
  have HSM := Lib.hid hsm
  have HDD := Lib.hid hdd
  clear hg hsm hdd
  have hb := byte_at hc
  have hlt' : (k : Int) < (s.size : Int) := by omega
  have k0 : (0 : Int) ≤ (k : Int) := by omega
  have HC := Lib.hid hc
  clear hc
  go_enter Tryz.func102, Tryz.ntmps102
  go_upto_block 0 with fail
  obtain ⟨wa, hwa⟩ : ∃ wa, wa = (w.alloc (.cells #[.int .i64 0, .int .i64 0, .int .i64 0, .string ⟨#[]⟩] 84)).alloc (.cells #[.int .i64 0, .int .i64 (k : Nat), .int .i64 0, .string ⟨#[]⟩] 84) := ⟨_, rfl⟩
  have HW : Hid (OneW w k wa) := Lib.hid (by
    rw [hwa]
    exact ⟨(Blk.new' (c := [_, _, _, _]) rfl).alloc _, Blk.new' (c := [_, _, _, _]) (by simp), ((Below.refl _ w).alloc (Nat.le_refl _) _).alloc (by simp) _⟩)
  obtain ⟨r0, hr0⟩ : ∃ r0, r0 = w.heap.size := ⟨_, rfl⟩
  rw [← hwa, ← hr0]
  have HR0 := Lib.hid hr0
  clear hwa hr0
  go_cut [8] (fun nv wx => ∃ m : Nat, nv = .int .i64 m ∧ k + m ≤ s.size ∧ (inNameB (c.toNat : Int) = true → 1 ≤ m) ∧ wx = wa)
  case first =>
    go_wp2_with (fail)
    go_loopw [8] (fun nv wx => ∃ m : Nat, nv = .int .i64 m ∧ k + m ≤ s.size ∧ wx = wa) (fun nv _ => s.size - (RowKit.intOf nv).toNat)
    case atStart => exact ⟨0, rfl, by omega, rfl⟩
    case round =>
      obtain ⟨m, rfl, hm, rfl⟩ := hrel
      clear hb
      by_cases hlt : k + m < s.size
      · obtain ⟨x, hx⟩ : ∃ c, s.data.toList[k + m]? = some c := ⟨_, List.getElem?_eq_getElem (by rw [size_toList]; exact hlt)⟩
        have hbx := byte_at hx
        have h1 : (k : Int) + (m : Int) < (s.size : Int) := by omega
        have h2 : (0 : Int) ≤ (k : Int) + (m : Int) := by omega
        have n1 : ((k : Int) + (m : Int)).toNat = k + m := by omega
        have HS := Lib.hid (fun w => r_small (x.toNat : Int) w)
        have HG := Lib.hid (fun w => r_great (x.toNat : Int) w)
        have HD := Lib.hid (fun w => r_digit (x.toNat : Int) w)
        have hz : Hid (m = 0 → x = c) := Lib.hid (by
          rintro rfl
          rw [Nat.add_zero, HC.out] at hx
          exact (Option.some.inj hx).symm)
        obtain ⟨p, hp⟩ : ∃ p, Hid (smallB (x.toNat : Int) = p) := ⟨_, rfl⟩
        obtain ⟨q, hq⟩ : ∃ p, Hid (greatB (x.toNat : Int) = p) := ⟨_, rfl⟩
        obtain ⟨r, hr⟩ : ∃ p, Hid (digitB (x.toNat : Int) = p) := ⟨_, rfl⟩
        rw [hp.out] at HS
        rw [hq.out] at HG
        rw [hr.out] at HD
        clear hx
        cases p
        · cases q
          · cases r
            · by_cases h39 : x = 39
              · have t39 : ((x.toNat : Int) == 39) = true := by rw [h39]; rfl
                clear h39
                go_wp2_with (first | (go_at_call 169; ((with_reducible refine (HS.out _).mono ?_); rintro e w' ⟨rfl, rfl⟩)) | (go_at_call 170; ((with_reducible refine (HG.out _).mono ?_); rintro e w' ⟨rfl, rfl⟩)) | (go_at_call 171; ((with_reducible refine (HD.out _).mono ?_); rintro e w' ⟨rfl, rfl⟩)))
                go_roundw
                case rel => exact ⟨m + 1, by go_num, by omega, by first | rfl | trivial⟩
                case measure => simp [RowKit.intOf]; omega
              · have t39 : ((x.toNat : Int) == 39) = false := bne8 x 39 h39 (by decide)
                clear h39
                go_wp2_with (first | (go_at_call 169; ((with_reducible refine (HS.out _).mono ?_); rintro e w' ⟨rfl, rfl⟩)) | (go_at_call 170; ((with_reducible refine (HG.out _).mono ?_); rintro e w' ⟨rfl, rfl⟩)) | (go_at_call 171; ((with_reducible refine (HD.out _).mono ?_); rintro e w' ⟨rfl, rfl⟩)))
                go_meet
                refine ⟨m, rfl, by omega, fun h => ?_, rfl⟩
                rcases Nat.eq_zero_or_pos m with h0 | h0
                · have hxc := hz.out h0
                  subst hxc
                  unfold inNameB at h
                  rw [hp.out, hq.out, hr.out, t39] at h
                  cases h
                · exact h0
            · skip
              go_wp2_with (first | (go_at_call 169; ((with_reducible refine (HS.out _).mono ?_); rintro e w' ⟨rfl, rfl⟩)) | (go_at_call 170; ((with_reducible refine (HG.out _).mono ?_); rintro e w' ⟨rfl, rfl⟩)) | (go_at_call 171; ((with_reducible refine (HD.out _).mono ?_); rintro e w' ⟨rfl, rfl⟩)))
              go_roundw
              case rel => exact ⟨m + 1, by go_num, by omega, by first | rfl | trivial⟩
              case measure => simp [RowKit.intOf]; omega
          · skip
            go_wp2_with (first | (go_at_call 169; ((with_reducible refine (HS.out _).mono ?_); rintro e w' ⟨rfl, rfl⟩)) | (go_at_call 170; ((with_reducible refine (HG.out _).mono ?_); rintro e w' ⟨rfl, rfl⟩)) | (go_at_call 171; ((with_reducible refine (HD.out _).mono ?_); rintro e w' ⟨rfl, rfl⟩)))
            go_roundw
            case rel => exact ⟨m + 1, by go_num, by omega, by first | rfl | trivial⟩
            case measure => simp [RowKit.intOf]; omega
        · skip
          go_wp2_with (first | (go_at_call 169; ((with_reducible refine (HS.out _).mono ?_); rintro e w' ⟨rfl, rfl⟩)) | (go_at_call 170; ((with_reducible refine (HG.out _).mono ?_); rintro e w' ⟨rfl, rfl⟩)) | (go_at_call 171; ((with_reducible refine (HD.out _).mono ?_); rintro e w' ⟨rfl, rfl⟩)))
          go_roundw
          case rel => exact ⟨m + 1, by go_num, by omega, by first | rfl | trivial⟩
          case measure => simp [RowKit.intOf]; omega
      · have h1 : ¬ (k : Int) + (m : Int) < (s.size : Int) := by omega
        go_wp2_with (fail)
        go_meet
        exact ⟨m, rfl, by omega, fun _ => by omega, rfl⟩
  case rest =>
    obtain ⟨m, rfl, hm, hm1, rfl⟩ := hcut
    clear hm1
    have HS := Lib.hid (fun w => r_small (c.toNat : Int) w)
    have HG := Lib.hid (fun w => r_great (c.toNat : Int) w)
    have HD := Lib.hid (fun w => r_digit (c.toNat : Int) w)
    rw [HGR.out] at HG
    rw [HSM.out] at HS
    rw [HDD.out] at HD
    obtain ⟨hZ, hA, hBW⟩ := HW.out
    rw [← HR0.out] at hZ hA
    have HZ := Lib.hid hZ
    have HA := Lib.hid hA
    have HB := Lib.hid hBW
    have cz := HZ.out.cell
    have fz := HZ.out.free
    have ca := HA.out.cell
    have fa := HA.out.free
    have hne : r0 ≠ r0 + 1 := by omega
    clear hZ hA hBW
    have t34 : ((c.toNat : Int) == 34) = false := bne8 c 34 h34.out (by decide)
    go_wp2_with (first | (go_at_call 169; ((with_reducible refine (HS.out _).mono ?_); rintro e w' ⟨rfl, rfl⟩)) | (go_at_call 170; ((with_reducible refine (HG.out _).mono ?_); rintro e w' ⟨rfl, rfl⟩)) | (go_at_call 171; ((with_reducible refine (HD.out _).mono ?_); rintro e w' ⟨rfl, rfl⟩)))
    refine (r_Signs' _).mono ?_
    rintro e w1 ⟨g, hg, rfl, hb1, hB⟩
    have HA1 := Lib.hid (blk_below HA.out hB)
    have HZ1 := Lib.hid (blk_below HZ.out hB)
    have HB1 := Lib.hid (HB.out.trans (hB.mono HB.out.size))
    have HG1 := Lib.hid hb1
    have hgr : r0 + 1 < g := Nat.lt_of_lt_of_le HA.out.lt hg
    clear hB hb1 cz fz ca fa hg
    have cz := HZ1.out.cell
    have fz := HZ1.out.free
    have ca := HA1.out.cell
    have fa := HA1.out.free
    go_wp2_with (fail)
    go_loop [15] (fun i => ∃ j : Nat, i = .int .i64 j ∧ j ≤ 33) (fun i => 33 - (RowKit.intOf i).toNat)
    case atStart => exact ⟨0, rfl, by omega⟩
    case round =>
      obtain ⟨j, rfl, hj⟩ := hrel
      have j0 : (0 : Int) ≤ (j : Int) := by omega
      rcases Nat.lt_or_ge j 33 with hlt | hge
      · have hlt2 : (j : Int) < 33 := by omega
        obtain ⟨x, hx⟩ : ∃ x, rSigns[j]? = some x := ⟨_, List.getElem?_eq_getElem (by show j < 33; exact hlt)⟩
        have cx : w1.cell? ⟨g, j, none⟩ = some (.string x) := by rw [HG1.out.cell]; exact strs_get hx
        have hxs := rSigns_len j x hx
        have e1 : IntKind.i64.wrap ((j : Int) + 1) = (j : Int) + 1 := IntWalk.i64_in _ (by omega)
        have H1 := Lib.hid (fun w => r_at s x k w (by omega) (by omega) (by omega))
        obtain ⟨q, hq⟩ : ∃ q, Hid (atB s k x = q) := ⟨_, rfl⟩
        rw [hq.out] at H1
        have HX := Lib.hid (strs_get hx)
        clear hx
        cases q
        · go_wp2_with (go_at_call 100; ((with_reducible refine (H1.out _).mono ?_); rintro e w' ⟨rfl, rfl⟩))
          go_round
          case rel => exact ⟨j + 1, by go_num, by omega⟩
          case measure => simp [RowKit.intOf]; omega
        · have hks : k + x.size ≤ s.size := by
            have h1 := hq.out
            unfold atB at h1
            rw [Bool.and_eq_true, decide_eq_true_iff] at h1
            exact h1.1
          go_upto_region 37 with (go_at_call 100; ((with_reducible refine (H1.out _).mono ?_); rintro e w' ⟨rfl, rfl⟩))
          have HA2 := Lib.hid ((HA1.out.set 0 (.int .i64 5)).set 3 (.string x))
          have HZ2 := Lib.hid ((HZ1.out.other hne 0 (.int .i64 5)).other hne 3 (.string x))
          have HG2 := Lib.hid ((HG1.out.other (b' := r0 + 1) (by omega) 0 (.int .i64 5)).other (b' := r0 + 1) (by omega) 3 (.string x))
          have HB2 := Lib.hid ((((HB1.out.setCell (by have := HR0.out; simp; omega) _).setCell (by have := HR0.out; simp; omega) _) : Below w.heap.size w (((_ : World).setCell ⟨r0 + 1, 0, none⟩ (.int .i64 5)).setCell ⟨r0 + 1, 3, none⟩ (.string x))))
          clear cz fz ca fa cx
          generalize (World.setCell (World.setCell _ ⟨r0 + 1, 0, none⟩ (.int .i64 5)) ⟨r0 + 1, 3, none⟩ (.string x)) = w2 at *
          replace HA2 : Hid (Blk w2 (r0 + 1) [.int .i64 5, .int .i64 (k : Nat), .int .i64 0, .string x] 84) := HA2
          have cx : w2.cell? ⟨g, j, none⟩ = some (.string x) := by
            rw [HG2.out.cell]; exact HX.out
          have cz := HZ2.out.cell
          have fz := HZ2.out.free
          have ca := HA2.out.cell
          have fa := HA2.out.free
          go_region
          go_wp2_with (fail)
          refine ⟨rfl, _, ret_tok3 rfl rfl (Blk.drew ((((HZ2.out.set 0 _).set 1 _).set 2 _).set 3 _)), ?_⟩
          refine ⟨_, _, _, _, x.size, 0, rfl, .inl ⟨rfl, oneR_other HC.out h34.out (by decide) (by omega) (by rw [size_toList]; omega)⟩, ?_⟩
          exact below_drewN (((((HB2.out.setCell (by have := HR0.out; simp; omega) _).setCell (by have := HR0.out; simp; omega) _).setCell (by have := HR0.out; simp; omega) _).setCell (by have := HR0.out; simp; omega) _)) 1
      · have hlt2 : ¬ (j : Int) < 33 := by omega
        have HA2 := HA1
        have HZ2 := HZ1
        have HB2 := HB1
        clear cz fz ca fa
        have cz := HZ2.out.cell
        have fz := HZ2.out.free
        have ca := HA2.out.cell
        have fa := HA2.out.free
        go_wp2_with (fail)
        refine ⟨rfl, _, ret_tok3 rfl rfl ((((HZ2.out.set 0 _).set 1 _).set 2 _).set 3 _), ?_⟩
        refine ⟨_, _, _, _, 0, 20, rfl, .inr ⟨by decide, oneF_other HC.out h34.out⟩, ?_⟩
        exact ((((HB2.out.setCell (by have := HR0.out; simp; omega) _).setCell (by have := HR0.out; simp; omega) _).setCell (by have := HR0.out; simp; omega) _).setCell (by have := HR0.out; simp; omega) _)

end Go.Proofs.YtnmpckdggddpoaaGreatDoor

namespace Go.Proofs.YtnmpckdggddpoaaGreatDoor
set_option linter.unusedSimpArgs false
set_option linter.unusedVariables false
open Go.RowKit Go.Shelf Go.Lib

theorem r_one (s : ByteArray) (hs : s.size ≤ 4096) (k : Nat) (hk : k < s.size) (w : World) : Calls Tryz.prog 102 #[.string s, .int .i64 (k : Nat)] w (OneRR s k w) := by
  obtain ⟨c, hc⟩ : ∃ c, s.data.toList[k]? = some c := ⟨_, List.getElem?_eq_getElem (by rw [size_toList]; exact hk)⟩
  by_cases h34 : c = 34
  · subst h34; exact r_one_quote s hs k hk hc w
  · cases hg : greatB (c.toNat : Int)
    · cases hsm : smallB (c.toNat : Int)
      · cases hd : digitB (c.toNat : Int)
        · exact r_one_sign s hs k hk c hc hsm hg hd (Lib.hid h34) w
        · exact r_one_digit s hs k hk c hc hsm hg hd (Lib.hid h34) w
      · exact r_one_small s hs k hk c hc hsm hg (Lib.hid h34) w
    · exact r_one_great s hs k hk c hc hg (Lib.hid h34) w

def LexR2 (s : ByteArray) (w : World) (e : Ending) (w' : World) : Prop :=
  ∃ (v : Value) (er at_ : Int) (n : Nat) (xs : List Value) (k0 a0 n0 : Int) (t0 : ByteArray),
      e = .returned (.tuple #[v, .int .i64 er, .int .i64 at_]) ∧ Sl w' v 84 4 n xs ∧ (0 < n → xs.take 4 = [.int .i64 k0, .int .i64 a0, .int .i64 n0, .string t0]) ∧ LexOk s.data.toList er n k0 a0 n0 t0.data.toList ∧ Below w.heap.size w w' ∧ (s.data.toList[0]? = some 34 → 2 ≤ n → a0 = 0)
theorem LexR2.bad {s : ByteArray} {w w' : World} (er at_ : Int) (hq : quoS s.data.toList = none) (hB : Below w.heap.size w w') : LexR2 s w (.returned (.tuple #[.slice none 0 0, .int .i64 er, .int .i64 at_])) w' :=
  ⟨_, er, at_, 0, [], 0, 0, 0, ByteArray.empty, rfl, Sl.nil _ _ _, fun h => by omega, .inl ⟨hq, fun _ h => by omega⟩, hB, fun _ h => by omega⟩
theorem lexI_first {s : List UInt8} {p n : Nat} {k0 a0 n0 : Int} {t0 : List UInt8} (h : LexI s p n k0 a0 n0 t0) (hn : 0 < n) (hq : s[0]? = some 34) : a0 = 0 := by
  obtain ⟨p0, p1, g, o, _⟩ := h.2 hn
  have h1 := g.q hq
  have h2 := o.pl
  subst h1
  simpa using h2

theorem r_Lex_big (s : ByteArray) (w : World) (hs : 4096 < s.size) : Calls Tryz.prog 56 #[.string s] w (LexR2 s w) := by
  have hgt : (4096 : Int) < (s.size : Int) := by omega
  have hq : Hid (quoS s.data.toList = none) := Lib.hid (by unfold quoS; rw [if_pos (by rw [size_toList]; exact hs)])
  clear hs
  go_enter Tryz.func56, Tryz.ntmps56
  go_wp2_with (fail)
  go_ret3
  exact LexR2.bad _ _ hq.out (Below.refl _ _)

set_option maxRecDepth 100000 in
set_option maxHeartbeats 8000000 in
theorem r_Lex (s : ByteArray) (hs : s.size ≤ 4096) (w : World) : Calls Tryz.prog 56 #[.string s] w (LexR2 s w) := by
  obtain ⟨i0, hi, hz0, hz1, hz2⟩ := info_parts infoTok
  have hgt : ¬ (4096 : Int) < (s.size : Int) := by omega
  go_enter Tryz.func56, Tryz.ntmps56
  go_wp2_with (fail)
  clear hgt
  go_loopw [5, 6, 7, 8, 9, 10, 11] (fun ov iv _ _ _ _ _ wr => ∃ (p n : Nat) (xs : List Value) (k0 a0 n0 : Int) (t0 : ByteArray), iv = .int .i64 p ∧ p ≤ s.size ∧ n ≤ p ∧ Hid (LexI s.data.toList p n k0 a0 n0 t0.data.toList) ∧ Hid (0 < n → xs.take 4 = [.int .i64 k0, .int .i64 a0, .int .i64 n0, .string t0]) ∧ Hid (∀ u ∈ xs, u.oneCell' = true) ∧
      Sl wr ov 84 4 n xs ∧ Hid (Below w.heap.size w wr) ∧ Hid (∀ q ∈ own ov, w.heap.size ≤ q)) (fun _ iv _ _ _ _ _ _ => s.size - (RowKit.intOf iv).toNat)
  case atStart =>
    refine ⟨0, 0, [], 0, 0, 0, ⟨#[]⟩, rfl, by omega, by omega, ⟨fun _ => GapR.refl (by omega), fun h => by omega⟩, fun h => by omega, fun u hu => by simp at hu, Sl.ofBlk (Blk.new' (c := []) rfl) rfl (by unfold maxLen; omega), (Below.refl _ w).alloc (Nat.le_refl _) _, fun q hq => by simp [own, Value.ownBlock] at hq; omega⟩
  case round =>
    obtain ⟨p, n, xs, k0, a0, n0, t0, rfl, hp, hn, HI, HX, HO1, hS, HB, HN⟩ := hrel
    have HS := Lib.hid hS
    have p0 : (0 : Int) ≤ (p : Int) := by omega
    rcases Nat.lt_or_ge p s.size with hlt | hge
    · have hlt' : (p : Int) < (s.size : Int) := by omega
      obtain ⟨c, hc⟩ : ∃ c, s.data.toList[p]? = some c := ⟨_, List.getElem?_eq_getElem (by rw [size_toList]; exact hlt)⟩
      have hb := byte_at hc
      have HC := Lib.hid hc
      have e1 : IntKind.i64.wrap ((p : Int) + 1) = (p : Int) + 1 := IntWalk.i64_in _ (by omega)
      clear hS hc
      by_cases hq : c = 32
      · skip
        have t32 : ((c.toNat : Int) == 32) = true := by rw [hq]; rfl
        have hG : GapR s.data.toList p (p + 1) := ⟨by omega, by rw [size_toList]; omega, fun h => by rw [HC.out] at h; exact absurd (Option.some.inj h) (by rw [hq]; decide), fun _ h => by rw [Nat.add_sub_cancel, HC.out] at h; exact absurd (Option.some.inj h) (by rw [hq]; decide)⟩
        have HI2 := Lib.hid (HI.out.gap hG)
        clear hq hG
        go_wp2_with (fail)
        go_roundw
        case rel => exact ⟨p + 1, n, xs, k0, a0, n0, t0, by go_num, by omega, by omega, HI2, HX, HO1, HS.out, HB, HN⟩
        case measure => simp [RowKit.intOf]; omega
      have t32 : ((c.toNat : Int) == 32) = false := bne8 c 32 hq (by decide)
      clear hq
      by_cases hq : c = 10
      · skip
        have t10 : ((c.toNat : Int) == 10) = true := by rw [hq]; rfl
        have hG : GapR s.data.toList p (p + 1) := ⟨by omega, by rw [size_toList]; omega, fun h => by rw [HC.out] at h; exact absurd (Option.some.inj h) (by rw [hq]; decide), fun _ h => by rw [Nat.add_sub_cancel, HC.out] at h; exact absurd (Option.some.inj h) (by rw [hq]; decide)⟩
        have HI2 := Lib.hid (HI.out.gap hG)
        clear hq hG
        go_wp2_with (fail)
        go_roundw
        case rel => exact ⟨p + 1, n, xs, k0, a0, n0, t0, by go_num, by omega, by omega, HI2, HX, HO1, HS.out, HB, HN⟩
        case measure => simp [RowKit.intOf]; omega
      have t10 : ((c.toNat : Int) == 10) = false := bne8 c 10 hq (by decide)
      clear hq
      by_cases hq : c = 9
      · skip
        have t9 : ((c.toNat : Int) == 9) = true := by rw [hq]; rfl
        have hG : GapR s.data.toList p (p + 1) := ⟨by omega, by rw [size_toList]; omega, fun h => by rw [HC.out] at h; exact absurd (Option.some.inj h) (by rw [hq]; decide), fun _ h => by rw [Nat.add_sub_cancel, HC.out] at h; exact absurd (Option.some.inj h) (by rw [hq]; decide)⟩
        have HI2 := Lib.hid (HI.out.gap hG)
        clear hq hG
        go_wp2_with (fail)
        go_roundw
        case rel => exact ⟨p + 1, n, xs, k0, a0, n0, t0, by go_num, by omega, by omega, HI2, HX, HO1, HS.out, HB, HN⟩
        case measure => simp [RowKit.intOf]; omega
      have t9 : ((c.toNat : Int) == 9) = false := bne8 c 9 hq (by decide)
      clear hq
      by_cases hq : c = 13
      · skip
        have t13 : ((c.toNat : Int) == 13) = true := by rw [hq]; rfl
        have hG : GapR s.data.toList p (p + 1) := ⟨by omega, by rw [size_toList]; omega, fun h => by rw [HC.out] at h; exact absurd (Option.some.inj h) (by rw [hq]; decide), fun _ h => by rw [Nat.add_sub_cancel, HC.out] at h; exact absurd (Option.some.inj h) (by rw [hq]; decide)⟩
        have HI2 := Lib.hid (HI.out.gap hG)
        clear hq hG
        go_wp2_with (fail)
        go_roundw
        case rel => exact ⟨p + 1, n, xs, k0, a0, n0, t0, by go_num, by omega, by omega, HI2, HX, HO1, HS.out, HB, HN⟩
        case measure => simp [RowKit.intOf]; omega
      have t13 : ((c.toNat : Int) == 13) = false := bne8 c 13 hq (by decide)
      clear hq e1
      have H2 := Lib.hid (fun w => r_at s ⟨#[40, 42]⟩ p w (by omega) (by omega) (by decide))
      obtain ⟨q2, hq2⟩ : ∃ q, Hid (atB s p ⟨#[40, 42]⟩ = q) := ⟨_, rfl⟩
      rw [hq2.out] at H2
      cases q2
      · have HO := Lib.hid (fun w => r_one s hs p hlt w)
        go_wp2_with (go_at_call 100; ((with_reducible refine (H2.out _).mono ?_); rintro e w' ⟨rfl, rfl⟩))
        refine (HO.out _).mono ?_
        rintro e w1 ⟨kind, at2, num, t, m, er, rfl, hcase, hB1⟩
        have HF1 := Lib.hid (fr_of_below (F := []) hB1)
        have HS1 := Lib.hid (sl_fr HS.out HF1.out (by simp))
        have HB1 := Lib.hid (HB.out.trans (hB1.mono HB.out.size))
        rcases hcase with ⟨rfl, hone⟩ | ⟨her, hf⟩
        · have HONE := Lib.hid hone
          have hj1 := hone.lt
          have hj2 := hone.ub
          rw [size_toList] at hj2
          have e3 : IntKind.i64.wrap ((p : Int) + (m : Int)) = (p : Int) + (m : Int) := IntWalk.i64_in _ (by omega)
          have HNX : Hid (∃ (k1 a1 n1 : Int) (t1 : ByteArray), LexI s.data.toList (p + m) (n + 1) k1 a1 n1 t1.data.toList ∧ (xs ++ [Value.int .i64 kind, Value.int .i64 at2, Value.int .i64 num, Value.string t]).take 4 = [Value.int .i64 k1, .int .i64 a1, .int .i64 n1, .string t1]) := Lib.hid (by
            have h1 := HI.out.one HONE.out (by rw [size_toList]; exact hlt)
            have hl := HS.out.1
            by_cases hn0 : n = 0
            · have hx : xs = [] := List.eq_nil_of_length_eq_zero (by rw [hl, hn0])
              refine ⟨kind, at2, num, t, by rw [hn0]; exact h1.1 hn0, by rw [hx]; rfl⟩
            · refine ⟨k0, a0, n0, t0, h1.2 (by omega), ?_⟩
              rw [List.take_append_of_le_length (by rw [hl]; omega)]
              exact HX.out (by omega))
          clear hone hB1
          go_wp2_with (at_builtin; go_loud (refine wpList_app _ rfl (.tmp 68) (.tmp 70) 115 rfl 84 i0 (.agg #[.int .i64 0, .int .i64 0, .int .i64 0, .string ⟨#[]⟩]) 4 40 ulTok hi hz0 hz1 hz2 rfl _ n xs rfl ?hown _ 1 1 [.int .i64 kind, .int .i64 at2, .int .i64 num, .string t] rfl rfl (by exact cell_newL (by simp)) (tok_one _ _ _ _) (by unfold maxLen; omega) (by omega) ?go))
          case hown => exact (HS1.out.alloc _).alloc _
          case go =>
            intro ad' cap' w2 hs2 hU2
            have HS2 := Lib.hid hs2
            have HU2 := Lib.hid hU2
            clear hs2 hU2
            go_wp2_with (fail)
            go_roundw
            case rel =>
              obtain ⟨k1, a1, n1, t1, hI1, hX1⟩ := HNX.out
              have b2 : Below w.heap.size w w2 := by
                have b1 := ((HB1.out.alloc HB1.out.size (.cells #[.int .i64 kind, .int .i64 at2, .int .i64 num, .string t] 84)).alloc (by have := HB1.out.size; simp; omega) (.cells #[.int .i64 kind, .int .i64 at2, .int .i64 num, .string t] 84))
                exact b1.trans (HU2.out.fr.below b1.size HN.out)
              refine ⟨p + m, n + 1, _, k1, a1, n1, t1, by go_num, by omega, by omega, hI1, fun _ => hX1, ?_, HS2.out, b2, fun q hq => ?_⟩
              · intro u hu
                rcases List.mem_append.1 hu with h | h
                · exact HO1.out u h
                · exact tok_one _ _ _ _ u h
              · rcases HU2.out.new q hq with h | h
                · exact HN.out q h
                · have := HB1.out.size
                  simp at h
                  omega
            case measure => simp [RowKit.intOf]; omega
        · have t0' : (er != 0) = true := by rw [bne_iff_ne]; exact her
          have HQ := Lib.hid (HI.out.gapF hf)
          clear her hf hB1
          go_wp2_with (fail)
          go_ret3
          exact LexR2.bad _ _ HQ.out (HB1.out.alloc HB1.out.size _)
      · obtain ⟨g1, g2, g3⟩ := atB_two hq2.out
        have HK := Lib.hid (fun w => r_comment s hs s.size p (by omega) g1 w)
        have h40 : c = 40 := by rw [HC.out] at g2; exact Option.some.inj g2
        have HQF : Hid (OneF s.data.toList p) := Lib.hid (oneF_other HC.out (by rw [h40]; decide))
        have HG2 := Lib.hid g2
        clear g2 g3 h40
        go_wp2_with (go_at_call 100; ((with_reducible refine (H2.out _).mono ?_); rintro e w' ⟨rfl, rfl⟩))
        refine (HK.out _).mono ?_
        rintro e w' ⟨⟨i, rfl, hi1, hi2, hi3⟩ | rfl, rfl⟩
        · have HI2 := Lib.hid (HI.out.gap (gap_comment HG2.out hi3 hi1 hi2))
          clear hi3
          go_wp2_with (fail)
          go_roundw
          case rel => exact ⟨i, n, xs, k0, a0, n0, t0, rfl, by omega, by omega, HI2, HX, HO1, HS.out, HB, HN⟩
          case measure => simp [RowKit.intOf]; omega
        · go_wp2_with (fail)
          go_ret3
          exact LexR2.bad _ _ (HI.out.gapF HQF.out) HB.out
    · have hlt' : ¬ (p : Int) < (s.size : Int) := by omega
      have HPE : Hid (p = s.size) := Lib.hid (by omega)
      clear hS
      go_wp2_with (at_builtin; go_loud (refine wpList_app _ rfl (.tmp 75) (.tmp 79) 115 rfl 84 i0 (.agg #[.int .i64 0, .int .i64 0, .int .i64 0, .string ⟨#[]⟩]) 4 40 ulTok hi hz0 hz1 hz2 rfl _ n xs rfl ?hown _ 1 1 [.int .i64 0, .int .i64 s.size, .int .i64 0, .string ⟨#[]⟩] rfl rfl (by exact cell_newL (by simp)) (tok_one _ _ _ _) (by unfold maxLen; omega) (by omega) ?go))
      case hown => exact HS.out.alloc _
      case go =>
        intro ad' cap' w4 hs4 hU4
        have HS4 := Lib.hid hs4
        have HU4 := Lib.hid hU4
        clear hs4 hU4
        go_wp2_with (fail)
        go_ret3
        have hI := HI.out
        rw [HPE.out, ← size_toList] at hI
        have hlen : s.data.toList.length ≤ 4096 := by rw [size_toList]; exact hs
        have hFr : Below w.heap.size w w4 := by
          have b1 := HB.out.alloc HB.out.size (.cells #[.int .i64 0, .int .i64 s.size, .int .i64 0, .string ⟨#[]⟩] 84)
          exact b1.trans (HU4.out.fr.below b1.size HN.out)
        by_cases hn0 : n = 0
        · have hx : xs = [] := List.eq_nil_of_length_eq_zero (by rw [HS.out.1, hn0])
          refine ⟨_, 0, 0, n + 1, _, 0, s.size, 0, ⟨#[]⟩, rfl, HS4.out, fun _ => by rw [hx]; rfl, LexI.done ?_ hlen, hFr, fun _ h => by omega⟩
          exact ⟨hI.1, fun h => by omega⟩
        · refine ⟨_, 0, 0, n + 1, _, k0, a0, n0, t0, rfl, HS4.out, fun _ => ?_, LexI.done hI hlen, hFr, fun h _ => lexI_first hI (by omega) h⟩
          rw [List.take_append_of_le_length (by rw [HS.out.1]; omega)]
          exact HX.out (by omega)

theorem r_Lex_any (s : ByteArray) (w : World) : Calls Tryz.prog 56 #[.string s] w (LexR2 s w) := by
  by_cases h : s.size ≤ 4096
  · exact r_Lex s h w
  · exact r_Lex_big s w (by omega)

theorem quoS_short {l : List UInt8} (h : l.length < 2) : quoS l = none := by
  cases hq : quoS l with
  | none => rfl
  | some x =>
    obtain ⟨_, h2, h3, h4, _⟩ := quoS_some hq
    exfalso
    have h5 : l.drop 1 = [] := List.drop_eq_nil_of_le (by omega)
    rw [h5] at h4
    cases h4
theorem quoS_not {l : List UInt8} {c d : UInt8} (h0 : l[0]? = some c) (h1 : l[l.length - 1]? = some d) (h : ¬ (c = 34 ∧ d = 34)) : quoS l = none := by
  cases hq : quoS l with
  | none => rfl
  | some x =>
    obtain ⟨_, _, h3, _, h5⟩ := quoS_some hq
    exact absurd ⟨Option.some.inj (h0.symm.trans h3), Option.some.inj (h1.symm.trans h5)⟩ h

set_option maxRecDepth 100000 in
set_option maxHeartbeats 4000000 in
theorem ref_quoted (s : ByteArray) (w : World) (hs : s.size ≤ 9223372036854775806) :
    Calls Tryz.prog 32 #[.string s] w fun e w' => e = .returned (.tuple #[.string ⟨((quoS s.data.toList).getD []).toArray⟩, .bool (quoS s.data.toList).isSome]) ∧ Below w.heap.size w w' := by
  obtain ⟨T, hT⟩ : ∃ T, Hid (quoS s.data.toList = T) := ⟨_, rfl⟩
  rw [hT.out]
  by_cases h2 : s.size < 2
  · obtain rfl : T = none := hT.out.symm.trans (quoS_short (by rw [size_toList]; exact h2))
    have h2' : (s.size : Int) < 2 := by omega
    go_enter Tryz.func32, Tryz.ntmps32
    go_wp2_with (fail)
    go_ret2
    exact ⟨rfl, Below.refl _ _⟩
  have h2' : ¬ (s.size : Int) < 2 := by omega
  have hp0 : (0 : Int) < (s.size : Int) := by omega
  have e1 : IntKind.i64.wrap ((s.size : Int) - 1) = (s.size : Int) - 1 := IntWalk.i64_in _ (by omega)
  have hl1 : (s.size : Int) - 1 < (s.size : Int) := by omega
  have hl2 : (0 : Int) ≤ (s.size : Int) - 1 := by omega
  have n1 : ((s.size : Int) - 1).toNat = s.size - 1 := by omega
  obtain ⟨c, hc⟩ : ∃ c, s.data.toList[0]? = some c := ⟨_, List.getElem?_eq_getElem (by rw [size_toList]; omega)⟩
  obtain ⟨d, hd⟩ : ∃ c, s.data.toList[s.size - 1]? = some c := ⟨_, List.getElem?_eq_getElem (by rw [size_toList]; omega)⟩
  have hb := byte_at hc
  have hbd := byte_at hd
  have HC := Lib.hid hc
  have HD := Lib.hid hd
  clear h2 hc hd
  by_cases hc34 : c = 34
  · by_cases hd34 : d = 34
    · have tc : ((c.toNat : Int) != 34) = false := by rw [hc34]; rfl
      have td : ((d.toNat : Int) != 34) = false := by rw [hd34]; rfl
      have H34 := Lib.hid hc34
      have H35 := Lib.hid hd34
      clear hc34 hd34
      go_enter Tryz.func32, Tryz.ntmps32
      go_wp2_with (fail)
      refine (r_Lex_any s _).mono ?_
      rintro e w' ⟨v, er, at_, n, xs, k0, a0, n0, t0, rfl, hS, hX, hOk, hB, ha0⟩
      have HOk := Lib.hid hOk
      have HB := Lib.hid hB
      have HA0 : Hid (2 ≤ n → a0 = 0) := Lib.hid (ha0 (by rw [HC.out, H34.out]))
      clear hOk hB ha0
      obtain ⟨a, cap, rfl, hnc, hcm, hn0, hcc⟩ := hS.form
      by_cases h1 : ¬ er = 0
      · have hq : quoS s.data.toList = none := by
          rcases HOk.out with ⟨h, _⟩ | ⟨_, h, _⟩
          · exact h
          · exact absurd h h1
        obtain rfl : T = none := hT.out.symm.trans hq
        have t1 : (er != 0) = true := by rw [bne_iff_ne]; exact h1
        clear hS hX hcc hq h1
        go_wp2_with (fail)
        go_ret2
        exact ⟨rfl, HB.out⟩
      rw [Classical.not_not] at h1
      subst h1
      by_cases h2 : ¬ n = 2
      · have hq : quoS s.data.toList = none := by
          rcases HOk.out with ⟨h, _⟩ | ⟨_, _, h, _⟩
          · exact h
          · exact absurd h h2
        obtain rfl : T = none := hT.out.symm.trans hq
        have t1 : ((n : Int) != 2) = true := by rw [bne_iff_ne]; omega
        clear hS hX hcc hq h2
        go_wp2_with (fail)
        go_ret2
        exact ⟨rfl, HB.out⟩
      rw [Classical.not_not] at h2
      subst h2
      obtain ⟨ad, rfl⟩ : ∃ ad, a = some ad := by
        cases a with
        | none => exact absurd (hn0 rfl) (by omega)
        | some ad => exact ⟨ad, rfl⟩
      have hx4 := hX (by omega)
      have g0 : xs[0]? = some (.int .i64 k0) := by
        have h1 : (xs.take 4)[0]? = some (.int .i64 k0) := by rw [hx4]; rfl
        rw [List.getElem?_take] at h1
        simpa using h1
      have g3 : xs[3]? = some (.string t0) := by
        have h1 : (xs.take 4)[3]? = some (.string t0) := by rw [hx4]; rfl
        rw [List.getElem?_take] at h1
        simpa using h1
      have c0 := (hcc ad rfl).2 0 _ g0
      have c3 := (hcc ad rfl).2 3 _ g3
      obtain ⟨g, off, rfl⟩ : ∃ g off, ad = ⟨g, off, none⟩ := by
        rcases hS.2 with ⟨h, _⟩ | ⟨g, off, cap2, cur, h, _⟩
        · cases h
        · simp only [Value.slice.injEq, Option.some.injEq] at h; exact ⟨g, off, h.1⟩
      rw [add_at] at c0 c3
      rw [Nat.add_zero] at c0
      by_cases hk : k0 = 2
      · have hq : quoS s.data.toList = some t0.data.toList := by
          rcases HOk.out with ⟨h, h1⟩ | ⟨h, _⟩
          · exact absurd (by have := HD.out; rw [H35.out] at this; rw [size_toList]; exact this) ((h1 rfl rfl).2 hk (HA0.out (by omega)))
          · exact h
        obtain rfl : T = some t0.data.toList := hT.out.symm.trans hq
        subst hk
        clear hS hX hcc hq hx4 g0 g3 hn0
        go_wp2_with (fail)
        go_ret2
        exact ⟨by rw [show ((some t0.data.toList).getD [] : List UInt8) = t0.data.toList from rfl, bstr]; rfl, HB.out⟩
      · have hq : quoS s.data.toList = none := by
          rcases HOk.out with ⟨h, _⟩ | ⟨_, _, _, h, _⟩
          · exact h
          · exact absurd h hk
        obtain rfl : T = none := hT.out.symm.trans hq
        have t1 : (k0 != 2) = true := by rw [bne_iff_ne]; exact hk
        clear hS hX hcc hq hx4 g0 g3 hn0 hk
        go_wp2_with (fail)
        go_ret2
        exact ⟨rfl, HB.out⟩
    · obtain rfl : T = none := hT.out.symm.trans (quoS_not HC.out (by rw [size_toList]; exact HD.out) (fun h => hd34 h.2))
      have tc : ((c.toNat : Int) != 34) = false := by rw [hc34]; rfl
      have td0 : ((d.toNat : Int) == 34) = false := bne8 d 34 hd34 (by decide)
      have td : ((d.toNat : Int) != 34) = true := by rw [bne, td0]; rfl
      clear hc34 hd34
      go_enter Tryz.func32, Tryz.ntmps32
      go_wp2_with (fail)
      go_ret2
      exact ⟨rfl, Below.refl _ _⟩
  · obtain rfl : T = none := hT.out.symm.trans (quoS_not HC.out (by rw [size_toList]; exact HD.out) (fun h => hc34 h.1))
    have tc0 : ((c.toNat : Int) == 34) = false := bne8 c 34 hc34 (by decide)
    have tc : ((c.toNat : Int) != 34) = true := by rw [bne, tc0]; rfl
    clear hc34
    go_enter Tryz.func32, Tryz.ntmps32
    go_wp2_with (fail)
    go_ret2
    exact ⟨rfl, Below.refl _ _⟩

end Go.Proofs.YtnmpckdggddpoaaGreatDoor
