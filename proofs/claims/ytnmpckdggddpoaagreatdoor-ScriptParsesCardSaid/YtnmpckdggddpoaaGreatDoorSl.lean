/- script.lines: the iterator's contract. -/
import Derived.Test.YtnmpckdggddpoaaGreatDoorSg
import Derived.Test.YtnmpckdggddpoaaGreatDoorSb
import Derived.Test.YtnmpckdggddpoaaGreatDoorRf
import Derived.Shelf.Abstract
import Derived.WalkKit
import Derived.OwnWalkIn
import Derived.TacticsInMore
import Derived.LoopNIn
import Derived.LoopIn
namespace Go.Proofs.YtnmpckdggddpoaaGreatDoor
set_option linter.unusedSimpArgs false
set_option linter.unusedVariables false
open Go.RowKit Go.Shelf
attribute [local go_sem] Oper.semAt_some

def numL (k : Nat) : List (List UInt8) → List (Nat × List UInt8)
  | [] => []
  | x :: r => (k, x) :: numL (k + 1) r
abbrev encL (p : Nat × List UInt8) : Array Value := #[.int .i64 p.1, .string ⟨p.2.toArray⟩]
/-- How much is left. -/
def leftS (W : World) (b : Nat) : Nat := match W.cell? ⟨b, 0, none⟩ with | some (.string s) => s.size | _ => 0
theorem leftS_eq {W : World} {b : Nat} {s : ByteArray} {t : TypeId} (h : Blk W b [.string s] t) : leftS W b = s.size := by
  unfold leftS; rw [h.cell 0]; rfl
theorem numL_len (l : List (List UInt8)) : ∀ k, (numL k l).length = l.length := by induction l with
  | nil => intro k; rfl
  | cons x r ih => intro k; simp [numL, ih]

theorem gcut1 (n : Nat) (s : ByteArray) (c : UInt8) (w : World) (hs : s.size ≤ 9223372036854775806) :
    CallsIn Fence.wide n Tryz.prog 26 #[.string s, .string ⟨#[c]⟩] w fun e w' =>
      e = .returned (.tuple #[.string ⟨(cutS c s.data.toList).1.toArray⟩, .string ⟨(cutS c s.data.toList).2.1.toArray⟩, .bool (cutS c s.data.toList).2.2]) ∧ ∃ n, w' = w.drewN n := callsIn_wide.2 (lib_Cut1 s c w hs)

theorem linesG_le (l : List UInt8) : (linesG [] l).length ≤ l.length := by
  rw [linesG_len]
  have h1 := List.count_le_length (a := (10 : UInt8)) (l := l)
  split
  · omega
  · rename_i h
    have hne : l ≠ [] := fun e => h (.inl (by simp [e]))
    by_cases he : l.count 10 = l.length
    · exfalso
      apply h
      right
      rw [List.getLast?_eq_some_getLast hne]
      have := List.count_eq_length.1 he _ (List.getLast_mem hne)
      rw [← this]
    · omega

set_option maxHeartbeats 2000000 in
theorem sc_lines1 (n bt : Nat) (hn : 1 ≤ n) (t : ByteArray) (hl : t.size ≤ 70000) (W0 : World) (hb0 : Blk W0 bt [.string t] 9) :
    SeqSt Fence.wide n Tryz.prog 51 #[.pointer (some ⟨bt, 0, none⟩)] encL bt (numL 1 (linesG [] t.data.toList)) W0 := by
  intro lp J Jx W hW hst hY h0
  have hbW : Blk W bt [.string t] 9 := hb0.go hW
  refine callsIn_of_wp Tryz.func51 rfl trivial ?_ rfl
  simp only [Tryz.ntmps51, List.size_toArray, List.length_cons, List.length_nil, Nat.reduceAdd, Nat.reduceSub, Array.replicate_succ, Array.replicate_zero, List.push_toArray, List.append_toArray, List.nil_append, List.cons_append]
  gi_wp2
  gi_loopw [3] (fun p wr => ∃ (k : Nat) (pre : List (Nat × List UInt8)) (s : ByteArray), p = .int .i64 k ∧ k + (linesG [] s.data.toList).length ≤ 70002 ∧ s.size ≤ 70000 ∧ numL 1 (linesG [] t.data.toList) = pre ++ numL k (linesG [] s.data.toList) ∧ Blk wr bt [.string s] 9 ∧ J pre wr)
    (fun _ wr => leftS wr bt)
  case atStart =>
    refine ⟨1, [], t, rfl, ?_, hl, rfl, hbW, h0⟩
    have := linesG_le t.data.toList
    have h2 : t.data.toList.length = t.size := Array.length_toList
    omega
  case round =>
    obtain ⟨k, pre, s, rfl, hk, hrl, hx, hb, hJ⟩ := hrel
    have cb := hb.cell
    have fb := hb.free
    by_cases hr : s.data.toList = []
    · have he : s.toList.isEmpty = true := is_empty hr
      gi_wp2
      go_end0
      refine ⟨⟨_, rfl⟩, .inl ?_⟩
      rw [hx, hr]
      simpa [linesG, numL] using hJ
    · have he : s.toList.isEmpty = false := ne_empty hr
      have hcut := linesG_cut s.data.toList [] (.inr hr)
      rw [List.nil_append] at hcut
      rw [hcut] at hx hk
      have hlen := cutS_len 10 s.data.toList hr
      obtain ⟨r, hr2⟩ : ∃ r, Hid (cutS 10 s.data.toList = r) := ⟨_, rfl⟩
      have hC := Lib.hid (fun n w => gcut1 n s 10 w (by omega))
      rw [hr2.out] at hC hx hk hlen
      have h2 : s.data.toList.length = s.size := Array.length_toList
      have HB := Lib.hid hb
      have HM := Lib.hid (leftS_eq hb)
      have e1 : IntKind.i64.wrap ((k : Int) + 1) = (k : Int) + 1 := IntWalk.i64_in _ (by omega)
      clear hb hcut hr hr2
      gi_wp2_with (refine ⟨trivial, ?_⟩; gi_at_call 26; refine (hC.out _ _).mono ?_; rintro e w' ⟨rfl, q, rfl⟩)
      obtain ⟨f1, t1, a1, b1, hy, hR⟩ := hY pre (k, r.1) (numL (k + 1) (linesG [] r.2.1)) _ hx (hst.set _ _ (.string ⟨r.2.1.toArray⟩) (hst.drew _ _ q hJ))
      have hbn : Blk ((wr.drewN q).setCell ⟨bt, 0, none⟩ (.string ⟨r.2.1.toArray⟩)) bt [.string ⟨r.2.1.toArray⟩] 9 := (HB.out.drewN q).set 0 _
      have HN := Lib.hid hbn
      clear hbn
      dsimp only [encL] at hy
      rw [hy]
      gi_wp2
      refine hR.mono ?_
      rintro e W3 (⟨rfl, hJ3, hk3⟩ | ⟨rfl, hx3⟩)
      · have HN3 := Lib.hid (HN.out.go hk3)
        gi_wp2
        go_roundw
        case rel =>
          refine ⟨k + 1, pre ++ [(k, r.1)], ⟨r.2.1.toArray⟩, by go_num, ?_, ?_, ?_, HN3.out, hJ3⟩
          · simp only [List.length_cons] at hk
            show k + 1 + (linesG [] r.2.1).length ≤ 70002
            omega
          · show r.2.1.length ≤ 70000; omega
          · rw [hx]; simp [numL]
        case measure =>
          rw [leftS_eq HN3.out, HM.out]
          show r.2.1.length < s.size
          omega
      · gi_wp2
        refine bodyPost_ret (results_none rfl _ _ _) rfl ?_
        refine ⟨⟨_, rfl⟩, .inr ⟨_, ?_, hx3⟩⟩
        exact ⟨numL (k + 1) (linesG [] r.2.1), by rw [hx]; simp [numL]⟩

end Go.Proofs.YtnmpckdggddpoaaGreatDoor
