/- awake: what the document fixes of package script. -/
import Derived.Test.YtnmpckdggddpoaaGreatDoorTe
import Derived.Test.YtnmpckdggddpoaaGreatDoorTf
namespace Go.Proofs.YtnmpckdggddpoaaGreatDoor
set_option linter.unusedSimpArgs false
set_option linter.unusedVariables false
open Go.RowKit Go.Shelf Go.Lib

def ofAc (a : Ac) : AcI := ⟨a.kind, a.n, bs a.s⟩
theorem acts_of (l : List Ac) : actsI (l.map ofAc) = acts l := by
  induction l with
  | nil => rfl
  | cons a l ih => simp only [List.map_cons, actsI, List.flatMap_cons, acts] at *; rw [ih]; rfl
theorem inCells_sl {w : World} {ad : Option Addr} {cap : Nat} {l : List Ac} (h : Sl w (.slice ad l.length cap) 55 3 l.length (acts l)) : InCells w ad (l.map ofAc) := by
  rcases h.2 with ⟨hs, hn⟩ | ⟨g, off, cap, cur, hs, hg, h1, h2, h3, h4⟩
  · simp only [Value.slice.injEq] at hs
    exact .inl ⟨hs.1, by rw [List.eq_nil_of_length_eq_zero hn]; rfl⟩
  · simp only [Value.slice.injEq] at hs
    obtain ⟨rfl, _, rfl⟩ := hs
    refine .inr ⟨g, off, rfl, fun j u hu => ?_⟩
    rw [acts_of] at hu
    obtain ⟨a, c, hf, _, _, _, hc⟩ := h.form
    cases hf
    have := (hc _ rfl).2 j u hu
    rwa [add_at] at this

def c1 : ByteArray := ⟨#[99, 101, 108, 108, 115, 32, 49, 48, 48, 10, 108, 105, 110, 101, 32, 34, 97, 92, 110, 34, 10, 114, 117, 110, 32, 53, 10, 99, 111, 108, 108, 101, 99, 116]⟩
def c2 : ByteArray := ⟨#[114, 117, 110, 32, 53, 10, 99, 101, 108, 108, 115, 32, 57]⟩
def cL : List Ac := [⟨1, 0, [97, 10]⟩, ⟨2, 5, []⟩, ⟨3, 0, []⟩]
def cT : List UInt8 := [99, 101, 108, 108, 115, 32, 49, 48, 48, 10, 115, 116, 97, 99, 107, 32, 56, 49, 57, 50, 10, 108, 105, 110, 101, 32, 34, 97, 92, 110, 34, 10, 114, 117, 110, 32, 53, 10, 99, 111, 108, 108, 101, 99, 116, 10]
theorem c1_parse : parseS c1.data.toList = .inr ⟨100, 8192, cL, true, false⟩ := by kernel_rfl
theorem c2_parse : parseS c2.data.toList = .inl (5, 2) := by kernel_rfl
theorem itoa100 : Lib.itoa 100 = [49, 48, 48] := by simp [Lib.itoa, Lib.decDigits]
theorem itoa8192 : Lib.itoa 8192 = [56, 49, 57, 50] := by simp [Lib.itoa, Lib.decDigits]
theorem itoa5 : Lib.itoa 5 = [53] := by simp [Lib.itoa, Lib.decDigits]
theorem goP_step {out x : List UInt8} {a : AcI} {r : List AcI} (h : encA a = some x) (hl : ¬ 65536 < (out ++ x).length) : goP out (a :: r) = goP (out ++ x) r := by
  show (match encA a with | none => none | some x => if 65536 < (out ++ x).length then none else goP (out ++ x) r) = _
  rw [h]
  exact if_neg hl
theorem c_print : printS 100 8192 (cL.map ofAc) = some cT := by
  have h1 : encA (ofAc ⟨1, 0, [97, 10]⟩) = some (wLineS ++ quotL [97, 10] ++ [10]) := by
    unfold encA; rw [if_pos ⟨rfl, rfl, by decide⟩]; rfl
  have h2 : encA (ofAc ⟨2, 5, []⟩) = some (wRunS ++ [53] ++ [10]) := by
    unfold encA; rw [if_neg (by rintro ⟨h, _⟩; cases h), if_pos ⟨rfl, rfl⟩]
    show some (wRunS ++ Lib.itoa 5 ++ [10]) = _
    rw [itoa5]
  have h3 : encA (ofAc ⟨3, 0, []⟩) = some wCollN := by
    unfold encA; rw [if_neg (by rintro ⟨h, _⟩; cases h), if_neg (by rintro ⟨h, _⟩; cases h), if_pos ⟨rfl, rfl, rfl⟩]
  have hh : headP 100 8192 = [99, 101, 108, 108, 115, 32, 49, 48, 48, 10, 115, 116, 97, 99, 107, 32, 56, 49, 57, 50, 10] := by
    unfold headP; rw [itoa100, itoa8192]; rfl
  have hg : goP (headP 100 8192) (cL.map ofAc) = some cT := by
    rw [hh]
    show goP _ [ofAc ⟨1, 0, [97, 10]⟩, ofAc ⟨2, 5, []⟩, ofAc ⟨3, 0, []⟩] = _
    rw [goP_step h1 (by decide), goP_step h2 (by decide), goP_step h3 (by decide)]
    rfl
  have hp : parseS cT = .inr ⟨100, 8192, cL, true, true⟩ := by kernel_rfl
  unfold printS
  rw [if_neg (by decide), hg]
  show (match parseS cT with | .inl _ => none | .inr _ => some cT) = _
  rw [hp]

set_option maxRecDepth 100000 in
set_option maxHeartbeats 8000000 in
theorem law_awake (B : Nat) (w : World) (hE : Env B w) : Calls Tryz.prog 8 #[] w fun e w' => e = .returned (.bool true) ∧ Below w.heap.size w w' := by
  have HEn : Hid (∀ w', Below w.heap.size w w' → Env B w') := Lib.hid (fun w' h => hE.on (h.mono hE.le))
  have hp1 := sc_Parse c1 B w hE (by decide)
  rw [c1_parse] at hp1
  have HP2 : Hid (∀ w', Env B w' → Calls Tryz.prog 9 #[.string c2] w' (ParR w' (.inl (5, 2)))) := Lib.hid (fun w' h => by
    have := sc_Parse c2 B w' h (by decide)
    rw [c2_parse] at this
    exact this)
  clear hE
  go_enter Tryz.func8, Tryz.ntmps8
  go_wp2_with (fail)
  refine hp1.mono ?_
  rintro e w1 ⟨⟨v, rfl, hSl, hnw⟩, hB1⟩
  replace hSl : Sl w1 v 55 3 3 (acts cL) := hSl
  obtain ⟨g, off, cap, rfl⟩ : ∃ g off cap, v = .slice (some ⟨g, off, none⟩) 3 cap := by
    rcases hSl.2 with ⟨_, h⟩ | ⟨g, off, cap, cur, h, _⟩
    · cases h
    · exact ⟨g, off, cap, h⟩
  have hb1 : Blk (w1.alloc (.cells #[.int .i64 100, .int .i64 8192, .slice (some ⟨g, off, none⟩) 3 cap] 25)) w1.heap.size [.int .i64 100, .int .i64 8192, .slice (some ⟨g, off, none⟩) 3 cap] 25 := Blk.new' (c := [_, _, _]) rfl
  have HBe1 := Lib.hid (hB1.alloc hB1.size (.cells #[.int .i64 100, .int .i64 8192, .slice (some ⟨g, off, none⟩) 3 cap] 25))
  have HS1 := Lib.hid (sl_fr hSl (F := []) (fr_of_below ((Below.refl _ w1).alloc (Nat.le_refl _) (.cells #[.int .i64 100, .int .i64 8192, .slice (some ⟨g, off, none⟩) 3 cap] 25))) (by simp))
  have HB1 := Lib.hid hb1
  clear hp1 hSl hnw hB1 hb1
  go_wp2_with (fail)
  refine (HP2.out _ (HEn.out _ HBe1.out)).mono ?_
  rintro e w2 ⟨he, hB2⟩
  have he2 : e = .returned (.tuple #[.agg #[.int .i64 0, .int .i64 0, .slice none 0 0], .int .i64 5, .int .i64 2]) := he
  subst he2
  have o2 : Fr [] (w1.alloc (.cells #[.int .i64 100, .int .i64 8192, .slice (some ⟨g, off, none⟩) 3 cap] 25)) (w2.alloc (.cells #[.int .i64 0, .int .i64 0, .slice none 0 0] 25)) := (fr_of_below hB2).then (fr_of_below ((Below.refl _ _).alloc (Nat.le_refl _) _))
  have hb2 := o2.keep HB1.out (by simp)
  have HS2 := Lib.hid (sl_fr HS1.out o2 (by simp))
  have HBe2 := Lib.hid (HBe1.out.trans (o2.below HBe1.out.size (by simp)))
  have cb2 := hb2.cell
  have HB2 := Lib.hid hb2
  have HPr : Hid (Calls Tryz.prog 13 #[.agg #[.int .i64 100, .int .i64 8192, .slice (some ⟨g, off, none⟩) 3 cap]] (w2.alloc (.cells #[.int .i64 0, .int .i64 0, .slice none 0 0] 25)) fun e w' =>
      e = .returned (.tuple #[.string (bs cT), .int .i64 0]) ∧ Below (w2.alloc (.cells #[.int .i64 0, .int .i64 0, .slice none 0 0] 25)).heap.size (w2.alloc (.cells #[.int .i64 0, .int .i64 0, .slice none 0 0] 25)) w') := Lib.hid (by
    have h := sc_Print 100 8192 (some ⟨g, off, none⟩) cap (cL.map ofAc) B _ (HEn.out _ HBe2.out) (by decide) (by decide) (by
      intro a ha
      simp only [cL, List.map_cons, List.map_nil, List.mem_cons, List.not_mem_nil, or_false] at ha
      rcases ha with rfl | rfl | rfl <;> decide) (inCells_sl (l := cL) HS2.out)
    rw [c_print] at h
    exact h)
  clear he hB2 o2 hb2 HP2
  go_wp2_with (fail)
  refine HPr.out.mono ?_
  rintro e w3 ⟨rfl, hB3⟩
  have hb3 := blk_below HB2.out hB3
  have HS3 := Lib.hid (sl_fr HS2.out (F := []) (fr_of_below hB3) (by simp))
  have HBe3 := Lib.hid (HBe2.out.trans (hB3.mono HBe2.out.size))
  have cb3 := hb3.cell
  have HB3 := Lib.hid hb3
  have HPl := Lib.hid (w_Play 100 (by omega) (by omega) 8192 (.slice (some ⟨g, off, none⟩) 3 cap) w3)
  clear HPr hB3 hb3 cb2
  go_wp2_with (fail)
  refine HPl.out.mono ?_
  rintro e w4 ⟨rfl, hB4⟩
  have o4 : Fr [] w3 (w4.alloc (.cells #[.int .i64 0, .int .i64 0, .string ⟨#[]⟩, .string ⟨#[]⟩, .int .i64 0] 49)) := (fr_of_below hB4).then (fr_of_below ((Below.refl _ _).alloc (Nat.le_refl _) _))
  have hb4 := o4.keep HB3.out (by simp)
  have hs4 := sl_fr HS3.out o4 (by simp)
  have HBe4 := Lib.hid (HBe3.out.trans (o4.below HBe3.out.size (by simp)))
  have cb4 := hb4.cell
  obtain ⟨_, _, hf, _, _, _, hc4⟩ := hs4.form
  simp only [Value.slice.injEq] at hf
  have d4 := (hc4 _ hf.1.symm).2 2 (.string (bs [97, 10])) rfl
  rw [add_at] at d4
  have q1 : ((bs [97, 10]).toList == [97, 10]) = true := by rw [cmp_bs]; exact decide_eq_true rfl
  have q2 : ((bs cT).toList == [99, 101, 108, 108, 115, 32, 49, 48, 48, 10, 115, 116, 97, 99, 107, 32, 56, 49, 57, 50, 10, 108, 105, 110, 101, 32, 34, 97, 92, 110, 34, 10, 114, 117, 110, 32, 53, 10, 99, 111, 108, 108, 101, 99, 116, 10]) = true := by rw [cmp_bs]; exact decide_eq_true rfl
  clear HPl hB4 o4 hb4 hs4 cb3 hc4 hf
  go_wp2_with (fail)
  go_ret
  exact ⟨rfl, HBe4.out⟩

end Go.Proofs.YtnmpckdggddpoaaGreatDoor
