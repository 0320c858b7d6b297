/- The law ScriptCuts. -/
import Derived.Test.YtnmpckdggddpoaaGreatDoorTg
import Derived.Test.YtnmpckdggddpoaaGreatDoorSd
import Derived.BigQuiet
import Derived.Deep.CutBlock
import Derived.Deep.DeepCutAuto
import Derived.Says
namespace Go.Proofs.YtnmpckdggddpoaaGreatDoor
set_option linter.unusedSimpArgs false
set_option linter.unusedVariables false
open Go.RowKit Go.Shelf Go.Lib

abbrev CutAt (t : List UInt8) (k : Nat) : Prop := k = 0 ∨ t.length ≤ k ∨ t[k - 1]? = some 10
theorem ext_take (s : ByteArray) (k : Nat) : (s.extract 0 k).data.toList = s.data.toList.take k := by simp
theorem acts_get : ∀ (l : List Ac) (k : Nat) (a : Ac), l[k]? = some a → (acts l)[k * 3]? = some (.int .i64 (a.kind : Nat)) ∧ (acts l)[k * 3 + 1]? = some (.int .i64 (a.n : Nat)) ∧ (acts l)[k * 3 + 2]? = some (.string (bs a.s)) := by
  intro l k a h
  have := actsI_get (l.map ofAc) k (ofAc a) (by simp [h])
  rw [acts_of] at this
  exact this

set_option maxRecDepth 100000 in
set_option maxHeartbeats 8000000 in
theorem law_cuts (s : ByteArray) (m : Nat) (hm : m < 65536) (B : Nat) (w : World) (hE : Env B w) (hs : s.size ≤ 9223372036854775807) :
    Calls Tryz.prog 7 #[.string s, .int .u16 m] w fun e w' => e = .returned (.bool true) ∧ Below w.heap.size w w' := by
  have HEn : Hid (∀ w', Below w.heap.size w w' → Env B w') := Lib.hid (fun w' h => hE.on (h.mono hE.le))
  have HAw := Lib.hid (law_awake B w hE)
  clear hE
  by_cases hbig : 15000 < s.size
  · have hgt : (15000 : Int) < (s.size : Int) := by omega
    go_enter Tryz.func7, Tryz.ntmps7
    go_wp2_with (fail)
    refine HAw.out.mono ?_
    rintro e w1 ⟨rfl, hB⟩
    go_wp2_with (fail)
    go_ret
    exact ⟨rfl, hB⟩
  have hgt : ¬ (15000 : Int) < (s.size : Int) := by omega
  have HPa : Hid (∀ w', Env B w' → Calls Tryz.prog 9 #[.string s] w' (ParR w' (parseS s.data.toList))) := Lib.hid (fun w' h => sc_Parse s B w' h hs)
  go_enter Tryz.func7, Tryz.ntmps7
  go_wp2_with (fail)
  refine HAw.out.mono ?_
  rintro e w1 ⟨rfl, hB⟩
  have HB1 := Lib.hid hB
  clear hB
  go_wp2_with (fail)
  refine (HPa.out _ (HEn.out _ HB1.out)).mono ?_
  rintro e w2 ⟨hres, hB⟩
  have HB2 := Lib.hid (HB1.out.trans (hB.mono HB1.out.size))
  clear hB HPa HAw
  cases hps : parseS s.data.toList with
  | inl q =>
    obtain ⟨er, k⟩ := q
    rw [hps] at hres
    have he2 : e = .returned (.tuple #[.agg #[.int .i64 0, .int .i64 0, .slice none 0 0], .int .i64 (er : Nat), .int .i64 (k : Nat)]) := hres
    subst he2
    have hne : ((er : Int) != 0) = true := by have := parse_er hps; rw [bne_iff_ne]; omega
    clear hres hps
    go_wp2_with (fail)
    go_ret
    exact ⟨rfl, HB2.out.alloc HB2.out.size _⟩
  | inr p =>
    rw [hps] at hres
    obtain ⟨v, rfl, hSl, hnw⟩ := hres
    obtain ⟨ad, cap, hvf, _⟩ := hSl.form
    subst hvf
    have hb3 : Blk (w2.alloc (.cells #[.int .i64 (p.cells : Nat), .int .i64 (p.stack : Nat), .slice ad p.l.length cap] 25)) w2.heap.size [.int .i64 (p.cells : Nat), .int .i64 (p.stack : Nat), .slice ad p.l.length cap] 25 := Blk.new' (c := [_, _, _]) rfl
    have f3 := fr_of_below (F := []) ((Below.refl _ w2).alloc (Nat.le_refl _) (.cells #[.int .i64 (p.cells : Nat), .int .i64 (p.stack : Nat), .slice ad p.l.length cap] 25))
    have HS3 := Lib.hid (sl_fr hSl f3 (by simp))
    have HB3 := Lib.hid (HB2.out.trans (f3.below HB2.out.size (by simp)))
    have HK3 := Lib.hid hb3
    have HPS := Lib.hid hps
    clear hSl hnw hb3 f3 hps
    obtain ⟨w3, hw3⟩ : ∃ w3, w3 = w2.alloc (.cells #[.int .i64 (p.cells : Nat), .int .i64 (p.stack : Nat), .slice ad p.l.length cap] 25) := ⟨_, rfl⟩
    rw [← hw3] at HS3 HB3 HK3
    have HW3 := Lib.hid hw3
    clear hw3
    go_upto_block 0 with fail
    rw [← HW3.out]
    go_cut [8, 9] (fun av nv wx => ∃ a : Nat, av = .int .i64 a ∧ a ≤ s.size + 1 ∧ Hid (CutAt s.data.toList a) ∧ wx = w3)
    case first =>
      go_wp2_with (fail)
      go_loopw [8, 9] (fun av nv wr => ∃ a n : Nat, av = .int .i64 a ∧ nv = .int .i64 n ∧ n ≤ 1000 ∧ a ≤ s.size + 1 ∧ Hid (CutAt s.data.toList a) ∧ wr = w3) (fun _ nv _ => 1000 - (RowKit.intOf nv).toNat)
      case atStart => exact ⟨0, 0, rfl, rfl, by omega, by omega, .inl rfl, rfl⟩
      case round =>
        obtain ⟨a, n, rfl, rfl, hn, ha, HC, rfl⟩ := hrel
        have e0 : IntKind.i64.wrap ((n : Int) + 1) = (n : Int) + 1 := IntWalk.i64_in _ (by omega)
        by_cases g1 : (n : Int) < (m : Int) % 1000
        · by_cases g2 : a < s.size
          · have g2' : (a : Int) < (s.size : Int) := by omega
            have hn2 : n + 1 ≤ 1000 := by omega
            go_upto_block 2 with fail
            go_cut [8] (fun av wx => ∃ a2 : Nat, av = .int .i64 a2 ∧ a2 ≤ s.size ∧ Hid (a2 = s.size ∨ s.data.toList[a2]? = some 10) ∧ wx = wr)
            case first =>
              go_wp2_with (fail)
              go_loopw [8] (fun av wx => ∃ a2 : Nat, av = .int .i64 a2 ∧ a2 ≤ s.size ∧ wx = wr) (fun av _ => s.size - (RowKit.intOf av).toNat)
              case atStart => exact ⟨a, rfl, by omega, rfl⟩
              case round =>
                obtain ⟨a2, rfl, ha2, rfl⟩ := hrel
                have e2 : IntKind.i64.wrap ((a2 : Int) + 1) = (a2 : Int) + 1 := IntWalk.i64_in _ (by omega)
                by_cases g3 : a2 < s.size
                · have g3' : (a2 : Int) < (s.size : Int) := by omega
                  have g0 : (0 : Int) ≤ (a2 : Int) := by omega
                  obtain ⟨c, hc⟩ : ∃ c, s.data.toList[a2]? = some c := ⟨_, List.getElem?_eq_getElem (by rw [size_toList]; exact g3)⟩
                  have hb := byte_at hc
                  by_cases hc10 : c = 10
                  · subst hc10
                    have HE : Hid (a2 = s.size ∨ s.data.toList[a2]? = some 10) := Lib.hid (.inr hc)
                    clear hc
                    go_wp2_with (fail)
                    go_meet
                    exact ⟨a2, rfl, ha2, HE, rfl⟩
                  · have t1 : ((c.toNat : Int) == 10) = false := bne8 c 10 hc10 (by decide)
                    have t2 : ((c.toNat : Int) != 10) = true := by rw [bne, t1]; rfl
                    clear hc hc10
                    go_wp2_with (fail)
                    go_roundw
                    case rel => exact ⟨a2 + 1, by go_num, by omega, by first | rfl | trivial⟩
                    case measure => simp [RowKit.intOf, e2]; omega
                · have g3' : ¬ (a2 : Int) < (s.size : Int) := by omega
                  have HE : Hid (a2 = s.size ∨ s.data.toList[a2]? = some 10) := Lib.hid (.inl (by omega))
                  clear g3
                  go_wp2_with (fail)
                  go_meet
                  exact ⟨a2, rfl, ha2, HE, rfl⟩
            case rest =>
              obtain ⟨a2, rfl, ha2, HE, rfl⟩ := hcut
              have e2 : IntKind.i64.wrap ((a2 : Int) + 1) = (a2 : Int) + 1 := IntWalk.i64_in _ (by omega)
              have HC2 : Hid (CutAt s.data.toList (a2 + 1)) := Lib.hid (by
                rcases HE.out with h | h
                · exact .inr (.inl (by rw [size_toList]; omega))
                · exact .inr (.inr (by rw [Nat.add_sub_cancel]; exact h)))
              clear g1 g2 g2'
              go_wp2_with (fail)
              go_roundw
              case rel => exact ⟨a2 + 1, n + 1, by go_num, by go_num, by omega, by omega, HC2, by first | rfl | trivial⟩
              case measure => simp [RowKit.intOf, e0]; omega
          · have g2' : ¬ (a : Int) < (s.size : Int) := by omega
            clear g2
            go_wp2_with (fail)
            go_meet
            exact ⟨a, rfl, ha, HC, rfl⟩
        · go_wp2_with (fail)
          go_meet
          exact ⟨a, rfl, ha, HC, rfl⟩
    case rest =>
      obtain ⟨a, rfl, ha, HC, rfl⟩ := hcut
      by_cases hak : a ≤ s.size
      · have hak' : ¬ (s.size : Int) < (a : Int) := by omega
        obtain ⟨x, hx⟩ : ∃ x, s.extract 0 a = x := ⟨_, rfl⟩
        have hxl : x.data.toList = s.data.toList.take a := by rw [← hx]; exact ext_take s _
        have hxz : x.size ≤ 15000 := by
          have h1 := congrArg List.length hxl
          rw [size_toList, List.length_take, size_toList] at h1
          omega
        obtain ⟨⟨rc, rst, rl, rb1, rb2⟩, hr, hrp, hrc⟩ := parse_cut (q := x.data.toList) (by rw [hxl]; exact lines_cut _ _ HC.out) (by rw [hxl, List.length_take]; exact Nat.min_le_right _ _) HPS.out
        replace hrp : rl <+: p.l := hrp
        replace hrc : rl ≠ [] → rc = p.cells ∧ rst = p.stack := hrc
        have HP4 : Hid (∀ w', Env B w' → Calls Tryz.prog 9 #[.string x] w' fun e w'' => (∃ v, e = .returned (.tuple #[.agg #[.int .i64 (rc : Nat), .int .i64 (rst : Nat), v], .int .i64 0, .int .i64 0]) ∧ Sl w'' v 55 3 rl.length (acts rl) ∧ ∀ k ∈ own v, w'.heap.size ≤ k) ∧ Below w'.heap.size w' w'') := Lib.hid (fun w' h => by
          have h4 := sc_Parse x B w' h (by omega)
          rw [hr] at h4
          exact h4)
        have k0 : (0 : Int) ≤ ((a : Nat) : Int) := by omega
        have k1 : ((a : Nat) : Int) ≤ (s.size : Int) := by have h1 : a ≤ s.size := hak; omega
        have HRP := Lib.hid hrp
        have hle : rl.length ≤ p.l.length := hrp.length_le
        have hle' : ¬ (p.l.length : Int) < (rl.length : Int) := by omega
        clear hr hrp hxl
        by_cases hr0 : rl = []
        · have hr3 : rl.length = 0 := by rw [hr0]; rfl
          have hr1 : ¬ (0 : Int) < (rl.length : Int) := by omega
          have hr2 : ¬ 0 < rl.length := by omega
          clear hr0 hrc
          go_wp2_with (fail)
          refine (HP4.out _ (HEn.out _ HB3.out)).mono ?_
          rintro e w4 ⟨⟨v4, rfl, hS4, hnw⟩, hB4⟩
          obtain ⟨ad4, cap4, hvf, _⟩ := hS4.form
          subst hvf
          have f5 : Fr [] wc (w4.alloc (.cells #[.int .i64 (rc : Nat), .int .i64 (rst : Nat), .slice ad4 rl.length cap4] 25)) := (fr_of_below hB4).then (fr_of_below ((Below.refl _ _).alloc (Nat.le_refl _) _))
          have hk5 := f5.keep HK3.out (by simp)
          have HB5 := Lib.hid (HB3.out.trans (f5.below HB3.out.size (by simp)))
          have hb5 : Blk (w4.alloc (.cells #[.int .i64 (rc : Nat), .int .i64 (rst : Nat), .slice ad4 rl.length cap4] 25)) w4.heap.size [.int .i64 (rc : Nat), .int .i64 (rst : Nat), .slice ad4 rl.length cap4] 25 := Blk.new' (c := [_, _, _]) rfl
          have cs := hk5.cell
          have cr := hb5.cell
          obtain ⟨w5, hw5⟩ : ∃ w5, w5 = w4.alloc (.cells #[.int .i64 (rc : Nat), .int .i64 (rst : Nat), .slice ad4 rl.length cap4] 25) := ⟨_, rfl⟩
          have HCS := Lib.hid cs
          have HCR := Lib.hid cr
          clear hS4 hnw hB4 f5 hk5 hb5 HP4 hx hr3
          go_wp2_with (fail)
          rw [← hw5] at HB5 ⊢
          clear cs cr HCS HCR hw5
          go_loopw [13, 102] (fun _ iv wr => iv = .int .i64 0 ∧ wr = w5) (fun _ _ _ => 0)
          case atStart => exact ⟨by first | rfl | trivial, by first | rfl | trivial⟩
          case round =>
            obtain ⟨rfl, rfl⟩ := hrel
            go_wp2_with (fail)
            go_ret
            exact ⟨rfl, HB5.out⟩
        · have hr2 : 0 < rl.length := List.length_pos_iff.2 hr0
          have hr1 : (0 : Int) < (rl.length : Int) := by omega
          obtain ⟨q1, q2⟩ := hrc hr0
          subst q1 q2
          clear hr0 hrc
          go_wp2_with (fail)
          refine (HP4.out _ (HEn.out _ HB3.out)).mono ?_
          rintro e w4 ⟨⟨v4, rfl, hS4, hnw⟩, hB4⟩
          obtain ⟨g4, off4, cap4, rfl⟩ : ∃ g off cap, v4 = .slice (some ⟨g, off, none⟩) rl.length cap := by
            rcases hS4.2 with ⟨_, h⟩ | ⟨g, off, cap, cur, h, _⟩
            · omega
            · exact ⟨g, off, cap, h⟩
          obtain ⟨g, off, had⟩ : ∃ g off, ad = some ⟨g, off, none⟩ := by
            rcases HS3.out.2 with ⟨_, h⟩ | ⟨g, off, cap, cur, h, _⟩
            · omega
            · simp only [Value.slice.injEq] at h; exact ⟨g, off, h.1⟩
          subst had
          have f5 : Fr [] wc (w4.alloc (.cells #[.int .i64 (p.cells : Nat), .int .i64 (p.stack : Nat), .slice (some ⟨g4, off4, none⟩) rl.length cap4] 25)) := (fr_of_below hB4).then (fr_of_below ((Below.refl _ _).alloc (Nat.le_refl _) _))
          have hk5 := f5.keep HK3.out (by simp)
          have hs5 := sl_fr HS3.out f5 (by simp)
          have hb5 : Blk (w4.alloc (.cells #[.int .i64 (p.cells : Nat), .int .i64 (p.stack : Nat), .slice (some ⟨g4, off4, none⟩) rl.length cap4] 25)) w4.heap.size [.int .i64 (p.cells : Nat), .int .i64 (p.stack : Nat), .slice (some ⟨g4, off4, none⟩) rl.length cap4] 25 := Blk.new' (c := [_, _, _]) rfl
          have ht5 := sl_fr hS4 (F := []) (fr_of_below ((Below.refl _ w4).alloc (Nat.le_refl _) (.cells #[.int .i64 (p.cells : Nat), .int .i64 (p.stack : Nat), .slice (some ⟨g4, off4, none⟩) rl.length cap4] 25))) (by simp)
          have HB5 := Lib.hid (HB3.out.trans (f5.below HB3.out.size (by simp)))
          have cs := hk5.cell
          have cr := hb5.cell
          obtain ⟨_, _, hf4, hm1, hm2, _, hc4⟩ := ht5.form
          have hmx : rl.length ≤ maxLen := Nat.le_trans hm1 hm2
          simp only [Value.slice.injEq] at hf4
          obtain ⟨_, _, hf, _, _, _, hc⟩ := hs5.form
          simp only [Value.slice.injEq] at hf
          have HC4 := Lib.hid (hc4 _ hf4.1.symm).2
          have HC := Lib.hid (hc _ hf.1.symm).2
          obtain ⟨w5, hw5⟩ : ∃ w5, w5 = w4.alloc (.cells #[.int .i64 (p.cells : Nat), .int .i64 (p.stack : Nat), .slice (some ⟨g4, off4, none⟩) rl.length cap4] 25) := ⟨_, rfl⟩
          rw [← hw5] at HC4 HC HB5
          have HCS := Lib.hid cs
          have HCR := Lib.hid cr
          rw [← hw5] at HCS HCR
          clear hS4 hnw hB4 f5 hk5 hb5 HP4 hx hc4 hc hf hf4 ht5 hs5
          go_wp2_with (fail)
          rw [← hw5]
          clear cs cr hw5
          go_loopw [13, 102] (fun _ iv wr => ∃ i n : Nat, iv = .int .i64 i ∧ i ≤ rl.length ∧ wr = w5.drewN n) (fun _ iv _ => rl.length - (RowKit.intOf iv).toNat)
          case atStart => exact ⟨0, 0, rfl, by omega, rfl⟩
          case round =>
            obtain ⟨i, n, rfl, hi, rfl⟩ := hrel
            have cs := HCS.out
            have cr := HCR.out
            have i0 : (0 : Int) ≤ (i : Int) := by omega
            rcases Nat.lt_or_ge i rl.length with hlt | hge
            · obtain ⟨y, hy⟩ : ∃ y, rl[i]? = some y := ⟨_, List.getElem?_eq_getElem hlt⟩
              have hy2 : p.l[i]? = some y := by
                obtain ⟨t, ht⟩ := HRP.out
                rw [← ht, List.getElem?_append_left hlt]; exact hy
              obtain ⟨a0, a1, a2⟩ := acts_get rl i y hy
              obtain ⟨b0, b1, b2⟩ := acts_get p.l i y hy2
              have d0 := HC4.out _ _ a0
              have d1 := HC4.out _ _ a1
              have d2 := HC4.out _ _ a2
              have d3 := HC.out _ _ b0
              have d4 := HC.out _ _ b1
              have d5 := HC.out _ _ b2
              rw [add_at] at d0 d1 d2 d3 d4 d5
              rw [← Nat.add_assoc] at d1 d2 d4 d5
              have e0 : IntKind.i64.wrap ((i : Int) + 1) = (i : Int) + 1 := IntWalk.i64_in _ (by unfold maxLen at hmx; omega)
              have hlt' : (i : Int) < (rl.length : Int) := by omega
              have hlt2 : (i : Int) < (p.l.length : Int) := by omega
              clear a0 a1 a2 b0 b1 b2 hy hy2
              go_wp2_with (fail)
              go_quiet (fail)
              go_wp2_with (fail)
              go_roundw
              case rel => exact ⟨i + 1, n + nq, by go_num, by omega, by first | rfl | trivial | exact World.drewN_drewN _ _ _⟩
              case measure => simp [RowKit.intOf, e0]; omega
            · have hge' : ¬ (i : Int) < (rl.length : Int) := by omega
              go_wp2_with (fail)
              go_ret
              exact ⟨rfl, below_drewN HB5.out n⟩
      · have hak' : (s.size : Int) < (a : Int) := by omega
        clear hak
        obtain ⟨x, hx⟩ : ∃ x, s.extract 0 s.size = x := ⟨_, rfl⟩
        have hxl : x.data.toList = s.data.toList.take s.size := by rw [← hx]; exact ext_take s _
        have hxz : x.size ≤ 15000 := by
          have h1 := congrArg List.length hxl
          rw [size_toList, List.length_take, size_toList] at h1
          omega
        obtain ⟨⟨rc, rst, rl, rb1, rb2⟩, hr, hrp, hrc⟩ := parse_cut (q := x.data.toList) (by rw [hxl]; exact lines_cut _ _ (.inr (.inl (by rw [size_toList]; exact Nat.le_refl _)))) (by rw [hxl, List.length_take]; exact Nat.min_le_right _ _) HPS.out
        replace hrp : rl <+: p.l := hrp
        replace hrc : rl ≠ [] → rc = p.cells ∧ rst = p.stack := hrc
        have HP4 : Hid (∀ w', Env B w' → Calls Tryz.prog 9 #[.string x] w' fun e w'' => (∃ v, e = .returned (.tuple #[.agg #[.int .i64 (rc : Nat), .int .i64 (rst : Nat), v], .int .i64 0, .int .i64 0]) ∧ Sl w'' v 55 3 rl.length (acts rl) ∧ ∀ k ∈ own v, w'.heap.size ≤ k) ∧ Below w'.heap.size w' w'') := Lib.hid (fun w' h => by
          have h4 := sc_Parse x B w' h (by omega)
          rw [hr] at h4
          exact h4)
        have k0 : (0 : Int) ≤ ((s.size : Nat) : Int) := by omega
        have k1 : ((s.size : Nat) : Int) ≤ (s.size : Int) := by have h1 : s.size ≤ s.size := (Nat.le_refl _); omega
        have HRP := Lib.hid hrp
        have hle : rl.length ≤ p.l.length := hrp.length_le
        have hle' : ¬ (p.l.length : Int) < (rl.length : Int) := by omega
        clear hr hrp hxl
        by_cases hr0 : rl = []
        · have hr3 : rl.length = 0 := by rw [hr0]; rfl
          have hr1 : ¬ (0 : Int) < (rl.length : Int) := by omega
          have hr2 : ¬ 0 < rl.length := by omega
          clear hr0 hrc
          go_wp2_with (fail)
          refine (HP4.out _ (HEn.out _ HB3.out)).mono ?_
          rintro e w4 ⟨⟨v4, rfl, hS4, hnw⟩, hB4⟩
          obtain ⟨ad4, cap4, hvf, _⟩ := hS4.form
          subst hvf
          have f5 : Fr [] wc (w4.alloc (.cells #[.int .i64 (rc : Nat), .int .i64 (rst : Nat), .slice ad4 rl.length cap4] 25)) := (fr_of_below hB4).then (fr_of_below ((Below.refl _ _).alloc (Nat.le_refl _) _))
          have hk5 := f5.keep HK3.out (by simp)
          have HB5 := Lib.hid (HB3.out.trans (f5.below HB3.out.size (by simp)))
          have hb5 : Blk (w4.alloc (.cells #[.int .i64 (rc : Nat), .int .i64 (rst : Nat), .slice ad4 rl.length cap4] 25)) w4.heap.size [.int .i64 (rc : Nat), .int .i64 (rst : Nat), .slice ad4 rl.length cap4] 25 := Blk.new' (c := [_, _, _]) rfl
          have cs := hk5.cell
          have cr := hb5.cell
          obtain ⟨w5, hw5⟩ : ∃ w5, w5 = w4.alloc (.cells #[.int .i64 (rc : Nat), .int .i64 (rst : Nat), .slice ad4 rl.length cap4] 25) := ⟨_, rfl⟩
          have HCS := Lib.hid cs
          have HCR := Lib.hid cr
          clear hS4 hnw hB4 f5 hk5 hb5 HP4 hx hr3
          go_wp2_with (fail)
          rw [← hw5] at HB5 ⊢
          clear cs cr HCS HCR hw5
          go_loopw [13, 102] (fun _ iv wr => iv = .int .i64 0 ∧ wr = w5) (fun _ _ _ => 0)
          case atStart => exact ⟨by first | rfl | trivial, by first | rfl | trivial⟩
          case round =>
            obtain ⟨rfl, rfl⟩ := hrel
            go_wp2_with (fail)
            go_ret
            exact ⟨rfl, HB5.out⟩
        · have hr2 : 0 < rl.length := List.length_pos_iff.2 hr0
          have hr1 : (0 : Int) < (rl.length : Int) := by omega
          obtain ⟨q1, q2⟩ := hrc hr0
          subst q1 q2
          clear hr0 hrc
          go_wp2_with (fail)
          refine (HP4.out _ (HEn.out _ HB3.out)).mono ?_
          rintro e w4 ⟨⟨v4, rfl, hS4, hnw⟩, hB4⟩
          obtain ⟨g4, off4, cap4, rfl⟩ : ∃ g off cap, v4 = .slice (some ⟨g, off, none⟩) rl.length cap := by
            rcases hS4.2 with ⟨_, h⟩ | ⟨g, off, cap, cur, h, _⟩
            · omega
            · exact ⟨g, off, cap, h⟩
          obtain ⟨g, off, had⟩ : ∃ g off, ad = some ⟨g, off, none⟩ := by
            rcases HS3.out.2 with ⟨_, h⟩ | ⟨g, off, cap, cur, h, _⟩
            · omega
            · simp only [Value.slice.injEq] at h; exact ⟨g, off, h.1⟩
          subst had
          have f5 : Fr [] wc (w4.alloc (.cells #[.int .i64 (p.cells : Nat), .int .i64 (p.stack : Nat), .slice (some ⟨g4, off4, none⟩) rl.length cap4] 25)) := (fr_of_below hB4).then (fr_of_below ((Below.refl _ _).alloc (Nat.le_refl _) _))
          have hk5 := f5.keep HK3.out (by simp)
          have hs5 := sl_fr HS3.out f5 (by simp)
          have hb5 : Blk (w4.alloc (.cells #[.int .i64 (p.cells : Nat), .int .i64 (p.stack : Nat), .slice (some ⟨g4, off4, none⟩) rl.length cap4] 25)) w4.heap.size [.int .i64 (p.cells : Nat), .int .i64 (p.stack : Nat), .slice (some ⟨g4, off4, none⟩) rl.length cap4] 25 := Blk.new' (c := [_, _, _]) rfl
          have ht5 := sl_fr hS4 (F := []) (fr_of_below ((Below.refl _ w4).alloc (Nat.le_refl _) (.cells #[.int .i64 (p.cells : Nat), .int .i64 (p.stack : Nat), .slice (some ⟨g4, off4, none⟩) rl.length cap4] 25))) (by simp)
          have HB5 := Lib.hid (HB3.out.trans (f5.below HB3.out.size (by simp)))
          have cs := hk5.cell
          have cr := hb5.cell
          obtain ⟨_, _, hf4, hm1, hm2, _, hc4⟩ := ht5.form
          have hmx : rl.length ≤ maxLen := Nat.le_trans hm1 hm2
          simp only [Value.slice.injEq] at hf4
          obtain ⟨_, _, hf, _, _, _, hc⟩ := hs5.form
          simp only [Value.slice.injEq] at hf
          have HC4 := Lib.hid (hc4 _ hf4.1.symm).2
          have HC := Lib.hid (hc _ hf.1.symm).2
          obtain ⟨w5, hw5⟩ : ∃ w5, w5 = w4.alloc (.cells #[.int .i64 (p.cells : Nat), .int .i64 (p.stack : Nat), .slice (some ⟨g4, off4, none⟩) rl.length cap4] 25) := ⟨_, rfl⟩
          rw [← hw5] at HC4 HC HB5
          have HCS := Lib.hid cs
          have HCR := Lib.hid cr
          rw [← hw5] at HCS HCR
          clear hS4 hnw hB4 f5 hk5 hb5 HP4 hx hc4 hc hf hf4 ht5 hs5
          go_wp2_with (fail)
          rw [← hw5]
          clear cs cr hw5
          go_loopw [13, 102] (fun _ iv wr => ∃ i n : Nat, iv = .int .i64 i ∧ i ≤ rl.length ∧ wr = w5.drewN n) (fun _ iv _ => rl.length - (RowKit.intOf iv).toNat)
          case atStart => exact ⟨0, 0, rfl, by omega, rfl⟩
          case round =>
            obtain ⟨i, n, rfl, hi, rfl⟩ := hrel
            have cs := HCS.out
            have cr := HCR.out
            have i0 : (0 : Int) ≤ (i : Int) := by omega
            rcases Nat.lt_or_ge i rl.length with hlt | hge
            · obtain ⟨y, hy⟩ : ∃ y, rl[i]? = some y := ⟨_, List.getElem?_eq_getElem hlt⟩
              have hy2 : p.l[i]? = some y := by
                obtain ⟨t, ht⟩ := HRP.out
                rw [← ht, List.getElem?_append_left hlt]; exact hy
              obtain ⟨a0, a1, a2⟩ := acts_get rl i y hy
              obtain ⟨b0, b1, b2⟩ := acts_get p.l i y hy2
              have d0 := HC4.out _ _ a0
              have d1 := HC4.out _ _ a1
              have d2 := HC4.out _ _ a2
              have d3 := HC.out _ _ b0
              have d4 := HC.out _ _ b1
              have d5 := HC.out _ _ b2
              rw [add_at] at d0 d1 d2 d3 d4 d5
              rw [← Nat.add_assoc] at d1 d2 d4 d5
              have e0 : IntKind.i64.wrap ((i : Int) + 1) = (i : Int) + 1 := IntWalk.i64_in _ (by unfold maxLen at hmx; omega)
              have hlt' : (i : Int) < (rl.length : Int) := by omega
              have hlt2 : (i : Int) < (p.l.length : Int) := by omega
              clear a0 a1 a2 b0 b1 b2 hy hy2
              go_wp2_with (fail)
              go_quiet (fail)
              go_wp2_with (fail)
              go_roundw
              case rel => exact ⟨i + 1, n + nq, by go_num, by omega, by first | rfl | trivial | exact World.drewN_drewN _ _ _⟩
              case measure => simp [RowKit.intOf, e0]; omega
            · have hge' : ¬ (i : Int) < (rl.length : Int) := by omega
              go_wp2_with (fail)
              go_ret
              exact ⟨rfl, below_drewN HB5.out n⟩

end Go.Proofs.YtnmpckdggddpoaaGreatDoor
