/- script.Print, the walk. -/
import Derived.Test.YtnmpckdggddpoaaGreatDoorTd
import Derived.Deep.RegionLaw
import Derived.Deep.DeepCutAuto
namespace Go.Proofs.YtnmpckdggddpoaaGreatDoor
set_option linter.unusedSimpArgs false
set_option linter.unusedVariables false
open Go.RowKit Go.Shelf Go.Lib

def InCells (w : World) (ad : Option Addr) (l : List AcI) : Prop := (ad = none ∧ l = []) ∨ ∃ g off, ad = some ⟨g, off, none⟩ ∧ ∀ j u, (actsI l)[j]? = some u → w.cell? ⟨g, off + j, none⟩ = some u
/-- []byte(s): the value and the world behind it. -/
noncomputable def cvV (w : World) (s : ByteArray) : Value := if h : s.size ≤ maxLen then (byt_of_string w s h).choose else undef
noncomputable def cvW (w : World) (s : ByteArray) : World := if h : s.size ≤ maxLen then (byt_of_string w s h).choose_spec.choose else w
theorem cv_spec (w : World) (s : ByteArray) (h : s.size ≤ maxLen) : (convert 9 80 (.string s)).run Tryz.prog w = .ok (cvV w s) (cvW w s) ∧ Byt (cvW w s) (cvV w s) s.data.toList ∧ Upd [] (own (cvV w s)) w (cvW w s) := by
  unfold cvV cvW
  rw [dif_pos h, dif_pos h]
  exact (byt_of_string w s h).choose_spec.choose_spec
theorem blk_cv {w : World} {b : Nat} {c : List Value} {t : TypeId} {s : ByteArray} (h : Blk w b c t) (hs : s.size ≤ maxLen) : Blk (cvW w s) b c t := (cv_spec w s hs).2.2.fr.keep h (by simp)
def finP : Option (List UInt8) → Option (List UInt8)
  | none => none
  | some t => match parseS t with
    | .inl _ => none
    | .inr _ => some t
theorem printS_fin {cells stack : Int} {l : List AcI} (h : ¬ 998 < l.length) : printS cells stack l = finP (goP (headP cells stack) l) := by
  unfold printS finP
  rw [if_neg h]
  cases goP (headP cells stack) l <;> rfl
theorem stepS_er {p : Sp} {x : List UInt8} {e : Nat} (h : stepS p x = .inl e) : e = 2 ∨ e = 5 := by
  unfold stepS at h
  repeat' split at h
  all_goals first | (cases h; done) | (cases h; omega)
theorem goS_er : ∀ (l : List (List UInt8)) (p : Sp) (k e m : Nat), goS p k l = .inl (e, m) → e = 2 ∨ e = 5
  | [], p, k, e, m, h => by cases h
  | x :: l, p, k, e, m, h => by
    rw [goS_cons] at h
    cases hs : stepS p x with
    | inl e2 => rw [hs] at h; cases h; exact stepS_er hs
    | inr q => rw [hs] at h; exact goS_er l q _ _ _ h
theorem parse_er {t : List UInt8} {e m : Nat} (h : parseS t = .inl (e, m)) : e = 2 ∨ e = 3 ∨ e = 4 ∨ e = 5 := by
  unfold parseS at h
  split at h
  · cases h; omega
  · split at h
    · cases h; omega
    · have := goS_er _ _ _ _ _ h; omega
def okP (o : Option (List UInt8)) : Int := if o.isSome then 0 else 5
abbrev I64n (n : Int) : Prop := -9223372036854775808 ≤ n ∧ n ≤ 9223372036854775807

set_option maxRecDepth 100000 in
set_option maxHeartbeats 8000000 in
theorem sc_Print (cells stack : Int) (ad : Option Addr) (cap : Nat) (l : List AcI) (B : Nat) (w : World) (hE : Env B w) (hc : I64n cells) (hs : I64n stack) (hn : ∀ a ∈ l, I64n a.n) (hv : InCells w ad l) :
    Calls Tryz.prog 13 #[.agg #[.int .i64 cells, .int .i64 stack, .slice ad l.length cap]] w fun e w' =>
      e = .returned (.tuple #[.string (bs ((printS cells stack l).getD [])), .int .i64 (okP (printS cells stack l))]) ∧ Below w.heap.size w w' := by
  by_cases hbig : 998 < l.length
  · have hp : printS cells stack l = none := by unfold printS; rw [if_pos hbig]
    rw [hp]
    have hgt : (998 : Int) < (l.length : Int) := by omega
    clear hn hv
    go_enter Tryz.func13, Tryz.ntmps13
    go_wp2_with (fail)
    go_ret2
    exact ⟨rfl, (Below.refl _ w).alloc (Nat.le_refl _) _⟩
  have hgt : ¬ (998 : Int) < (l.length : Int) := by omega
  obtain ⟨T, hT⟩ : ∃ T, Hid (printS cells stack l = T) := ⟨_, rfl⟩
  rw [hT.out]
  have hEn : ∀ w', Below w.heap.size w w' → Env B w' := fun w' h => hE.on (h.mono hE.le)
  have HEn := Lib.hid hEn
  have l1 := Lib.itoa_length_le cells hc.1 hc.2
  have l2 := Lib.itoa_length_le stack hs.1 hs.2
  obtain ⟨xc, hxc⟩ : ∃ xc : ByteArray, Hid (bs (Lib.itoa cells) = xc) := ⟨_, rfl⟩
  obtain ⟨xs, hxs⟩ : ∃ xs : ByteArray, Hid (bs (Lib.itoa stack) = xs) := ⟨_, rfl⟩
  have z1 : xc.size ≤ 21 := by rw [← hxc.out]; show (Lib.itoa cells).toArray.size ≤ 21; simpa using l1
  have z2 : xs.size ≤ 21 := by rw [← hxs.out]; show (Lib.itoa stack).toArray.size ≤ 21; simpa using l2
  have HI1 : Hid (∀ w, Env B w → Calls Tryz.prog 33 #[.int .i64 cells] w fun e w' => e = .returned (.string xc) ∧ Below w.heap.size w w') := Lib.hid (by rw [← hxc.out]; exact fun w h => itoa_any cells hc.1 hc.2 B w h)
  have HI2 : Hid (∀ w, Env B w → Calls Tryz.prog 33 #[.int .i64 stack] w fun e w' => e = .returned (.string xs) ∧ Below w.heap.size w w') := Lib.hid (by rw [← hxs.out]; exact fun w h => itoa_any stack hs.1 hs.2 B w h)
  have HBX : Hid (∀ v : Value, Blk (w.alloc (.cells #[.int .i64 cells, .int .i64 stack, v] 25)) w.heap.size [.int .i64 cells, .int .i64 stack, v] 25) := Lib.hid (fun v => Blk.new' (c := [_, _, _]) rfl)
  have HV := Lib.hid hv
  have HN := Lib.hid hn
  clear hEn l1 l2 hE hv hn hc hs
  have hq1 : ¬ (9223372036854775807 < 6 + xc.size) := by omega
  have hq2 : ¬ (9223372036854775807 < 6 + xc.size + 7) := by omega
  have hq3 : ¬ (9223372036854775807 < 6 + xc.size + 7 + xs.size) := by omega
  have hq4 : ¬ (9223372036854775807 < 6 + xc.size + 7 + xs.size + 1) := by omega
  obtain ⟨hd, hhd⟩ : ∃ hd : ByteArray, Hid ((⟨#[99, 101, 108, 108, 115, 32]⟩ ++ xc ++ ⟨#[10, 115, 116, 97, 99, 107, 32]⟩ ++ xs ++ ⟨#[10]⟩ : ByteArray) = hd) := ⟨_, rfl⟩
  have hdz : hd.size ≤ 56 := by rw [← hhd.out]; simp only [ByteArray.size_append]; show 6 + xc.size + 7 + xs.size + 1 ≤ 56; omega
  have hdl : Hid (hd.data.toList = headP cells stack) := Lib.hid (by rw [← hhd.out, ← hxc.out, ← hxs.out]; simp [headP, bs])
  have hde := hhd.out
  have hdz' : hd.size ≤ maxLen := by unfold maxLen; omega
  have hcv := fun w => (cv_spec w hd (by unfold maxLen; omega)).1
  go_enter Tryz.func13, Tryz.ntmps13
  go_upto_region 3 with fail
  go_cut [4] (fun bv0 wx => Hid (Blk wx w.heap.size [.int .i64 cells, .int .i64 stack, .slice ad l.length cap] 25) ∧ Hid (Byt wx bv0 hd.data.toList) ∧ Hid (Upd [] (own bv0) w wx))
  case first =>
    have cw := (HBX.out (.slice ad l.length cap)).cell
    go_region_law (first
      | (go_simp; go_at_call 33; refine (HI1.out _ (HEn.out _ ((Below.refl _ w).alloc (Nat.le_refl _) _).drew)).mono ?_; rintro e wa ⟨rfl, hBa⟩; have HB1 := Lib.hid (blk_below ((HBX.out _).drew) hBa); have HBa := Lib.hid ((((Below.refl _ w).alloc (Nat.le_refl _) _).drew).trans (hBa.mono (by simp))); have ca := HB1.out.cell; clear hBa)
      | (go_simp; go_at_call 33; refine (HI2.out _ (HEn.out _ HBa.out)).mono ?_; rintro e wb ⟨rfl, hBb⟩; have HB2 := Lib.hid (blk_below HB1.out hBb); have HBb := Lib.hid (HBa.out.trans (hBb.mono HBa.out.size)); have cb := HB2.out.cell; clear hBb))
    all_goals
      go_wp2_with fail
      go_meet
      exact ⟨blk_cv HB2.out hdz', (cv_spec wb hd hdz').2.1, ((Upd.refl [] w).fr.then (fr_of_below HBb.out) |> fun f => (⟨f, fun k h => .inl h⟩ : Upd [] [] w wb)).trans (cv_spec wb hd hdz').2.2⟩
  case rest =>
  rename_i w3
  obtain ⟨HBK, HB3, HU3⟩ := hcut
  have cbk := HBK.out.cell
  clear HI1 HI2 HBX hq1 hq2 hq3 hq4 hcv hde
  rw [printS_fin hbig] at hT
  go_wp2_with (fail)
  go_loopw [4, 28] (fun bv iv wr => ∃ (i : Nat) (out : List UInt8), iv = .int .i64 i ∧ i ≤ l.length ∧ Hid (finP (goP out (l.drop i)) = T) ∧ out.length ≤ 65536 ∧ Hid (Byt wr bv out) ∧ Hid (Upd [] (own bv) w wr)) (fun _ iv _ => l.length - (RowKit.intOf iv).toNat)
  case atStart => exact ⟨0, _, rfl, by omega, by rw [← hdl.out] at hT; exact hT, by show hd.data.toList.length ≤ _; rw [size_toList]; omega, HB3, HU3⟩
  case round =>
    obtain ⟨i, out, rfl, hi, HG, hol, HBy, HU⟩ := hrel
    have e0 : IntKind.i64.wrap ((i : Int) + 1) = (i : Int) + 1 := IntWalk.i64_in _ (by omega)
    have i0 : (0 : Int) ≤ (i : Int) := by omega
    rcases Nat.lt_or_ge i l.length with hlt | hge
    · obtain ⟨a, ha⟩ : ∃ a, l[i]? = some a := ⟨_, List.getElem?_eq_getElem hlt⟩
      rcases HV.out with ⟨_, h⟩ | ⟨g, off, had, hcell⟩
      · rw [h] at hlt; simp at hlt
      obtain ⟨hc0, hc1, hc2⟩ := actsI_get l i a ha
      have hkeep : ∀ j v, w.cell? ⟨g, j, none⟩ = some v → wr.cell? ⟨g, j, none⟩ = some v := fun j v h => by
        rw [World.cell?_of_block (w := w) (HU.out.fr.block g (block_lt_of_cell h) (by simp))]
        exact h
      have d0 := hkeep _ _ (hcell _ _ hc0)
      have d1 := hkeep _ _ (hcell _ _ hc1)
      have d2 := hkeep _ _ (hcell _ _ hc2)
      rw [← Nat.add_assoc] at d1 d2
      have hdr : l.drop i = a :: l.drop (i + 1) := by
        obtain ⟨h1, h2⟩ := List.getElem?_eq_some_iff.1 ha
        rw [List.drop_eq_getElem_cons h1, h2]
      have HGd : Hid (finP (match encA a with | none => none | some x => if 65536 < (out ++ x).length then none else goP (out ++ x) (l.drop (i + 1))) = T) := Lib.hid (by have := HG.out; rw [hdr] at this; exact this)
      have hIn := HN.out a (List.mem_of_getElem? ha)
      have hlt' : (i : Int) < (l.length : Int) := by omega
      subst had
      have HIn := Lib.hid hIn
      clear hkeep hc0 hc1 hc2 hdr hcell ha hIn HG
      have HBa : Hid (∀ o, Byt (wr.alloc o) u4 out) := Lib.hid (fun o => HBy.out.fr (F := []) (fr_of_below ((Below.refl _ wr).alloc (Nat.le_refl _) _)) (by simp))
      have HUa := Lib.hid (fun o => HU.out.alloc o)
      by_cases k1 : a.kind = 1
      · have b1 : (a.kind == 1) = true := by rw [beq_iff_eq]; exact k1
        have b2 : (a.kind == 2) = false := by rw [beq_eq_false_iff_ne, k1]; decide
        have b3 : (a.kind == 3) = false := by rw [beq_eq_false_iff_ne, k1]; decide
        by_cases k4 : a.n = 0
        · have b4 : (a.n == 0) = true := by rw [beq_iff_eq]; exact k4
          by_cases k5 : a.s.size ≤ 65536
          · have b5 : (a.s.size : Int) ≤ 65536 := by omega
            have HEN : Hid (encA a = some (wLineS ++ quotL a.s.data.toList ++ [10])) := Lib.hid (by unfold encA; rw [if_pos ⟨k1, k4, k5⟩])
            have ql := qpre_len a.s.data.toList
            have sl := size_toList a.s
            obtain ⟨q, hq⟩ : ∃ q : ByteArray, Hid (bs (quotL a.s.data.toList) = q) := ⟨_, rfl⟩
            have qz : q.size ≤ 300000 := by
              rw [← hq.out]
              show (quotL a.s.data.toList).toArray.size ≤ 300000
              simp only [quotL, List.size_toArray, List.length_append, List.length_cons, List.length_nil]
              omega
            have HTX : Hid (∀ w, Calls Tryz.prog 34 #[.agg #[.int .i64 2, .int .i64 0, .int .i64 0, .string a.s]] w fun e w' => e = .returned (.string q) ∧ Below w.heap.size w w') := Lib.hid (by rw [← hq.out]; exact fun w => lx_Text a.s w (by omega))
            obtain ⟨ln, hln⟩ : ∃ ln : ByteArray, Hid ((⟨#[108, 105, 110, 101, 32]⟩ ++ q ++ ⟨#[10]⟩ : ByteArray) = ln) := ⟨_, rfl⟩
            have HSZ : Hid (ln.size ≤ 300006) := Lib.hid (by rw [← hln.out]; simp only [ByteArray.size_append]; show 5 + q.size + 1 ≤ 300006; omega)
            have HLN : Hid (ln.data.toList = wLineS ++ quotL a.s.data.toList ++ [10]) := Lib.hid (by rw [← hln.out, ← hq.out]; simp [wLineS, bs])
            have hle := hln.out
            have z3 : ¬ (9223372036854775807 < 5 + q.size) := by omega
            have z4 : ¬ (9223372036854775807 < 5 + q.size + 1) := by omega
            have HBo := HBa
            have HUo := HUa
            clear k1 k4 k5 ql sl qz HBa HUa
            go_wp2_with (fail)
            refine (HTX.out _).mono ?_
            rintro e wt ⟨rfl, hBt⟩
            have HBa : Hid (∀ o : Obj, Byt wt u4 out) := Lib.hid (fun o => (HBo.out _).fr (F := []) (fr_of_below hBt) (by simp))
            have HUa : Hid (∀ o : Obj, Upd [] (own u4) w wt) := Lib.hid (fun o => (HUo.out _).trans (upd_of_fr (F := []) (fr_of_below hBt) (by simp)))
            clear hBt
            go_wp2_with (at_builtin; go_loud (refine wpList_byt_app rfl (.tmp 47) (.tmp 53) rfl _ out rfl (HBa.out (.deferred none)) ln rfl (by unfold maxLen; have := HSZ.out; omega) (by have := HSZ.out; omega) ?go))
            case go =>
              intro o2 g2 cap2 w2 HO2 hB2 hU2
              have HB2 := Lib.hid hB2
              have HU2 := Lib.hid ((HUa.out (.deferred none)).trans hU2)
              have HOX : Hid (out ++ (wLineS ++ quotL a.s.data.toList ++ [10]) = o2) := Lib.hid (by rw [HO2.out]; first | rfl | rw [HLN.out])
              clear hB2 hU2
              by_cases hlen : 65536 < o2.length
              · have hlen' : (65536 : Int) < (o2.length : Int) := by omega
                have HT0 : Hid (none = T) := Lib.hid (by rw [← HGd.out]; simp only [HEN.out, HOX.out]; rw [if_pos hlen]; rfl)
                clear hlen
                go_wp2_with (fail)
                go_ret2
                have hT0 := HT0.out
                subst hT0
                exact ⟨rfl, HU2.out.fr.below (Nat.le_refl _) (by simp)⟩
              · have hlen' : ¬ (65536 : Int) < (o2.length : Int) := by omega
                have HG2 : Hid (finP (goP o2 (l.drop (i + 1))) = T) := Lib.hid (by rw [← HGd.out]; simp only [HEN.out, HOX.out]; rw [if_neg hlen])
                have HLE : Hid (o2.length ≤ 65536) := Lib.hid (by omega)
                clear hlen
                go_wp2_with (fail)
                go_roundw
                case rel => exact ⟨i + 1, o2, by go_num, by omega, HG2, HLE.out, HB2, HU2⟩
                case measure => simp [RowKit.intOf, e0]; omega
          · have b5 : ¬ (a.s.size : Int) ≤ 65536 := by omega
            have HEN : Hid (encA a = none) := Lib.hid (by unfold encA; rw [if_neg (by rintro ⟨_, _, h⟩; exact k5 h), if_neg (by rintro ⟨h, _⟩; rw [k1] at h; cases h), if_neg (by rintro ⟨h, _⟩; rw [k1] at h; cases h)])
            clear k1 k4 k5
            have HT0 : Hid (none = T) := Lib.hid (by rw [← HGd.out]; simp only [HEN.out]; rfl)
            go_wp2_with (fail)
            go_ret2
            have hT0 := HT0.out
            subst hT0
            exact ⟨rfl, (HUa.out _).fr.below (Nat.le_refl _) (by simp)⟩
        · have b4 : (a.n == 0) = false := by rw [beq_eq_false_iff_ne]; exact k4
          have HEN : Hid (encA a = none) := Lib.hid (by unfold encA; rw [if_neg (by rintro ⟨_, h, _⟩; exact k4 h), if_neg (by rintro ⟨h, _⟩; rw [k1] at h; cases h), if_neg (by rintro ⟨h, _⟩; rw [k1] at h; cases h)])
          clear k1 k4
          have HT0 : Hid (none = T) := Lib.hid (by rw [← HGd.out]; simp only [HEN.out]; rfl)
          go_wp2_with (fail)
          go_ret2
          have hT0 := HT0.out
          subst hT0
          exact ⟨rfl, (HUa.out _).fr.below (Nat.le_refl _) (by simp)⟩
      · have b1 : (a.kind == 1) = false := by rw [beq_eq_false_iff_ne]; exact k1
        by_cases k2 : a.kind = 2
        · have b2 : (a.kind == 2) = true := by rw [beq_iff_eq]; exact k2
          have b3 : (a.kind == 3) = false := by rw [beq_eq_false_iff_ne, k2]; decide
          by_cases k6 : a.s.data.toList = []
          · have b6 := is_empty k6
            have HEN : Hid (encA a = some (wRunS ++ Lib.itoa a.n ++ [10])) := Lib.hid (by unfold encA; rw [if_neg (by rintro ⟨h, _⟩; exact k1 h), if_pos ⟨k2, k6⟩])
            have ql := Lib.itoa_length_le a.n HIn.out.1 HIn.out.2
            obtain ⟨q, hq⟩ : ∃ q : ByteArray, Hid (bs (Lib.itoa a.n) = q) := ⟨_, rfl⟩
            have qz : q.size ≤ 300000 := by
              rw [← hq.out]
              show (Lib.itoa a.n).toArray.size ≤ 300000
              simp only [List.size_toArray]
              omega
            have HTX : Hid (∀ w, Env B w → Calls Tryz.prog 35 #[.int .i64 a.n, .int .i64 10] w fun e w' => e = .returned (.string q) ∧ Below w.heap.size w w') := Lib.hid (by rw [← hq.out]; exact fun w h => fmt_any a.n HIn.out.1 HIn.out.2 B w h)
            obtain ⟨ln, hln⟩ : ∃ ln : ByteArray, Hid ((⟨#[114, 117, 110, 32]⟩ ++ q ++ ⟨#[10]⟩ : ByteArray) = ln) := ⟨_, rfl⟩
            have HSZ : Hid (ln.size ≤ 300006) := Lib.hid (by rw [← hln.out]; simp only [ByteArray.size_append]; show 4 + q.size + 1 ≤ 300006; omega)
            have HLN : Hid (ln.data.toList = wRunS ++ Lib.itoa a.n ++ [10]) := Lib.hid (by rw [← hln.out, ← hq.out]; simp [wRunS, bs])
            have hle := hln.out
            have z3 : ¬ (9223372036854775807 < 4 + q.size) := by omega
            have z4 : ¬ (9223372036854775807 < 4 + q.size + 1) := by omega
            have HBo := HBa
            have HUo := HUa
            clear k1 k2 k6 ql qz HBa HUa
            go_wp2_with (fail)
            refine (HTX.out _ (HEn.out _ ((HUo.out _).fr.below (Nat.le_refl _) (by simp)))).mono ?_
            rintro e wt ⟨rfl, hBt⟩
            have HBa : Hid (∀ o : Obj, Byt wt u4 out) := Lib.hid (fun o => (HBo.out _).fr (F := []) (fr_of_below hBt) (by simp))
            have HUa : Hid (∀ o : Obj, Upd [] (own u4) w wt) := Lib.hid (fun o => (HUo.out _).trans (upd_of_fr (F := []) (fr_of_below hBt) (by simp)))
            clear hBt
            go_wp2_with (at_builtin; go_loud (refine wpList_byt_app rfl (.tmp 64) (.tmp 69) rfl _ out rfl (HBa.out (.deferred none)) ln rfl (by unfold maxLen; have := HSZ.out; omega) (by have := HSZ.out; omega) ?go))
            case go =>
              intro o2 g2 cap2 w2 HO2 hB2 hU2
              have HB2 := Lib.hid hB2
              have HU2 := Lib.hid ((HUa.out (.deferred none)).trans hU2)
              have HOX : Hid (out ++ (wRunS ++ Lib.itoa a.n ++ [10]) = o2) := Lib.hid (by rw [HO2.out]; first | rfl | rw [HLN.out])
              clear hB2 hU2
              by_cases hlen : 65536 < o2.length
              · have hlen' : (65536 : Int) < (o2.length : Int) := by omega
                have HT0 : Hid (none = T) := Lib.hid (by rw [← HGd.out]; simp only [HEN.out, HOX.out]; rw [if_pos hlen]; rfl)
                clear hlen
                go_wp2_with (fail)
                go_ret2
                have hT0 := HT0.out
                subst hT0
                exact ⟨rfl, HU2.out.fr.below (Nat.le_refl _) (by simp)⟩
              · have hlen' : ¬ (65536 : Int) < (o2.length : Int) := by omega
                have HG2 : Hid (finP (goP o2 (l.drop (i + 1))) = T) := Lib.hid (by rw [← HGd.out]; simp only [HEN.out, HOX.out]; rw [if_neg hlen])
                have HLE : Hid (o2.length ≤ 65536) := Lib.hid (by omega)
                clear hlen
                go_wp2_with (fail)
                go_roundw
                case rel => exact ⟨i + 1, o2, by go_num, by omega, HG2, HLE.out, HB2, HU2⟩
                case measure => simp [RowKit.intOf, e0]; omega
          · have b6 := ne_empty k6
            have HEN : Hid (encA a = none) := Lib.hid (by unfold encA; rw [if_neg (by rintro ⟨h, _⟩; exact k1 h), if_neg (by rintro ⟨_, h⟩; exact k6 h), if_neg (by rintro ⟨h, _⟩; rw [k2] at h; cases h)])
            clear k1 k2 k6
            have HT0 : Hid (none = T) := Lib.hid (by rw [← HGd.out]; simp only [HEN.out]; rfl)
            go_wp2_with (fail)
            go_ret2
            have hT0 := HT0.out
            subst hT0
            exact ⟨rfl, (HUa.out _).fr.below (Nat.le_refl _) (by simp)⟩
        · have b2 : (a.kind == 2) = false := by rw [beq_eq_false_iff_ne]; exact k2
          by_cases k3 : a.kind = 3 ∧ a.n = 0 ∧ a.s.data.toList = []
          · have HEN : Hid (encA a = some wCollN) := Lib.hid (by unfold encA; rw [if_neg (by rintro ⟨h, _⟩; exact k1 h), if_neg (by rintro ⟨h, _⟩; exact k2 h), if_pos k3])
            have k3a := k3.1
            have k3b := k3.2.1
            have k3c := is_empty k3.2.2
            have HSZ : Hid ((⟨#[99, 111, 108, 108, 101, 99, 116, 10]⟩ : ByteArray).size = 8) := Lib.hid rfl
            clear k1 k2 k3
            go_wp2_with (at_builtin; go_loud (refine wpList_byt_app rfl (.tmp 75) (.const (.string ⟨#[99, 111, 108, 108, 101, 99, 116, 10]⟩)) rfl _ out rfl (HBa.out _) ⟨#[99, 111, 108, 108, 101, 99, 116, 10]⟩ rfl (by unfold maxLen; have := HSZ.out; omega) (by have := HSZ.out; omega) ?go))
            case go =>
              intro o2 g2 cap2 w2 HO2 hB2 hU2
              have HB2 := Lib.hid hB2
              have HU2 := Lib.hid ((HUa.out _).trans hU2)
              have HOX : Hid (out ++ wCollN = o2) := Lib.hid (by rw [HO2.out]; first | rfl | rw [HLN.out])
              clear hB2 hU2
              by_cases hlen : 65536 < o2.length
              · have hlen' : (65536 : Int) < (o2.length : Int) := by omega
                have HT0 : Hid (none = T) := Lib.hid (by rw [← HGd.out]; simp only [HEN.out, HOX.out]; rw [if_pos hlen]; rfl)
                clear hlen
                go_wp2_with (fail)
                go_ret2
                have hT0 := HT0.out
                subst hT0
                exact ⟨rfl, HU2.out.fr.below (Nat.le_refl _) (by simp)⟩
              · have hlen' : ¬ (65536 : Int) < (o2.length : Int) := by omega
                have HG2 : Hid (finP (goP o2 (l.drop (i + 1))) = T) := Lib.hid (by rw [← HGd.out]; simp only [HEN.out, HOX.out]; rw [if_neg hlen])
                have HLE : Hid (o2.length ≤ 65536) := Lib.hid (by omega)
                clear hlen
                go_wp2_with (fail)
                go_roundw
                case rel => exact ⟨i + 1, o2, by go_num, by omega, HG2, HLE.out, HB2, HU2⟩
                case measure => simp [RowKit.intOf, e0]; omega
          · have HEN : Hid (encA a = none) := Lib.hid (by unfold encA; rw [if_neg (by rintro ⟨h, _⟩; exact k1 h), if_neg (by rintro ⟨h, _⟩; exact k2 h), if_neg k3])
            by_cases k7 : a.kind = 3
            · have b3 : (a.kind == 3) = true := by rw [beq_iff_eq]; exact k7
              by_cases k8 : a.n = 0
              · have b4 : (a.n == 0) = true := by rw [beq_iff_eq]; exact k8
                have b6 := ne_empty (s := a.s) (fun h => k3 ⟨k7, k8, h⟩)
                clear k1 k2 k3 k7 k8
                have HT0 : Hid (none = T) := Lib.hid (by rw [← HGd.out]; simp only [HEN.out]; rfl)
                go_wp2_with (fail)
                go_ret2
                have hT0 := HT0.out
                subst hT0
                exact ⟨rfl, (HUa.out _).fr.below (Nat.le_refl _) (by simp)⟩
              · have b4 : (a.n == 0) = false := by rw [beq_eq_false_iff_ne]; exact k8
                clear k1 k2 k3 k7 k8
                have HT0 : Hid (none = T) := Lib.hid (by rw [← HGd.out]; simp only [HEN.out]; rfl)
                go_wp2_with (fail)
                go_ret2
                have hT0 := HT0.out
                subst hT0
                exact ⟨rfl, (HUa.out _).fr.below (Nat.le_refl _) (by simp)⟩
            · have b3 : (a.kind == 3) = false := by rw [beq_eq_false_iff_ne]; exact k7
              clear k1 k2 k3 k7
              have HT0 : Hid (none = T) := Lib.hid (by rw [← HGd.out]; simp only [HEN.out]; rfl)
              go_wp2_with (fail)
              go_ret2
              have hT0 := HT0.out
              subst hT0
              exact ⟨rfl, (HUa.out _).fr.below (Nat.le_refl _) (by simp)⟩
    · have he : i = l.length := by omega
      subst he
      have HG2 : Hid (finP (some out) = T) := Lib.hid (by have := HG.out; rw [List.drop_eq_nil_of_le (Nat.le_refl _)] at this; exact this)
      have hcv := byt_string HBy.out
      have HE2 := HEn.out _ (HU.out.fr.below (Nat.le_refl _) (by simp))
      have HPar := Lib.hid (sc_Parse (bs out) B wr HE2 (by show out.toArray.size ≤ _; simp; omega))
      clear HG HE2
      go_wp2_with (fail)
      refine HPar.out.mono ?_
      rintro e wp ⟨hres, hBp⟩
      have HBp := Lib.hid hBp
      cases hps : parseS (bs out).data.toList with
      | inl r =>
        obtain ⟨er, k⟩ := r
        rw [hps] at hres
        have hne : ((er : Int) != 0) = true := by have := parse_er hps; rw [bne_iff_ne]; omega
        have hT0 : Hid (none = T) := Lib.hid (by rw [← HG2.out]; show none = (match parseS out with | .inl _ => none | .inr _ => some out); rw [show parseS out = _ from hps])
        have hres2 : e = _ := hres
        subst hres2
        clear hres hps hBp hcv
        go_wp2_with (fail)
        go_ret2
        have hT := hT0.out
        subst hT
        refine ⟨rfl, ((HU.out.fr.then (fr_of_below HBp.out)).below (Nat.le_refl _) (by simp)).alloc ?_ _⟩
        exact Nat.le_trans HU.out.fr.size HBp.out.size
      | inr p =>
        rw [hps] at hres
        obtain ⟨v, rfl, hSl, _⟩ := hres
        obtain ⟨ad2, cap2, rfl, _⟩ := hSl.form
        have hT0 : Hid (some out = T) := Lib.hid (by rw [← HG2.out]; show some out = (match parseS out with | .inl _ => none | .inr _ => some out); rw [show parseS out = _ from hps])
        have hcv2 : ∀ o : Obj, (convert 80 9 u4).run Tryz.prog (wp.alloc o) = .ok (.string (bs out)) (wp.alloc o) := fun o => byt_string ((HBy.out.fr (F := []) (fr_of_below HBp.out) (by simp)).fr (F := []) (fr_of_below ((Below.refl _ wp).alloc (Nat.le_refl _) o)) (by simp))
        clear hps hBp hcv hSl
        go_wp2_with (fail)
        go_ret2
        have hT := hT0.out
        subst hT
        refine ⟨rfl, ((HU.out.fr.then (fr_of_below HBp.out)).below (Nat.le_refl _) (by simp)).alloc ?_ _⟩
        exact Nat.le_trans HU.out.fr.size HBp.out.size

end Go.Proofs.YtnmpckdggddpoaaGreatDoor
