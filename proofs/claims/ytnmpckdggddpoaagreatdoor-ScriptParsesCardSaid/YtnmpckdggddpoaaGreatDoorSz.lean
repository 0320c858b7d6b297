
/- script.Parse, the walk. -/
import Derived.Test.YtnmpckdggddpoaaGreatDoorSy
namespace Go.Proofs.YtnmpckdggddpoaaGreatDoor
set_option linter.unusedSimpArgs false
set_option linter.unusedVariables false
open Go.RowKit Go.Shelf Go.Lib
attribute [local go_sem] Oper.semAt_some

set_option maxRecDepth 100000 in
set_option maxHeartbeats 8000000 in
theorem sc_Parse (s : ByteArray) (B : Nat) (w : World) (hE : Env B w) (hs2 : s.size ≤ 9223372036854775807) :
    Calls Tryz.prog 9 #[.string s] w (ParR w (parseS s.data.toList)) := by
  have HE := Lib.hid hE
  clear hE
  refine (callsIn_wide (n := 9)).1 ?_
  refine callsIn_of_wp_marks Tryz.func9 rfl trivial ?_ rfl
  simp only [Tryz.ntmps9, List.size_toArray, List.length_cons, List.length_nil, Nat.reduceAdd, Nat.reduceSub, Array.replicate_succ, Array.replicate_zero, List.push_toArray, List.append_toArray, List.nil_append, List.cons_append]
  by_cases hbig : 65536 < s.size
  · have hgt : (65536 : Int) < (s.size : Int) := by omega
    have hp : parseS s.data.toList = .inl (4, 0) := by unfold parseS; rw [if_pos (by rw [size_toList]; exact hbig)]
    rw [hp]
    gi_wp2
    exact ⟨_, ret_script (a := w.heap.size) (b := w.heap.size + 1) (c := w.heap.size + 1 + 1) rfl rfl rfl rfl (((Blk.new' (c := [_, _, _]) rfl).alloc _).alloc _) ((Blk.new' (c := [_]) (by simp)).alloc _) (Blk.new' (c := [_]) (by simp)), rfl, below3 w _ _ _⟩
  · have hgt : ¬ (65536 : Int) < (s.size : Int) := by omega
    have hp : parseS s.data.toList = if 1000 < (linesG [] s.data.toList).length then .inl (3, 0) else goS spNew 1 (linesG [] s.data.toList) := by unfold parseS; rw [if_neg (by rw [size_toList]; exact hbig)]
    have hmany := lines_many s.data.toList
    have HT := Lib.hid (fun w => Tryz.strings_TrimSuffix s ⟨#[10]⟩ w (by omega))
    obtain ⟨t, ht⟩ : ∃ t : ByteArray, Hid ((⟨(Lib.trimSuffix s.data.toList (⟨#[10]⟩ : ByteArray).data.toList).toArray⟩ : ByteArray) = t) := ⟨_, rfl⟩
    rw [ht.out] at HT
    have HC := Lib.hid (fun w => Tryz.strings_Count_one t 10 w)
    obtain ⟨cn, hcn⟩ : ∃ cn : Nat, Hid (Lib.countByte t.data.toList 10 = cn) := ⟨_, rfl⟩
    have hcn2 : Lib.countByte (Lib.trimSuffix s.data.toList [10]) 10 = cn := by rw [← hcn.out, ← ht.out]
    rw [hcn2] at hmany
    rw [hcn.out] at HC
    clear hcn2
    by_cases hm : 1000 ≤ cn
    · rw [hp, if_pos (hmany.2 hm)]
      have hm' : (1000 : Int) ≤ (cn : Int) := by omega
      clear hp hmany
      gi_wp2_with (first | (refine ⟨trivial, ?_⟩; gi_at_call 24; refine (callsIn_wide.2 (HT.out _)).mono ?_; rintro e w' ⟨rfl, rfl⟩) | (refine ⟨trivial, ?_⟩; gi_at_call 23; refine (callsIn_wide.2 (HC.out _)).mono ?_; rintro e w' ⟨rfl, rfl⟩))
      exact ⟨_, ret_script (a := w.heap.size) (b := w.heap.size + 1) (c := w.heap.size + 1 + 1) rfl rfl rfl rfl (((Blk.new' (c := [_, _, _]) rfl).alloc _).alloc _) ((Blk.new' (c := [_]) (by simp)).alloc _) (Blk.new' (c := [_]) (by simp)), rfl, below3 w _ _ _⟩
    · rw [hp, if_neg (fun h => hm (hmany.1 h))]
      obtain ⟨T, hTT⟩ : ∃ T, Hid (goS spNew 1 (linesG [] s.data.toList) = T) := ⟨_, rfl⟩
      rw [hTT.out]
      have hm' : ¬ (1000 : Int) ≤ (cn : Int) := by omega
      have hl1000 : (linesG [] s.data.toList).length ≤ 1000 := Nat.le_of_not_lt (fun h => hm (hmany.1 h))
      have HLn := Lib.hid (fun w => sc_lines s w)
      clear hp hmany
      gi_wp2_with (first | (refine ⟨trivial, ?_⟩; gi_at_call 24; refine (callsIn_wide.2 (HT.out _)).mono ?_; rintro e w' ⟨rfl, rfl⟩) | (refine ⟨trivial, ?_⟩; gi_at_call 23; refine (callsIn_wide.2 (HC.out _)).mono ?_; rintro e w' ⟨rfl, rfl⟩) | (refine ⟨trivial, ?_⟩; gi_at_call 25; refine (callsIn_wide.2 (HLn.out _)).mono ?_; rintro e w' ⟨rfl, rfl⟩))
      obtain ⟨n0, hn0⟩ : ∃ n0, n0 = w.heap.size := ⟨_, rfl⟩
      rw [← hn0]
      obtain ⟨w0, hw0⟩ : ∃ w0, w0 = (((((((w.alloc (.cells #[.int .i64 0, .int .i64 0, .slice none 0 0] 25)).alloc (.cells #[.int .i64 0] 26)).alloc (.cells #[.int .i64 0] 3)).alloc (.cells #[.int .i64 32768, .int .i64 8192, .slice none 0 0] 25)).alloc (.cells #[.bool false] 4)).alloc (.cells #[.bool false] 4)).alloc (.cells #[.string s] 9)) := ⟨_, rfl⟩
      have hbt : Blk w0 (n0 + 1 + 1 + 1 + 1 + 1 + 1) [.string s] 9 := by rw [hw0]; exact Blk.new' (c := [_]) (by simp [hn0])
      have hw0s : w0.heap.size = n0 + 1 + 1 + 1 + 1 + 1 + 1 + 1 := by rw [hw0]; simp [hn0]
      have hPI : PI w n0 spNew (.slice none 0 0) w0 := by
        rw [hw0]
        exact ⟨hn0, (((((((Blk.new' (c := [_, _, _]) hn0).alloc _).alloc _).alloc _).alloc _).alloc _).alloc _), ((((((Blk.new' (c := [_]) (by simp [hn0])).alloc _).alloc _).alloc _).alloc _).alloc _), (((((Blk.new' (c := [_]) (by simp [hn0])).alloc _).alloc _).alloc _).alloc _), ((((Blk.new' (c := [_, _, _]) (by simp [hn0])).alloc _).alloc _).alloc _), (((Blk.new' (c := [_]) (by simp [hn0])).alloc _).alloc _), ((Blk.new' (c := [_]) (by simp [hn0])).alloc _), Sl.nil _ _ _, by simp [own, Value.ownBlock], by simp [own, Value.ownBlock],
          ((((below3 w _ _ _).alloc (by simp; omega) _).alloc (by simp; omega) _).alloc (by simp; omega) _).alloc (by simp; omega) _⟩
      rw [← hw0]
      clear hw0
      have hsz : s.size ≤ 70000 := by omega
      have HPI := Lib.hid hPI
      have hwn : w.heap.size ≤ w0.heap.size := by omega
      have hset : ∀ (pre : List (Nat × List UInt8)) (W : World) (v : Value), ParI w n0 pre W → ParI w n0 pre (W.setCell ⟨n0 + 1 + 1 + 1 + 1 + 1 + 1, 0, none⟩ v) := fun pre W v ⟨p, u, h1, h2, h3⟩ => ⟨p, u, h1, h2, h3.setT v⟩
      have hdrew : ∀ (pre : List (Nat × List UInt8)) (W : World) (m : Nat), ParI w n0 pre W → ParI w n0 pre (W.drewN m) := fun pre W m ⟨p, u, h1, h2, h3⟩ => ⟨p, u, h1, h2, h3.drewN m⟩
      have HN0 := Lib.hid hn0
      have HW0 := Lib.hid hw0s
      clear hn0 hw0s
      refine wpIn_range_st (F := Fence.wide) (bt := n0 + 1 + 1 + 1 + 1 + 1 + 1) rfl (by omega) (gf := 51) (lb := #[.pointer (some ⟨n0 + 1 + 1 + 1 + 1 + 1 + 1, 0, none⟩)]) rfl trivial (enters_of Tryz.func51 (by kernel_rfl) rfl)
        (by have := HW0.out; omega) (sc_lines1 _ (n0 + 1 + 1 + 1 + 1 + 1 + 1) (by omega) s hsz w0 hbt) (fun _ => rfl) (ParI w n0) (ParX w n0)
        (fun pre W W' row ⟨p, u, h1, h2, h3⟩ hg hr => ⟨p, u, h1, h2, h3.grown hwn hg hr⟩)
        (fun c pre W W' row ⟨h0, er, k, h1, h2⟩ hg hr => ⟨h0, er, k, h1, h2.grown hwn hg hr⟩)
        ⟨hset, hdrew⟩ ⟨spNew, _, rfl, Nat.le_refl _, hPI⟩ ?a1 ?assign ?body ?done ?stop
      case assign =>
        intro l x W K hK
        gi_wp2
        exact hK
      case body =>
        rintro l pre ⟨k, x⟩ rest W hxs ⟨p, v, hg, hpl, hP⟩ hW
        obtain ⟨hk, hsp⟩ := numL_split _ _ _ _ _ hxs
        have hpre : pre.length + 1 ≤ 1000 := by
          have h1 := congrArg List.length hsp
          simp at h1
          omega
        have hx0 : x.length ≤ 70000 := by
          have h1 := linesG_mem s.data.toList [] x (by rw [hsp]; simp)
          have hL : s.data.toList.length = s.size := Array.length_toList
          simp at h1
          omega
        obtain ⟨wd, hwd⟩ : ∃ wd : ByteArray, Hid ((⟨(cutS 32 x).1.toArray⟩ : ByteArray) = wd) := ⟨_, rfl⟩
        obtain ⟨rs, hrs⟩ : ∃ rs : ByteArray, Hid ((⟨(cutS 32 x).2.1.toArray⟩ : ByteArray) = rs) := ⟨_, rfl⟩
        obtain ⟨mr, hmr⟩ : ∃ mr, Hid ((cutS 32 x).2.2 = mr) := ⟨_, rfl⟩
        have hxe : (⟨x.toArray⟩ : ByteArray).size = x.length := by show x.toArray.size = _; simp
        have HC2 : Hid (∀ w, CallsIn Fence.wide 6 Tryz.prog 26 #[.string ⟨x.toArray⟩, .string ⟨#[32]⟩] w fun e w' => e = .returned (.tuple #[.string wd, .string rs, .bool mr]) ∧ ∃ n, w' = w.drewN n) := Lib.hid (fun w => by
          rw [← hwd.out, ← hrs.out, ← hmr.out]
          exact gcut1 6 (⟨x.toArray⟩ : ByteArray) 32 w (by rw [hxe]; omega))
        have hwl : wd.data.toList = (cutS 32 x).1 := by rw [← hwd.out]
        have hrl : rs.data.toList = (cutS 32 x).2.1 := by rw [← hrs.out]
        have hrsz : rs.size ≤ 70000 := by
          have h1 := (cutS_le 32 x).2
          have hL : rs.data.toList.length = rs.size := Array.length_toList
          rw [hrl] at hL
          omega
        have e1 := cmp_bs wd [99, 101, 108, 108, 115]
        have e2 := cmp_bs wd [115, 116, 97, 99, 107]
        have n1 : (wd.toList != [99, 101, 108, 108, 115]) = !decide (wd.data.toList = [99, 101, 108, 108, 115]) := by rw [← e1]; rfl
        have n2 : (wd.toList != [115, 116, 97, 99, 107]) = !decide (wd.data.toList = [115, 116, 97, 99, 107]) := by rw [← e2]; rfl
        obtain ⟨ad, cap, hv, _⟩ := hP.sl.form
        have HK := Lib.hid hk
        have HG := Lib.hid hg
        have HPL := Lib.hid hpl
        have HPR := Lib.hid hpre
        have HRS := Lib.hid hrsz
        have HP := Lib.hid hP
        have HWL := Lib.hid hwl
        have HRL := Lib.hid hrl
        have hWs : n0 + 1 + 1 + 1 + 1 + 1 + 1 < W.heap.size := by have := HW0.out; omega
        have HWS := Lib.hid hWs
        have hbW := HE.out.le
        clear hset hdrew hbt hPI HPI HT HC HLn  hwn hg hpl hP hk hpre hrsz hsp hxs hx0 hxe hW hWs
        by_cases hA : wd.data.toList = wCells ∨ wd.data.toList = wStack
        · rcases id hA with hw | hw
          · skip
            have e1' : decide (wd.data.toList = [99, 101, 108, 108, 115]) = true := by rw [hw]; rfl
            have e2' : decide (wd.data.toList = [115, 116, 97, 99, 107]) = false := by rw [hw]; rfl
            rw [e1'] at e1 n1
            rw [e2'] at e2 n2
            obtain ⟨N, hN⟩ : ∃ N, Hid (numB rs.data.toList = N) := ⟨_, rfl⟩
            have HW := Lib.hid hw
            have hnum := fun w => callsIn_wide (n := 6) |>.2 (sc_number rs w (by have := HRS.out; omega))
            rw [hN.out] at hnum
            have HNum := Lib.hid hnum
            clear hwl hrl hA hw e1' e2' hnum
            gi_wp2_with (first | (refine ⟨trivial, ?_⟩; gi_at_call 26; refine (CallsIn.inRound l (HC2.out _)).mono ?_; rintro e w' ⟨rfl, nq, rfl⟩))
            refine ⟨trivial, ?_⟩
            gi_at_call 28
            refine (CallsIn.inRound l (HNum.out _)).mono ?_
            rintro e w' ⟨rfl, hB⟩
            have hf : Fr [] W w' := (fr_of_below (below_drewN (Below.refl _ W) nq)).then (fr_of_below hB)
            have HF := Lib.hid hf
            have hP3 := HP.out.fr0 hf
            subst hv
            have c5 := hP3.out.cell
            have f5 := hP3.out.free
            have c2 := hP3.r2.cell
            have f2 := hP3.r2.free
            have c3 := hP3.r3.cell
            have f3 := hP3.r3.free
            have c4 := hP3.r4.cell
            have f4 := hP3.r4.free
            have c6 := hP3.fc.cell
            have f6 := hP3.fc.free
            have c7 := hP3.fs.cell
            have f7 := hP3.fs.free
            have HP3 := Lib.hid hP3
            clear hP3 hf hB
            have hx1 : (cutS 32 x).1 = wCells := HWL.out.symm.trans HW.out
            have HX1 := Lib.hid hx1
            clear hx1
            cases N with
            | none =>
              have HS := Lib.hid (step_bad (p := p) (x := x) (.inl HX1.out) (by rw [← HRL.out]; exact hN.out))
              gi_wp2_with (fail)
              exact ret_fin HP.out HF.out HG.out HK.out HS.out
            | some n =>
              have hxn : Hid (numB (cutS 32 x).2.1 = some n) := Lib.hid (by rw [← HRL.out]; exact hN.out)
              by_cases hl : p.l = []
              · have hl0 : p.l.length = 0 := by rw [hl]; rfl
                have hl1 : ¬ (0 : Int) < (p.l.length : Int) := by omega
                have HL := Lib.hid hl
                clear hl
                cases hfl : p.sc with
                | true =>
                  have HS := Lib.hid (step_late (p := p) (x := x) (.inl HX1.out) hxn.out (.inr (.inl ⟨HX1.out, hfl⟩)))
                  rw [hfl] at c6
                  gi_wp2_with (fail)
                  exact ret_fin HP.out HF.out HG.out HK.out HS.out
                | false =>
                  rw [hfl] at c6
                  have HFL := Lib.hid hfl
                  clear hfl
                  by_cases hlo : n < 2
                  · have HS := Lib.hid (step_sc_range (p := p) (x := x) HX1.out hxn.out HL.out HFL.out (.inl hlo))
                    have hlo' : (n : Int) < 2 := by omega
                    clear hlo
                    gi_wp2_with (fail)
                    exact ret_fin HP.out HF.out HG.out HK.out HS.out
                  have hlo' : ¬ (n : Int) < 2 := by omega
                  by_cases hhi : 32768 < n
                  · have HS := Lib.hid (step_sc_range (p := p) (x := x) HX1.out hxn.out HL.out HFL.out (.inr hhi))
                    have hhi' : (32768 : Int) < (n : Int) := by omega
                    clear hlo hhi
                    gi_wp2_with (fail)
                    exact ret_fin HP.out HF.out HG.out HK.out HS.out
                  have hhi' : ¬ (32768 : Int) < (n : Int) := by omega
                  have HS := Lib.hid (step_sc (p := p) (x := x) HX1.out hxn.out HL.out HFL.out (by omega))
                  clear hlo hhi
                  gi_wp2_with (fail)
                  exact set_fin 0 (n0 + 1 + 1 + 1 + 1) HP.out HF.out HWS.out HG.out HPL.out HK.out HS.out (.inl ⟨rfl, rfl, rfl⟩)
              · have hl1 : (0 : Int) < (p.l.length : Int) := by
                  have := List.length_pos_iff.2 hl
                  omega
                have hl2 : 0 < p.l.length := List.length_pos_iff.2 hl
                have HS := Lib.hid (step_late (p := p) (x := x) (.inl HX1.out) hxn.out (.inl hl))
                gi_wp2_with (fail)
                exact ret_fin HP.out HF.out HG.out HK.out HS.out
          · skip
            have e1' : decide (wd.data.toList = [99, 101, 108, 108, 115]) = false := by rw [hw]; rfl
            have e2' : decide (wd.data.toList = [115, 116, 97, 99, 107]) = true := by rw [hw]; rfl
            rw [e1'] at e1 n1
            rw [e2'] at e2 n2
            obtain ⟨N, hN⟩ : ∃ N, Hid (numB rs.data.toList = N) := ⟨_, rfl⟩
            have HW := Lib.hid hw
            have hnum := fun w => callsIn_wide (n := 6) |>.2 (sc_number rs w (by have := HRS.out; omega))
            rw [hN.out] at hnum
            have HNum := Lib.hid hnum
            clear hwl hrl hA hw e1' e2' hnum
            gi_wp2_with (first | (refine ⟨trivial, ?_⟩; gi_at_call 26; refine (CallsIn.inRound l (HC2.out _)).mono ?_; rintro e w' ⟨rfl, nq, rfl⟩))
            refine ⟨trivial, ?_⟩
            gi_at_call 28
            refine (CallsIn.inRound l (HNum.out _)).mono ?_
            rintro e w' ⟨rfl, hB⟩
            have hf : Fr [] W w' := (fr_of_below (below_drewN (Below.refl _ W) nq)).then (fr_of_below hB)
            have HF := Lib.hid hf
            have hP3 := HP.out.fr0 hf
            subst hv
            have c5 := hP3.out.cell
            have f5 := hP3.out.free
            have c2 := hP3.r2.cell
            have f2 := hP3.r2.free
            have c3 := hP3.r3.cell
            have f3 := hP3.r3.free
            have c4 := hP3.r4.cell
            have f4 := hP3.r4.free
            have c6 := hP3.fc.cell
            have f6 := hP3.fc.free
            have c7 := hP3.fs.cell
            have f7 := hP3.fs.free
            have HP3 := Lib.hid hP3
            clear hP3 hf hB
            have hx1 : (cutS 32 x).1 = wStack := HWL.out.symm.trans HW.out
            have HX1 := Lib.hid hx1
            clear hx1
            cases N with
            | none =>
              have HS := Lib.hid (step_bad (p := p) (x := x) (.inr HX1.out) (by rw [← HRL.out]; exact hN.out))
              gi_wp2_with (fail)
              exact ret_fin HP.out HF.out HG.out HK.out HS.out
            | some n =>
              have hxn : Hid (numB (cutS 32 x).2.1 = some n) := Lib.hid (by rw [← HRL.out]; exact hN.out)
              by_cases hl : p.l = []
              · have hl0 : p.l.length = 0 := by rw [hl]; rfl
                have hl1 : ¬ (0 : Int) < (p.l.length : Int) := by omega
                have HL := Lib.hid hl
                clear hl
                cases hfl : p.ss with
                | true =>
                  have HS := Lib.hid (step_late (p := p) (x := x) (.inr HX1.out) hxn.out (.inr (.inr ⟨HX1.out, hfl⟩)))
                  rw [hfl] at c7
                  gi_wp2_with (fail)
                  exact ret_fin HP.out HF.out HG.out HK.out HS.out
                | false =>
                  rw [hfl] at c7
                  have HFL := Lib.hid hfl
                  clear hfl
                  by_cases hlo : n < 1
                  · have HS := Lib.hid (step_ss_range (p := p) (x := x) HX1.out hxn.out HL.out HFL.out (.inl hlo))
                    have hlo' : (n : Int) < 1 := by omega
                    clear hlo
                    gi_wp2_with (fail)
                    exact ret_fin HP.out HF.out HG.out HK.out HS.out
                  have hlo' : ¬ (n : Int) < 1 := by omega
                  by_cases hhi : 8192 < n
                  · have HS := Lib.hid (step_ss_range (p := p) (x := x) HX1.out hxn.out HL.out HFL.out (.inr hhi))
                    have hhi' : (8192 : Int) < (n : Int) := by omega
                    clear hlo hhi
                    gi_wp2_with (fail)
                    exact ret_fin HP.out HF.out HG.out HK.out HS.out
                  have hhi' : ¬ (8192 : Int) < (n : Int) := by omega
                  have HS := Lib.hid (step_ss (p := p) (x := x) HX1.out hxn.out HL.out HFL.out (by omega))
                  clear hlo hhi
                  gi_wp2_with (fail)
                  exact set_fin 1 (n0 + 1 + 1 + 1 + 1 + 1) HP.out HF.out HWS.out HG.out HPL.out HK.out HS.out (.inr ⟨rfl, rfl, rfl⟩)
              · have hl1 : (0 : Int) < (p.l.length : Int) := by
                  have := List.length_pos_iff.2 hl
                  omega
                have hl2 : 0 < p.l.length := List.length_pos_iff.2 hl
                have HS := Lib.hid (step_late (p := p) (x := x) (.inr HX1.out) hxn.out (.inl hl))
                gi_wp2_with (fail)
                exact ret_fin HP.out HF.out HG.out HK.out HS.out
        · have a1 : decide (wd.data.toList = [99, 101, 108, 108, 115]) = false := decide_eq_false (fun h => hA (.inl h))
          have a2 : decide (wd.data.toList = [115, 116, 97, 99, 107]) = false := decide_eq_false (fun h => hA (.inr h))
          rw [a1] at e1 n1
          rw [a2] at e2 n2
          have hs : stepS p x = match actS wd.data.toList rs.data.toList mr with | none => .inl 5 | some a => .inr { p with l := p.l ++ [a] } := by
            unfold stepS
            rw [if_neg (by rw [← HWL.out]; exact hA), ← HWL.out, ← HRL.out, hmr.out]
            cases actS wd.data.toList rs.data.toList mr <;> rfl
          obtain ⟨T2, hT2⟩ : ∃ T2, Hid (actS wd.data.toList rs.data.toList mr = T2) := ⟨_, rfl⟩
          rw [hT2.out] at hs
          have HS := Lib.hid hs
          clear hwl hrl hs hA a1 a2
          have hact0 : ∀ w, Env B w → CallsIn Fence.wide 6 Tryz.prog 27 #[.string wd, .string rs, .bool mr] w _ := fun w hE => callsIn_wide.2 (sc_act wd rs mr B w hE (by have := HRS.out; omega))
          rw [hT2.out] at hact0
          have HAct := Lib.hid hact0
          clear hact0
          gi_wp2_with (first | (refine ⟨trivial, ?_⟩; gi_at_call 26; refine (CallsIn.inRound l (HC2.out _)).mono ?_; rintro e w' ⟨rfl, nq, rfl⟩))
          have hbe : Below w.heap.size w (W.drewN nq) := below_drewN HP.out.below nq
          refine ⟨trivial, ?_⟩
          gi_at_call 27
          refine (CallsIn.inRound l (HAct.out _ (HE.out.on (hbe.mono hbW)))).mono ?_
          rintro e w' ⟨a, ha, rfl, hB⟩
          have hf : Fr [] W w' := (fr_of_below (below_drewN (Below.refl _ W) nq)).then (fr_of_below hB)
          have HF := Lib.hid hf
          have hP2 := HP.out.fr0 hf
          obtain ⟨w4, hw4⟩ : ∃ w4, Hid (w4 = w'.alloc (.cells #[.int .i64 (a.kind : Nat), .int .i64 (a.n : Nat), .string (bs a.s)] 55)) := ⟨_, rfl⟩
          have hfa : Fr [] W (w'.alloc (.cells #[.int .i64 (a.kind : Nat), .int .i64 (a.n : Nat), .string (bs a.s)] 55)) := hf.then (fr_of_below ((Below.refl _ w').alloc (Nat.le_refl _) _))
          have HFA := Lib.hid hfa
          have hP3 := HP.out.fr0 hfa
          subst hv
          have c5 := hP3.out.cell
          have f5 := hP3.out.free
          have c2 := hP3.r2.cell
          have f2 := hP3.r2.free
          have c3 := hP3.r3.cell
          have f3 := hP3.r3.free
          have c4 := hP3.r4.cell
          have f4 := hP3.r4.free
          have HP3 := Lib.hid hP3
          have HP2 := Lib.hid hP2
          clear hP3 hP2 hf hfa hB hbe
          cases T2 with
          | none =>
            gi_wp2_with (fail)
            exact ret_fin HP.out HFA.out HG.out HK.out HS.out
          | some b =>
            obtain ⟨j0, hj, hy0, hy1, hy2⟩ := info_parts infoAct
            have hfb : Fr [] W ((w'.alloc (.cells #[.int .i64 (a.kind : Nat), .int .i64 (a.n : Nat), .string (bs a.s)] 55)).alloc (.cells #[.int .i64 (a.kind : Nat), .int .i64 (a.n : Nat), .string (bs a.s)] 55)) := HFA.out.then (fr_of_below ((Below.refl _ _).alloc (Nat.le_refl _) _))
            have HFB := Lib.hid hfb
            have HPB := Lib.hid (HP.out.fr0 hfb)
            clear hfb
            have hab : a = b := ha.out b rfl
            subst hab
            have hlen : p.l.length ≤ 1000 := by have h1 := HPL.out; have h2 := HPR.out; omega
            gi_wp2_with (gi_at_builtin; go_loud (refine wpListIn_app _ rfl (.tmp 57) (.tmp 59) 23 rfl 55 j0 (.agg #[.int .i64 0, .int .i64 0, .string ⟨#[]⟩]) 3 32 ulAct hj hy0 hy1 hy2 rfl _ p.l.length (acts p.l) rfl ?hown _ 1 1 (acCells a) rfl rfl ?hcell (acCells_one a) (by unfold maxLen; omega) (by omega) ?go))
            case hown => exact HPB.out.sl
            case hcell =>
              intro j u hu
              have hb : Blk ((w'.alloc (.cells #[.int .i64 (a.kind : Nat), .int .i64 (a.n : Nat), .string (bs a.s)] 55)).alloc (.cells #[.int .i64 (a.kind : Nat), .int .i64 (a.n : Nat), .string (bs a.s)] 55)) (w'.heap.size + 1) (acCells a) 55 := Blk.new' (by simp)
              rw [add_at, Nat.zero_add]
              exact (hb.cell j).trans hu
            case go =>
              intro ad' cap' w4 hs4 hU4
              have h2 := HPB.out
              have hh := hU4.fr.keep h2.out (h2.sl.ne h2.out (by decide))
              have HS4 := Lib.hid hs4
              have HU4 := Lib.hid hU4
              have d5 := hh.cell
              have g5 := hh.free
              have HH := Lib.hid hh
              clear hs4 hU4 hh h2 c5 f5 c2 f2 c3 f3 c4 f4
              gi_wp2_with (fail)
              exact act_fin HP.out HFB.out HWS.out HG.out HPL.out HK.out HS.out HU4.out HS4.out
      case done =>
        rintro D W hD ⟨p, v, hg, hl, hP⟩ hK
        rw [numL_snd] at hg
        obtain rfl : T = .inr p := hTT.out.symm.trans hg
        obtain ⟨ad, cap, hv, _⟩ := hP.sl.form
        subst hv
        have c5 := hP.out.cell
        have c2 := hP.r2.cell
        have f2 := hP.r2.free
        have c3 := hP.r3.cell
        have f3 := hP.r3.free
        have c4 := hP.r4.cell
        have f4 := hP.r4.free
        have HP := Lib.hid hP
        have HK := Lib.hid hK
        have HD := Lib.hid hD
        clear hP hK hg hl hset hdrew hbt hPI HPI HT HC HLn  hD hwn
        gi_wp2
        have d1 : D ≠ n0 ∧ D ≠ n0 + 1 ∧ D ≠ n0 + 1 + 1 := by have h1 := HD.out; have h2 := HW0.out; omega
        have hK2 := ((((KeepsOthers.setCell W ⟨n0, 0, none⟩ (.int .i64 (p.cells : Nat))).trans (KeepsOthers.setCell _ ⟨n0, 1, none⟩ (.int .i64 (p.stack : Nat)))).trans (KeepsOthers.setCell _ ⟨n0, 2, none⟩ (.slice ad p.l.length cap))).trans (KeepsOthers.setCell _ ⟨n0 + 1, 0, none⟩ (.int .i64 0))).trans (KeepsOthers.setCell _ ⟨n0 + 1 + 1, 0, none⟩ (.int .i64 0)) |>.same D _ HK.out rfl
        refine ⟨by simp, .inl ⟨_, _, rfl, run_takeDeferred hK2, ?_⟩⟩
        have hgr := grownBy_putObj' (((((W.setCell ⟨n0, 0, none⟩ (.int .i64 (p.cells : Nat))).setCell ⟨n0, 1, none⟩ (.int .i64 (p.stack : Nat))).setCell ⟨n0, 2, none⟩ (.slice ad p.l.length cap)).setCell ⟨n0 + 1, 0, none⟩ (.int .i64 0)).setCell ⟨n0 + 1 + 1, 0, none⟩ (.int .i64 0)) D (.deferred none)
        have hr0 : ∀ r, some D = some r → ∃ o : Obj, (((((W.setCell ⟨n0, 0, none⟩ (.int .i64 (p.cells : Nat))).setCell ⟨n0, 1, none⟩ (.int .i64 (p.stack : Nat))).setCell ⟨n0, 2, none⟩ (.slice ad p.l.length cap)).setCell ⟨n0 + 1, 0, none⟩ (.int .i64 0)).setCell ⟨n0 + 1 + 1, 0, none⟩ (.int .i64 0)).heap[r]? = some o ∧ o.isCells = false := fun r e => by cases e; exact ⟨_, hK2, rfl⟩
        have hP := HP.out
        have o1 := hP.sl.ne hP.r2 (by decide)
        have o2 := hP.sl.ne hP.r3 (by decide)
        have o3 := hP.sl.ne hP.r4 (by decide)
        refine ⟨_, ret_script (a := n0) (b := n0 + 1) (c := n0 + 1 + 1) rfl rfl rfl rfl (blk_grown (((((hP.r2.set 0 _).set 1 _).set 2 _).other (by omega) _ _).other (by omega) _ _) hgr hr0) (blk_grown (((((hP.r3.other (by omega) _ _).other (by omega) _ _).other (by omega) _ _).set 0 _).other (by omega) _ _) hgr hr0) (blk_grown (((((hP.r4.other (by omega) _ _).other (by omega) _ _).other (by omega) _ _).other (by omega) _ _).set 0 _) hgr hr0), ⟨_, rfl, sl_grown (((((hP.sl.set o1 _ _).set o1 _ _).set o1 _ _).set o2 _ _).set o3 _ _) hgr hr0, hP.nw⟩, ?_⟩
        have hw : w.heap.size ≤ n0 := by rw [HN0.out]; exact Nat.le_refl _
        have k5 := ((((hP.below.setCell (p := ⟨n0, 0, none⟩) hw (.int .i64 (p.cells : Nat))).setCell (p := ⟨n0, 1, none⟩) hw (.int .i64 (p.stack : Nat))).setCell (p := ⟨n0, 2, none⟩) hw (.slice ad p.l.length cap)).setCell (p := ⟨n0 + 1, 0, none⟩) (Nat.le_succ_of_le hw) (.int .i64 0)).setCell (p := ⟨n0 + 1 + 1, 0, none⟩) (Nat.le_succ_of_le (Nat.le_succ_of_le hw)) (.int .i64 0)
        exact k5.grown hgr k5.size (fun k e => by cases e; have h1 := HD.out; have h2 := HW0.out; have h3 := HN0.out; omega)
      case stop =>
        rintro D c pre W hD hpre ⟨rfl, er, k, hg, hX⟩ hK
        have hall : goS spNew 1 (linesG [] s.data.toList) = .inl (er, k) := by
          obtain ⟨t, ht⟩ := numL_prefix hpre
          rw [← ht, goS_app, hg]
        obtain rfl : T = .inl (er, k) := hTT.out.symm.trans hall
        have HD := Lib.hid hD
        have HX := Lib.hid hX
        have HK := Lib.hid hK
        clear hset hdrew hbt hPI HPI HT HC HLn  hD hX hK hwn hg hall hpre
        gi_wp2
        refine ⟨by simp, .inl ⟨_, _, rfl, run_takeDeferred HK.out, ?_⟩⟩
        have hgr := grownBy_putObj' W D (.deferred none)
        have hr0 : ∀ r, some D = some r → ∃ o : Obj, W.heap[r]? = some o ∧ o.isCells = false := fun r e => by cases e; exact ⟨_, HK.out, rfl⟩
        exact ⟨_, ret_script (a := n0) (b := n0 + 1) (c := n0 + 1 + 1) rfl rfl rfl rfl (blk_grown HX.out.r2 hgr hr0) (blk_grown HX.out.r3 hgr hr0) (blk_grown HX.out.r4 hgr hr0), rfl, HX.out.below.grown hgr HX.out.below.size (fun k e => by cases e; have h1 := HD.out; have h2 := HW0.out; have h3 := HN0.out; omega)⟩

end Go.Proofs.YtnmpckdggddpoaaGreatDoor
