/- The walks of package arena: what only reads. -/
import Derived.Test.YtcfmemnokecgbaaAw
namespace Go.Proofs.Ytcfmemnokecgbaa
open Go.RowKit

theorem qsame {P : Program} {f : FuncId} {args : Array Value} {w : World} {n : Nat} {v : Value}
    (h : Calls P f args (w.drewN n) fun e w' => e = .returned v ∧ w.drewN n = w') : Calls P f args (w.drewN n) fun e w'' => e = .returned v ∧ ∃ m, w'' = w.drewN m :=
  h.mono fun _ _ ⟨he, hm⟩ => ⟨he, n, hm.symm⟩

theorem IsAr.drewN {w : World} {a : Nat} {A : Ar} {F : List Nat} (h : IsAr w a A F) (n : Nat) : IsAr (w.drewN n) a A F := h.go fun _ _ => rfl
theorem IsAr.drew {w : World} {a : Nat} {A : Ar} {F : List Nat} (h : IsAr w a A F) : IsAr w.drew a A F := h.go fun _ _ => rfl

def Ar.findAt (A : Ar) (x : Int) : Int × Int := match A.find x with
  | some r => ((adr A.base A.L r.1 : Nat), (r.2 : Nat))
  | none => (-1, 0)

theorem flat_count (L : List Bk) : L.length ≤ (flat L).length := by
  induction L with
  | nil => simp
  | cons b L ih => simp [flat]; omega

theorem cell_at {A : Ar} {cells : List Int} (fl : (cells.drop A.base).take (flat A.L).length = flat A.L) (k : Nat) (v : Int) (h : (flat A.L)[k]? = some v) : cells[A.base + k]? = some v := by
  rw [← fl, List.getElem?_take] at h
  split at h
  · simpa using h
  · cases h

theorem mem_of_at {l : List Int} {k : Nat} {v : Int} (h : l[k]? = some v) : v ∈ l := List.mem_of_getElem? h


theorem findAt_no {A : Ar} {x : Int} (h : A.find x = none) : A.findAt x = (-1, 0) := by unfold Ar.findAt; rw [h]
theorem findAt_yes {A : Ar} {x : Int} {i d : Nat} (h : A.find x = some (i, d)) : A.findAt x = (((adr A.base A.L i : Nat) : Int), ((d : Nat) : Int)) := by unfold Ar.findAt; rw [h]

theorem find_int {A : Ar} {x : Int} (h : wIsInt x = true) : A.find x = none := by unfold Ar.find; simp [h]
theorem find_zero {A : Ar} {x : Int} (h : wAddr x = 0) : A.find x = none := by unfold Ar.find; simp [h]
theorem find_look {A : Ar} {x : Int} {y : Nat} (h1 : wIsInt x = false) (hy : wAddr x = y) (h2 : ¬ wAddr x = 0) : A.find x = look A.base A.L y := by
  unfold Ar.find
  rw [hy] at h2
  have h3 : ((y : Int) == 0) = false := by simpa using h2
  rw [h1, hy, h3]
  simp

theorem find_first {w : World} {a : Nat} {A : Ar} {F : List Nat} (h : IsAr w a A F) (x : Int) (hx : U64 x) (h1 : wIsInt x = true ∨ wAddr x = 0) :
    Calls Try.prog 29 #[.pointer (some ⟨a, 0, none⟩), .int .u64 x] w fun e w' => e = .returned (.tuple #[.int .i64 (A.findAt x).1, .int .i64 (A.findAt x).2]) ∧ ∃ n, w' = w.drewN n := by
  obtain ⟨hb, cb, sv, cells, rfl, p⟩ := h
  have ca := p.ba.cell
  rcases h1 with h1 | h2
  · have H := Lib.hid (findAt_no (find_int (A := A) h1))
    rw [H.out]
    go_enter Try.func29, Try.ntmps29
    go_wp2_with (first | (go_at_call 41; with_reducible refine Calls.mono (word_Addr _ hx _) ?_; rintro e w' ⟨rfl, rfl⟩) | (go_at_call 42; with_reducible refine Calls.mono (word_IsInt _ hx _) ?_; rintro e w' ⟨rfl, rfl⟩))
    go_ret2
    exact ⟨rfl, 0, rfl⟩
  · have H := Lib.hid (findAt_no (find_zero (A := A) h2))
    rw [H.out]
    by_cases h1 : wIsInt x = true
    · go_enter Try.func29, Try.ntmps29
      go_wp2_with (first | (go_at_call 41; with_reducible refine Calls.mono (word_Addr _ hx _) ?_; rintro e w' ⟨rfl, rfl⟩) | (go_at_call 42; with_reducible refine Calls.mono (word_IsInt _ hx _) ?_; rintro e w' ⟨rfl, rfl⟩))
      go_ret2
      exact ⟨rfl, 0, rfl⟩
    · go_enter Try.func29, Try.ntmps29
      go_wp2_with (first | (go_at_call 41; with_reducible refine Calls.mono (word_Addr _ hx _) ?_; rintro e w' ⟨rfl, rfl⟩) | (go_at_call 42; with_reducible refine Calls.mono (word_IsInt _ hx _) ?_; rintro e w' ⟨rfl, rfl⟩))
      go_ret2
      exact ⟨rfl, 0, rfl⟩

set_option maxHeartbeats 800000 in
theorem find_rest {w : World} {a : Nat} {A : Ar} {F : List Nat} (h : IsAr w a A F) (hok : A.ok) (x : Int) (hx : U64 x) (y : Nat) (h1 : wIsInt x = false) (hy : wAddr x = y) (hy0 : 0 < y) (hym : y ≤ 2147483647) :
    Calls Try.prog 29 #[.pointer (some ⟨a, 0, none⟩), .int .u64 x] w fun e w' => e = .returned (.tuple #[.int .i64 (A.findAt x).1, .int .i64 (A.findAt x).2]) ∧ ∃ n, w' = w.drewN n := by
  obtain ⟨hb, cb, sv, cells, rfl, p⟩ := h
  have ca := p.ba.cell
  have ch := p.bh.cell
  have cc := p.bc.cell
  have hL : A.L.length ≤ 100000 := by have := flat_count A.L; have := hok.2.2.1; have := hok.2.1; omega
  have HB := Lib.hid (bs_starts p.st hL y)
  have Hf := Lib.hid (find_look (A := A) h1 hy (by omega))
  have Hy := Lib.hid hy
  have Hp := Lib.hid p
  have Hok := Lib.hid hok
  have hb0 : ((y : Int) == 0) = false := by simp; omega
  clear hy p hok
  rcases Nat.eq_zero_or_pos A.L.length with h0 | h0
  · have hn : A.L = [] := List.eq_nil_of_length_eq_zero h0
    have H := Lib.hid (findAt_no (A := A) (x := x) (by rw [Hf.out, hn]; rfl))
    rw [H.out]
    clear hn
    go_enter Try.func29, Try.ntmps29
    go_wp2_with (first | (go_at_call 41; with_reducible refine Calls.mono (word_Addr _ hx _) ?_; rintro e w' ⟨rfl, rfl⟩; rw [Hy.out]) | (go_at_call 42; with_reducible refine Calls.mono (word_IsInt _ hx _) ?_; rintro e w' ⟨rfl, rfl⟩))
    refine Calls.mono HB.out ?_
    rintro e w' ⟨i, f, rfl, hi, HS, rfl⟩
    obtain rfl : i = 0 := by omega
    cases f with
    | true => have h5 := HS.out.1 rfl; have := (look_lt h5).1; omega
    | false =>
      go_wp2
      go_ret2
      exact ⟨rfl, 0, rfl⟩
  · obtain ⟨g, off, cap, hsv, hcap, _, hcell⟩ := Hp.out.st.at1 h0
    subst hsv
    go_enter Try.func29, Try.ntmps29
    go_wp2_with (first | (go_at_call 41; with_reducible refine Calls.mono (word_Addr _ hx _) ?_; rintro e w' ⟨rfl, rfl⟩; rw [Hy.out]) | (go_at_call 42; with_reducible refine Calls.mono (word_IsInt _ hx _) ?_; rintro e w' ⟨rfl, rfl⟩))
    refine Calls.mono HB.out ?_
    rintro e w' ⟨i, f, rfl, hi, HS, rfl⟩
    cases f with
    | true =>
      have h5 := HS.out.1 rfl
      have h6 := (look_lt h5).2
      have H := Lib.hid (findAt_yes (A := A) (x := x) (by rw [Hf.out]; exact h5))
      have h7 : adr A.base A.L i = y := by omega
      have H7 := Lib.hid h7
      clear h5 h6 h7
      go_wp2
      go_ret2
      exact ⟨by rw [H.out, H7.out]; rfl, 0, rfl⟩
    | false =>
      by_cases hi0 : i = 0
      · subst hi0
        have H := Lib.hid (findAt_no (A := A) (x := x) (by rw [Hf.out]; exact HS.out.2.1 rfl rfl))
        go_wp2
        go_ret2
        exact ⟨by rw [H.out]; rfl, 0, rfl⟩
      · obtain ⟨j, rfl⟩ : ∃ j, i = j + 1 := ⟨i - 1, by omega⟩
        obtain ⟨b, hb⟩ : ∃ b, A.L[j]? = some b := ⟨_, List.getElem?_eq_getElem (by omega)⟩
        obtain ⟨h3, h4⟩ := HS.out.2.2 rfl j b rfl hb
        have hbk : b.ok := Hok.out.2.2.2 b (List.mem_of_getElem? hb)
        have hlo := adr_lo A.base A.L j (by omega)
        have hhi := adr_hi A.base A.L j b hb
        have hbl := A.base_le
        have hfl := Hok.out.2.2.1
        have hn := Hok.out.2.1
        have hhd := flat_head A.base A.L j b hb
        have hst := starts_get A.base A.L j (by omega)
        have hfd := flat_field A.base A.L j (y - adr A.base A.L j - 1) b hb
        have hfind := Hf.out
        rw [h4] at hfind
        clear h4
        generalize hse : adr A.base A.L j = s at *
        have HSE := Lib.hid hse
        clear hse
        have hcs := hcell j (.int .i64 (s : Nat)) (by simp [nums, hst])
        have hch : (cels cells)[s - 1]? = some (.int .u64 (wHead b.tag b.fs.length)) := by
          have := cell_at Hp.out.fl _ _ hhd
          rw [show A.base + (s - 1 - A.base) = s - 1 by omega] at this
          simp [cels, this]
        have hbt := hbk.1
        have hbl2 := hbk.2.1
        have hsz := wSize_head (t := b.tag) (s := b.fs.length) (by omega) (by omega) (by omega) (by omega)
        have htg := wTag_head (t := b.tag) (s := b.fs.length) (by omega) (by omega) (by omega) (by omega)
        have hwu := wHead_u b.tag b.fs.length
        generalize wHead b.tag b.fs.length = hw at *
        by_cases t1 : y - s < b.fs.length
        · have t1' : ((y : Int) - (s : Int) < (b.fs.length : Int)) := by omega
          by_cases t2 : b.tag = 200
          · have t2' : ((b.tag : Int) == 200) = true := by simp [t2]
            obtain ⟨v, hv⟩ : ∃ v, b.fs[y - s - 1]? = some v := ⟨_, List.getElem?_eq_getElem (by omega)⟩
            have hcv : (cels cells)[y - 1]? = some (.int .u64 v) := by
              have := hfd (by omega)
              rw [hv] at this
              have := cell_at Hp.out.fl _ _ this
              rw [show A.base + (s + (y - s - 1) - A.base) = y - 1 by omega] at this
              simp [cels, this]
            have hd : wHead 201 ((y : Int) - (s : Int)) = wHead 201 ((y - s : Nat) : Int) := by congr 1; omega
            by_cases t3 : v = wHead 201 ((y : Int) - (s : Int))
            · have H := Lib.hid (findAt_yes (A := A) (x := x) (i := j) (d := y - s) (by
                rw [hfind]
                have : b.inner (y - s) = true := by
                  simp only [Bk.inner, List.getD, hv, Option.getD_some, ← hd, ← t3]
                  simp [t1, t2]
                rw [this]; rfl))
              have t3' : (v == wHead 201 ((y : Int) - (s : Int))) = true := by simpa using t3
              have hys : (((y - s : Nat) : Int)) = (y : Int) - (s : Int) := by omega
              have HYS := Lib.hid hys
              clear hfind hst hhd hfd hbk hb hd t3 t2 hv hys
              go_wp2
              go_quiet ((first | (go_at_call 30; with_reducible exact qsame (word_Size _ hwu _)) | (go_at_call 31; with_reducible exact qsame (word_Tag _ hwu _)) | (go_at_call 26; with_reducible exact qsame (word_Head _ _ _))))
              go_wp2
              go_ret2
              exact ⟨by rw [H.out, HSE.out, HYS.out]; rfl, nq, rfl⟩
            · have H := Lib.hid (findAt_no (A := A) (x := x) (by
                rw [hfind]
                have : b.inner (y - s) = false := by
                  have t4 : (v == wHead 201 ((y - s : Nat) : Int)) = false := by rw [← hd]; simpa using t3
                  simp only [Bk.inner, List.getD, hv, Option.getD_some, t4, Bool.and_false]
                rw [this]; rfl))
              have t3' : (v == wHead 201 ((y : Int) - (s : Int))) = false := by simpa using t3
              clear hfind hst hhd hfd hbk hb hd t3 t2 hv
              go_wp2
              go_quiet ((first | (go_at_call 30; with_reducible exact qsame (word_Size _ hwu _)) | (go_at_call 31; with_reducible exact qsame (word_Tag _ hwu _)) | (go_at_call 26; with_reducible exact qsame (word_Head _ _ _))))
              go_wp2
              go_ret2
              exact ⟨by rw [H.out]; rfl, nq, rfl⟩
          · have t2' : ((b.tag : Int) == 200) = false := by simp; omega
            have H := Lib.hid (findAt_no (A := A) (x := x) (by
              rw [hfind]
              have : b.inner (y - s) = false := by simp [Bk.inner, t2]
              rw [this]; rfl))
            clear hfind hst hhd hfd hbk hb t2
            go_wp2
            go_quiet ((first | (go_at_call 30; with_reducible exact qsame (word_Size _ hwu _)) | (go_at_call 31; with_reducible exact qsame (word_Tag _ hwu _)) | (go_at_call 26; with_reducible exact qsame (word_Head _ _ _))))
            go_wp2
            go_ret2
            exact ⟨by rw [H.out]; rfl, nq, rfl⟩
        · have H := Lib.hid (findAt_no (A := A) (x := x) (by
            rw [hfind]
            have : b.inner (y - s) = false := by simp [Bk.inner, t1]
            rw [this]; rfl))
          clear hfind hst hhd hfd hbk hb
          have t1' : decide ((y : Int) - (s : Int) < (b.fs.length : Int)) = false := by simp; omega
          clear t1
          go_wp2
          go_quiet ((first | (go_at_call 30; with_reducible exact qsame (word_Size _ hwu _)) | (go_at_call 31; with_reducible exact qsame (word_Tag _ hwu _)) | (go_at_call 26; with_reducible exact qsame (word_Head _ _ _))))
          go_wp2
          go_ret2
          exact ⟨by rw [H.out]; rfl, nq, rfl⟩

theorem arena_find {w : World} {a : Nat} {A : Ar} {F : List Nat} (h : IsAr w a A F) (hok : A.ok) (x : Int) (hx : U64 x) :
    Calls Try.prog 29 #[.pointer (some ⟨a, 0, none⟩), .int .u64 x] w fun e w' => e = .returned (.tuple #[.int .i64 (A.findAt x).1, .int .i64 (A.findAt x).2]) ∧ ∃ n, w' = w.drewN n := by
  have hq := wAddr_b hx
  by_cases h1 : wIsInt x = true ∨ wAddr x = 0
  · exact find_first h x hx h1
  · obtain ⟨y, hy⟩ := Int.eq_ofNat_of_zero_le hq.1
    exact find_rest h hok x hx y (by simpa using fun h => h1 (.inl h)) hy (by omega) (by omega)

end Go.Proofs.Ytcfmemnokecgbaa
