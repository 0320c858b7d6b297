/- The walks of package arena: Blocks. -/
import Derived.Test.YtcfmemnokecgbaaAo
namespace Go.Proofs.Ytcfmemnokecgbaa
open Go.RowKit

def Ar.words (A : Ar) : List Int := (starts A.base A.L).map fun (s : Nat) => wPtr s

theorem words_len (A : Ar) : A.words.length = A.L.length := by simp [Ar.words, starts_length]
theorem words_get (A : Ar) {i : Nat} (h : i < A.L.length) : A.words[i]? = some (wPtr (adr A.base A.L i : Nat)) := by simp [Ar.words, starts_get _ _ _ h]

set_option maxRecDepth 100000 in
set_option maxHeartbeats 800000 in
theorem arena_Blocks {w : World} {a : Nat} {A : Ar} {F : List Nat} (h : IsAr w a A F) (hok : A.ok) :
    Calls Try.prog 18 #[.pointer (some ⟨a, 0, none⟩)] w fun e w' => ∃ v, e = .returned v ∧ Sl w' v 28 1 A.L.length (cels A.words) ∧ Upd [] (own v) w w' := by
  obtain ⟨hb, cb, sv, cells, rfl, p⟩ := h
  obtain ⟨i0, hi, hz0, hz1, hz2⟩ := info_parts Try.infoWord
  have hcnt : A.L.length ≤ 32768 := by have := flat_count A.L; have := hok.2.2.1; have := hok.2.1; omega
  have Hp := Lib.hid p
  rcases Nat.eq_zero_or_pos A.L.length with h0 | h0
  · obtain ⟨ad, cap, hsv, _⟩ := p.st.form
    have H0 := Lib.hid h0
    rw [h0] at hsv
    subst hsv
    have ca := p.ba.cell
    clear p hok h0
    go_enter Try.func18, Try.ntmps18
    go_wp2
    go_loopw [3, 11] (fun v i wr => v = .slice none 0 0 ∧ i = .int .i64 0 ∧ wr = w) (fun _ _ _ => 0)
    case atStart => exact ⟨rfl, rfl, rfl⟩
    case round =>
      obtain ⟨rfl, rfl, rfl⟩ := hrel
      go_wp2
      go_ret
      have hn : A.L = [] := List.eq_nil_of_length_eq_zero H0.out
      exact ⟨_, rfl, by rw [hn]; simp [Ar.words, hn, starts, cels]; exact Sl.nil _ _ _, by simpa [own, Value.ownBlock] using Upd.refl [] _⟩
  · obtain ⟨g, off, cap, hsv, hcap, how, hcell⟩ := p.st.at1 h0
    subst hsv
    have hga : a ≠ g := fun e => (p.st.ne p.ba (by decide)) (by rw [how, e]; simp)
    have ca := p.ba.cell
    have Hc := Lib.hid hcell
    have hal := p.ba.lt
    have hgl := p.st.lt g (by rw [how]; simp)
    clear p hok hcell how
    go_enter Try.func18, Try.ntmps18
    go_wp2
    go_loopw [3, 11] (fun v i wr => ∃ k : Nat, i = .int .i64 k ∧ k ≤ A.L.length ∧ Sl wr v 28 1 k (cels (A.words.take k)) ∧ Upd [] (own v) w wr) (fun _ i _ => A.L.length - (intOf i).toNat)
    case atStart => exact ⟨0, rfl, by omega, by simp [cels]; exact Sl.nil _ _ _, by simpa [own, Value.ownBlock] using Upd.refl [] w⟩
    case round =>
      obtain ⟨k, rfl, hk, hs, hU⟩ := hrel
      have HS := Lib.hid hs
      have HU := Lib.hid hU
      clear hs hU
      by_cases hlt : k < A.L.length
      · have hc1 := Hc.out k (.int .i64 (adr A.base A.L k : Nat)) (by simp [nums, starts_get _ _ _ hlt])
        rw [← World.cell?_of_block (HU.out.fr.block g hgl (by simp))] at hc1
        obtain ⟨s, hse⟩ : ∃ s, adr A.base A.L k = s := ⟨_, rfl⟩
        rw [hse] at hc1
        have HE := Lib.hid hse
        clear hse
        go_wp2_with (first | (go_at_call 28; with_reducible refine Calls.mono (word_Ptr _ _) ?_; rintro e w' ⟨rfl, rfl⟩) | (at_builtin; go_loud (refine wpList_app _ rfl (.tmp 15) (.tmp 18) 44 rfl 28 i0 (.int .u64 0) 1 8 Try.ulWords hi hz0 hz1 hz2 rfl _ k (cels (A.words.take k)) rfl ?hown _ 1 1 [.int .u64 (wPtr s)] rfl rfl (by exact cell_new1 (by simp)) (by exact one_cell1 rfl) (by unfold maxLen; omega) (by omega) ?go)))
        case hown => exact HS.out.alloc _
        case go =>
          intro ad' cap' w2 hs2 hU2
          have HS2 := Lib.hid hs2
          have HU2 := Lib.hid hU2
          clear hs2 hU2
          go_wp2
          go_roundw
          case rel =>
            refine ⟨k + 1, by go_num, by omega, ?_, ?_⟩
            · have e : A.words.take (k + 1) = A.words.take k ++ [wPtr s] := by
                rw [List.take_add_one, words_get A hlt, HE.out]; rfl
              rw [e]
              have := HS2.out
              simpa [cels] using this
            · exact (HU.out.alloc _).trans HU2.out
          case measure => simp [intOf]; omega
      · have hks : k = A.L.length := by omega
        have HK := Lib.hid hks
        have hlt' : ¬ ((k : Int) < (A.L.length : Int)) := by omega
        clear hks hlt
        go_wp2
        go_ret
        refine ⟨u3, rfl, ?_, HU.out⟩
        have := HS.out
        rw [HK.out, List.take_of_length_le (by rw [words_len]; omega)] at this
        exact this

end Go.Proofs.Ytcfmemnokecgbaa
