/- The walks of package arena, reading part. -/
import Derived.Test.YtcfmemnokecgbaaRows
import Derived.Test.YtcfmemnokecgbaaHp
import Derived.Test.YtcfmemnokecgbaaAr
import Derived.Test.YtcfmemnokecgbaaWd
import Derived.Test.YtcfmemnokecgbaaBs
import Derived.Deep.OwnRows
namespace Go.Proofs.Ytcfmemnokecgbaa
open Go.RowKit

def cels (l : List Int) : List Value := l.map (Value.int .u64)
def nums (l : List Nat) : List Value := l.map fun (s : Nat) => Value.int .i64 s

structure IsArP (w : World) (a : Nat) (A : Ar) (hb cb : Nat) (sv : Value) (cells : List Int) : Prop where
  ba : Blk w a [.pointer (some ⟨hb, 0, none⟩), sv] 37
  bh : Blk w hb [.slice (some ⟨cb, 0, none⟩) (2 * A.n) (2 * A.n), .int .i64 A.n, .int .i64 A.base, .int .i64 A.top] 59
  bc : Blk w cb (cels cells) 28
  len : cells.length = 2 * A.n
  u : ∀ x ∈ cells, U64 x
  fl : (cells.drop A.base).take (flat A.L).length = flat A.L
  st : Sl w sv 3 1 A.L.length (nums (starts A.base A.L))

/-- At block a there is an arena that is A; it is made of the blocks F. -/
def IsAr (w : World) (a : Nat) (A : Ar) (F : List Nat) : Prop :=
  ∃ hb cb sv cells, F = a :: hb :: cb :: own sv ∧ IsArP w a A hb cb sv cells

theorem IsArP.eq {w w' : World} {a : Nat} {A : Ar} {hb cb : Nat} {sv : Value} {cells : List Int} (p : IsArP w a A hb cb sv cells) (hk : w'.heap = w.heap) : IsArP w' a A hb cb sv cells :=
  ⟨p.ba.go (by rw [hk]), p.bh.go (by rw [hk]), p.bc.go (by rw [hk]), p.len, p.u, p.fl, p.st.go (fun _ _ => by rw [hk])⟩
theorem IsAr.go {w w' : World} {a : Nat} {A : Ar} {F : List Nat} (h : IsAr w a A F) (hk : ∀ k ∈ F, w'.heap[k]? = w.heap[k]?) : IsAr w' a A F := by
  obtain ⟨hb, cb, sv, cells, rfl, p⟩ := h
  exact ⟨hb, cb, sv, cells, rfl, p.ba.go (hk _ (by simp)), p.bh.go (hk _ (by simp)), p.bc.go (hk _ (by simp)), p.len, p.u, p.fl, p.st.go (fun k h => hk k (by simp [h]))⟩
theorem IsAr.lt {w : World} {a : Nat} {A : Ar} {F : List Nat} (h : IsAr w a A F) : ∀ k ∈ F, k < w.heap.size := by
  obtain ⟨hb, cb, sv, cells, rfl, p⟩ := h
  intro k hk
  simp only [List.mem_cons] at hk
  rcases hk with rfl | rfl | rfl | hk
  · exact p.ba.lt
  · exact p.bh.lt
  · exact p.bc.lt
  · exact p.st.lt k hk
theorem IsAr.mem {w : World} {a : Nat} {A : Ar} {F : List Nat} (h : IsAr w a A F) : a ∈ F := by
  obtain ⟨hb, cb, sv, cells, rfl, p⟩ := h; simp

theorem Try.infoWord : (Try.prog.info? 28).map (fun i => (i.zero, i.size, i.bytes)) = some (some (.int .u64 0), 1, 8) := by kernel_rfl
theorem Try.infoInt : (Try.prog.info? 3).map (fun i => (i.zero, i.size, i.bytes)) = some (some (.int .i64 0), 1, 8) := by kernel_rfl
theorem Try.ulWords : Try.prog.underlying 44 = some (.slice 28) := by kernel_rfl
theorem Try.ulInts : Try.prog.underlying 35 = some (.slice 3) := by kernel_rfl

theorem arena_New_no (n : Int) (h : n < 2 ∨ 32768 < n) (w : World) :
    Calls Try.prog 9 #[.int .i64 n] w fun e w' => e = .returned (.pointer none) ∧ w = w' := by
  by_cases h1 : n < 2
  · clear h
    go_enter Try.func9, Try.ntmps9
    go_wp2
    go_ret
    exact ⟨rfl, rfl⟩
  · have h2 : 32768 < n := by omega
    clear h
    go_enter Try.func9, Try.ntmps9
    go_wp2
    go_ret
    exact ⟨rfl, rfl⟩

theorem madeCells_words (n : Nat) : (madeCells #[Value.int .u64 0] n) = (cels (List.replicate n 0)).toArray := by
  apply Array.ext
  · simp [madeCells, cels]
  · intro i h1 h2
    have : i % 1 = 0 := by omega
    simp [madeCells, cels, this]

theorem arena_New (n : Nat) (h1 : 2 ≤ n) (h2 : n ≤ 32768) (w : World) :
    Calls Try.prog 9 #[.int .i64 n] w fun e w' => ∃ a F, e = .returned (.pointer (some ⟨a, 0, none⟩)) ∧ IsAr w' a ⟨n, false, []⟩ F ∧ Upd [] F w w' := by
  have hmk : ∀ w : World, (Instr.makeSlice 44 (.int .i64 (2 * (n : Int))) (.int .i64 (2 * (n : Int)))).run Try.prog w = .ok (.slice (some ⟨w.heap.size, 0, none⟩) (2 * n) (2 * n)) (w.alloc (.cells (cels (List.replicate (2 * n) 0)).toArray 28)) := by
    intro w
    have := run_make_row' (P := Try.prog) 44 28 (.int .u64 0) 8 Try.ulWords Try.infoWord rfl .i64 .i64 (2 * n) (by omega) (by omega) w
    rw [madeCells_words, show ((2 * n : Nat) : Int) = 2 * (n : Int) by omega] at this
    exact this
  go_enter Try.func9, Try.ntmps9
  go_wp2
  go_ret
  refine ⟨w.heap.size + 1 + 1, _, rfl, ⟨w.heap.size + 1, w.heap.size, .slice none 0 0, List.replicate (2 * n) 0, rfl, ⟨?_, ?_, ?_, by simp, ?_, ?_, ?_⟩⟩, ?_⟩
  · exact Blk.new' (c := [_, _]) (by simp)
  · exact (Blk.new' (c := [_, _, _, _]) (by simp)).alloc _
  · exact ((Blk.new' rfl).alloc _).alloc _
  · intro x hx
    have := (List.mem_replicate.1 hx).2
    subst this
    unfold U64; omega
  · simp [flat]
  · exact Sl.nil _ _ _
  · exact ((((Upd.refl [] w).alloc _).alloc _).alloc _).sub (by simp [own, Value.ownBlock]; omega)

theorem starts_rise (p : Nat) (L : List Bk) : ∀ i j, i < j → j < L.length → adr p L i < adr p L j := by
  induction L generalizing p with
  | nil => intro i j _ h; simp at h
  | cons b L ih =>
    intro i j h1 h2
    cases j with
    | zero => omega
    | succ j =>
      have hj : j < L.length := by simpa using h2
      cases i with
      | zero => have := adr_lo (p + 1 + b.fs.length) L j hj; simp only [adr]; omega
      | succ i => simp only [adr]; exact ih _ _ _ (by omega) hj

/-- What a search among the blocks' addresses tells. -/
theorem bs_starts {w : World} {v : Value} {p : Nat} {L : List Bk} (h : Sl w v 3 1 L.length (nums (starts p L))) (hL : L.length ≤ 100000) (y : Nat) :
    Calls Try.prog 43 #[v, .int .i64 y] w fun e w' => ∃ (i : Nat) (f : Bool), e = .returned (.tuple #[.int .i64 i, .bool f]) ∧ i ≤ L.length ∧
      Hid ((f = true → look p L y = some (i, 0)) ∧ (f = false → i = 0 → look p L y = none) ∧
        (f = false → ∀ j b, i = j + 1 → L[j]? = some b → adr p L j < y ∧ look p L y = if b.inner (y - adr p L j) then some (j, y - adr p L j) else none)) ∧ w = w' := by
  rcases Nat.eq_zero_or_pos L.length with h0 | h0
  · have hn : L = [] := List.eq_nil_of_length_eq_zero h0
    subst hn
    have hv : v = .slice none 0 0 ∨ ∃ g off cap, v = .slice (some ⟨g, off, none⟩) 0 cap := by
      rcases h.2 with ⟨h, _⟩ | ⟨g, off, cap, cur, h, _⟩
      · exact .inl h
      · exact .inr ⟨g, off, cap, h⟩
    have key : ∀ v, (v = .slice none 0 0 ∨ ∃ g off cap, v = .slice (some ⟨g, off, none⟩) 0 cap) → Calls Try.prog 43 #[v, .int .i64 y] w fun e w' => BsSaid [] y e ∧ w = w' := by
      rintro v (rfl | ⟨g, off, cap, rfl⟩)
      · exact bs_nil _ _
      · exact bs_empty _ _ _ _ _
    refine (key v hv).mono ?_
    rintro e w' ⟨⟨i, f, rfl, hi, _, _, h1, h2⟩, rfl⟩
    have hi0 : i = 0 := by simpa using hi
    subst hi0
    exact ⟨0, f, rfl, by simp, ⟨fun hf => by have := (h1 hf).1; simp at this, fun _ _ => rfl, fun _ j b hj => by omega⟩, rfl⟩
  · obtain ⟨g, off, cap, rfl, hcap, _, hcell⟩ := h.at1 h0
    have hlen : ((starts p L).map fun (s : Nat) => (s : Int)).length = L.length := by simp [starts_length]
    have hget : ∀ k, k < L.length → ((starts p L).map fun (s : Nat) => (s : Int)).getD k 0 = adr p L k := by
      intro k hk
      simp [List.getD, starts_get p L k hk]
    have hb := bs_some g off cap ((starts p L).map fun (s : Nat) => (s : Int)) y w (by rw [hlen]; exact h0) (by rw [hlen]; omega)
      (fun k hk => by
        rw [hlen] at hk
        rw [hget k hk]
        exact hcell k _ (by simp [nums, starts_get p L k hk]))
      (fun i j hij hj => by
        rw [hlen] at hj
        rw [hget i (by omega), hget j hj]
        have := starts_rise p L i j hij hj
        omega)
    rw [hlen] at hb
    refine hb.mono ?_
    rintro e w' ⟨⟨i, f, rfl, hi, hlo, hhi, h1, h2⟩, rfl⟩
    rw [hlen] at hi h1 h2
    refine ⟨i, f, rfl, hi, ⟨fun hf => ?_, fun hf hi0 => ?_, fun hf j b hj hb => ?_⟩, rfl⟩
    · obtain ⟨h3, h4⟩ := h1 hf
      rw [hget i h3] at h4
      exact look_found p L y i h3 (by omega)
    · subst hi0
      refine look_first p L y (fun hl => ?_)
      have := h2 hf hl
      rw [hget 0 hl] at this
      omega
    · subst hj
      have hjl : j < L.length := by omega
      have h3 := hlo j (by omega)
      rw [hget j hjl] at h3
      refine ⟨by omega, look_in p L y j b hb (by omega) (fun hl => ?_)⟩
      have := h2 hf hl
      rw [hget (j + 1) hl] at this
      omega

end Go.Proofs.Ytcfmemnokecgbaa
