/- The reference's arena: what lies in memory; Base, Top. -/
import Derived.Test.YtcfmemnokecgbaaAq
import Derived.Test.YtcfmemnokecgbaaHq
import Derived.Test.YtcfmemnokecgbaaRd
namespace Go.Proofs.Ytcfmemnokecgbaa
open Go.RowKit

/-- The cells of the reference's blocks: address, tag, fields. -/
def rcells (p : Nat) : List Bk → List Value → List Value
  | b :: L, f :: fs => .int .i64 ((p + 1 : Nat) : Int) :: .int .i64 (b.tag : Nat) :: f :: rcells (p + 1 + b.fs.length) L fs
  | _, _ => []

theorem rcells_len (p : Nat) (L : List Bk) (fs : List Value) (h : fs.length = L.length) : (rcells p L fs).length = L.length * 3 := by
  induction L generalizing p fs with
  | nil => cases fs <;> simp [rcells]
  | cons b L ih =>
    cases fs with
    | nil => simp at h
    | cons f fs => simp [rcells]; rw [ih _ _ (by simpa using h)]; omega
theorem rcells_get (p : Nat) (L : List Bk) (fs : List Value) (i : Nat) (b : Bk) (f : Value) (hb : L[i]? = some b) (hf : fs[i]? = some f) :
    (rcells p L fs)[i * 3]? = some (.int .i64 (adr p L i : Nat)) ∧ (rcells p L fs)[i * 3 + 1]? = some (.int .i64 (b.tag : Nat)) ∧ (rcells p L fs)[i * 3 + 2]? = some f := by
  induction L generalizing p fs i with
  | nil => simp at hb
  | cons c L ih =>
    cases fs with
    | nil => simp at hf
    | cons g fs =>
      cases i with
      | zero => simp at hb hf; subst hb hf; simp [rcells, adr]
      | succ i =>
        have := ih (p + 1 + c.fs.length) fs i (by simpa using hb) (by simpa using hf)
        rw [show (i + 1) * 3 = i * 3 + 1 + 1 + 1 by omega, show i * 3 + 1 + 1 + 1 + 1 = (i * 3 + 1) + 1 + 1 + 1 by omega, show i * 3 + 1 + 1 + 1 + 2 = (i * 3 + 2) + 1 + 1 + 1 by omega]
        simp only [rcells, List.getElem?_cons_succ, adr]
        exact this
theorem rcells_append (p : Nat) (L : List Bk) (fs : List Value) (b : Bk) (f : Value) (h : fs.length = L.length) :
    rcells p (L ++ [b]) (fs ++ [f]) = rcells p L fs ++ [.int .i64 ((p + (flat L).length + 1 : Nat) : Int), .int .i64 (b.tag : Nat), f] := by
  induction L generalizing p fs with
  | nil =>
    cases fs with
    | nil => simp [rcells, flat]
    | cons g fs => simp at h
  | cons c L ih =>
    cases fs with
    | nil => simp at h
    | cons g fs =>
      simp only [List.cons_append, rcells, flat]
      rw [ih _ _ (by simpa using h)]
      simp
      omega
theorem rcells_set (p : Nat) (L : List Bk) (fs : List Value) (i k : Nat) (x : Int) (f : Value) (h : fs.length = L.length) (hi : i < L.length) :
    (rcells p L fs).set (i * 3 + 2) f = rcells p (putF L i k x) (fs.set i f) := by
  unfold putF
  induction L generalizing p fs i with
  | nil => simp at hi
  | cons c L ih =>
    cases fs with
    | nil => simp at h
    | cons g fs =>
      cases i with
      | zero => simp [rcells]
      | succ i =>
        have := ih (p + 1 + c.fs.length) fs i (by simpa using h) (by simpa using hi)
        rw [show (i + 1) * 3 + 2 = (i * 3 + 2) + 1 + 1 + 1 by omega]
        simp only [rcells, List.set_cons_succ, List.modify_succ_cons, this]

structure IsRfP (w : World) (b : Nat) (A : Ar) (lv : Value) (fvs : List Value) : Prop where
  bb : Blk w b [.int .i64 (A.n : Nat), .int .i64 (if A.hi then 1 else 0), lv] 64
  lf : fvs.length = A.L.length
  sl : Sl w lv 72 3 A.L.length (rcells A.base A.L fvs)
  sf : ∀ (i : Nat) (f : Value) (k : Bk), fvs[i]? = some f → A.L[i]? = some k → Sl w f 28 1 k.fs.length (cels k.fs)

/-- At block b there is a reference's arena that is A; it is made of the blocks F. -/
def IsRf (w : World) (b : Nat) (A : Ar) (F : List Nat) : Prop := ∃ lv fvs, F = b :: (own lv ++ fvs.flatMap own) ∧ IsRfP w b A lv fvs

theorem IsRfP.go {w w' : World} {b : Nat} {A : Ar} {lv : Value} {fvs : List Value} (p : IsRfP w b A lv fvs) (hk : ∀ k ∈ b :: (own lv ++ fvs.flatMap own), w'.heap[k]? = w.heap[k]?) : IsRfP w' b A lv fvs :=
  ⟨p.bb.go (hk _ (by simp)), p.lf, p.sl.go (fun k h => hk k (by simp [h])), fun i f k hf hk' => (p.sf i f k hf hk').go (fun m hm => hk m (by
    simp only [List.mem_cons, List.mem_append, List.mem_flatMap]
    exact .inr (.inr ⟨f, List.mem_of_getElem? hf, hm⟩)))⟩
theorem IsRf.go {w w' : World} {b : Nat} {A : Ar} {F : List Nat} (h : IsRf w b A F) (hk : ∀ k ∈ F, w'.heap[k]? = w.heap[k]?) : IsRf w' b A F := by
  obtain ⟨lv, fvs, rfl, p⟩ := h
  exact ⟨lv, fvs, rfl, p.go hk⟩
theorem IsRf.lt {w : World} {b : Nat} {A : Ar} {F : List Nat} (h : IsRf w b A F) : ∀ k ∈ F, k < w.heap.size := by
  obtain ⟨lv, fvs, rfl, p⟩ := h
  intro k hk
  simp only [List.mem_cons, List.mem_append, List.mem_flatMap] at hk
  rcases hk with rfl | hk | ⟨f, hf, hk⟩
  · exact p.bb.lt
  · exact p.sl.lt k hk
  · obtain ⟨i, hi⟩ := List.getElem?_of_mem hf
    have hil := (List.getElem?_eq_some_iff.1 hi).1
    exact (p.sf i f _ hi (List.getElem?_eq_getElem (by rw [← p.lf]; exact hil))).lt k hk
theorem IsRf.mem {w : World} {b : Nat} {A : Ar} {F : List Nat} (h : IsRf w b A F) : b ∈ F := by
  obtain ⟨lv, fvs, rfl, p⟩ := h; simp
theorem IsRf.eq {w w' : World} {b : Nat} {A : Ar} {F : List Nat} (h : IsRf w b A F) (hk : w'.heap = w.heap) : IsRf w' b A F := h.go fun _ _ => by rw [hk]
theorem IsRf.drewN {w : World} {b : Nat} {A : Ar} {F : List Nat} (h : IsRf w b A F) (n : Nat) : IsRf (w.drewN n) b A F := h.go fun _ _ => rfl

/-- Cells of a slice that isn't empty. -/
theorem Sl.atn {w : World} {v : Value} {e : TypeId} {size n : Nat} {xs : List Value} (h : Sl w v e size n xs) (hn : 0 < n) :
    ∃ g off cap, v = .slice (some ⟨g, off, none⟩) n cap ∧ n ≤ cap ∧ own v = [g] ∧ (∀ j u, xs[j]? = some u → w.cell? ⟨g, off + j, none⟩ = some u) ∧ ∀ o, w.frozen? ⟨g, o, none⟩ = false := by
  rcases h.2 with ⟨rfl, h0⟩ | ⟨g, off, cap, cur, rfl, hg, h1, h2, h3, h4⟩
  · omega
  · refine ⟨g, off, cap, rfl, h1, by simp [own, Value.ownBlock], fun j u hu => ?_, fun o => frozen_of_row w g o cur e hg⟩
    rw [cell_of_row w g (off + j) cur e (0, 0) hg]
    rw [← h4, List.getElem?_take] at hu
    split at hu
    · simpa using hu
    · cases hu

theorem ref_Base {w : World} {b : Nat} {A : Ar} {F : List Nat} (h : IsRf w b A F) (hok : A.ok) :
    Calls Try.prog 38 #[.pointer (some ⟨b, 0, none⟩)] w fun e w' => e = .returned (.int .i64 (A.base : Nat)) ∧ ∃ n, w' = w.drewN n := by
  obtain ⟨lv, fvs, rfl, p⟩ := h
  have cb := p.bb.cell
  have hn := hok.2.1
  have e1 : IntKind.i64.wrap ((A.n : Int) * (if A.hi then 1 else 0)) = (A.base : Int) := by
    unfold Ar.base
    split
    · rw [Int.mul_one]; exact IntWalk.i64_in _ (by omega)
    · rw [Int.mul_zero]; exact IntWalk.i64_in _ (by omega)
  obtain ⟨q, hq⟩ : ∃ q : Int, (if A.hi then (1 : Int) else 0) = q := ⟨_, rfl⟩
  rw [hq] at cb e1
  clear p hq
  go_enter Try.func38, Try.ntmps38
  go_wp2
  go_quiet (fail)
  go_wp2
  go_ret
  exact ⟨rfl, nq, rfl⟩

end Go.Proofs.Ytcfmemnokecgbaa
