/-
  How the arguments of the laws read: slices of numbers, of bytes, of slices of bytes.
-/
import Derived.Test.YtolcjgogalenhaaBase
import Derived.ProofKit
import Derived.OpenShut
import Derived.ShutString
import Derived.ChangeOld
import Derived.Deep.Slices
import Derived.Lib.SmallJoins
namespace Go.Proofs.Ytolcjgogalenhaa
open Go.ChangeShapes Go.WideShapes Go.ChangeAt Go.RowKit Go.Deep
open Go.ChangeMaps (open_string shut_string)

theorem own : ownKnob Try.prog.godebug = none := by kernel_rfl
theorem laidOut : laidOutB Try.prog = true := by kernel_rfl

section
variable {H : Type} {enc : TypeId × Value → H} {w : World} {base : Nat} {spare : Nat → Bool} {held : Bool}

theorem sl_ints {P : Program} {t e : TypeId} {k : IntKind} {fuel : Nat} {v : Value} {x : DataW H × List MemPlace} (ht : P.underlying t = some (.slice e)) (he : P.underlying e = some (.int k)) (hc : P.cellsOf e = 1)
    (h : DataW.trod enc P w base spare held fuel t [v] = some x) : ∃ zs : List Int, Sl w v zs.length (zs.map (Value.int k)) ∧ ∀ n ∈ zs, (Lit.int k n).wf = true := by
  rcases open_ints ht he hc h with ⟨hcs, _⟩ | ⟨a, len, cap, zs, hcs, _, hl, hm, hz, _, hcell, hwz⟩
  · simp only [List.cons.injEq, and_true] at hcs
    subst hcs
    exact ⟨[], ⟨none, 0, rfl, Nat.le_refl _, Nat.zero_le _, fun _ => rfl, .inl rfl⟩, by simp⟩
  · simp only [List.cons.injEq, and_true] at hcs
    subst hcs
    have hlz : len ≤ zs.length := by rw [hz]; split <;> omega
    refine ⟨zs.take len, ⟨some a, cap, by simp [hlz], by simp; omega, hm, (by intro h; cases h), ?_⟩, fun n hn => hwz n (List.mem_of_mem_take hn)⟩
    by_cases h0 : len = 0
    · left; simp [h0]
    · right
      obtain ⟨b, o, sp⟩ := a
      have hc0 := hcell 0 (by omega)
      have hsp : sp = none := by simpa [Addr.add] using World.cell?_spot hc0
      subst hsp
      refine ⟨b, o, rfl, fun i u hu => ?_⟩
      rw [List.getElem?_map, List.getElem?_take] at hu
      split at hu
      · rename_i hi
        have := hcell i (by omega)
        rw [add_eq] at this
        rw [this]
        have hi' : i < zs.length := by omega
        simp only [List.getElem?_eq_getElem hi', Option.map_some, Option.some.injEq] at hu
        simp [List.getD, hi', hu]
      · simp at hu

theorem byte_wf {n : Int} (h : (Lit.int .u8 n).wf = true) : 0 ≤ n ∧ n < 256 := by
  have := bounds_u8 h
  omega

theorem bs_of_ints {v : Value} {zs : List Int} (h : Sl w v zs.length (zs.map (Value.int .u8))) (hz : ∀ n ∈ zs, (Lit.int .u8 n).wf = true) : Bs w v (zs.map fun n => UInt8.ofNat n.toNat) := by
  unfold Bs
  have e : (zs.map fun n => UInt8.ofNat n.toNat).map bv = zs.map (Value.int .u8) := by
    rw [List.map_map]
    apply List.map_congr_left
    intro n hn
    have := byte_wf (hz n hn)
    exact bv_ofInt n this.1 this.2
  rw [e]
  simpa using h

theorem bs_read {P : Program} {t e : TypeId} {fuel : Nat} {v : Value} {x : DataW H × List MemPlace} (ht : P.underlying t = some (.slice e)) (he : P.underlying e = some (.int .u8)) (hc : P.cellsOf e = 1)
    (h : DataW.trod enc P w base spare held fuel t [v] = some x) : ∃ l, Bs w v l := by
  obtain ⟨zs, h1, h2⟩ := sl_ints ht he hc h
  exact ⟨_, bs_of_ints h1 h2⟩

/-- A slice of slices of bytes. -/
theorem sl_rows {P : Program} {t d e : TypeId} {fuel : Nat} {v : Value} {x : DataW H × List MemPlace} (ht : P.underlying t = some (.slice d)) (hd : P.underlying d = some (.slice e)) (he : P.underlying e = some (.int .u8)) (hcd : P.cellsOf d = 1) (hc : P.cellsOf e = 1)
    (h : DataW.trod enc P w base spare held fuel t [v] = some x) : ∃ (vs : List Value) (ts : List (List UInt8)), Sl w v vs.length vs ∧ ts.length = vs.length ∧ ∀ (i : Nat) (v : Value) (t : List UInt8), vs[i]? = some v → ts[i]? = some t → Bs w v t := by
  rcases open_slice1 ht hcd h with ⟨hcs, _⟩ | ⟨a, len, cap, m, n, V, D, Pl, hcs, _, hl, hm, hmm, _, hx⟩
  · simp only [List.cons.injEq, and_true] at hcs
    subst hcs
    exact ⟨[], [], ⟨none, 0, rfl, Nat.le_refl _, Nat.zero_le _, fun _ => rfl, .inl rfl⟩, rfl, by simp⟩
  · simp only [List.cons.injEq, and_true] at hcs
    subst hcs
    have hlm : len ≤ m := by rw [hmm]; split <;> omega
    have hts : ∀ i, i < len → ∃ l, Bs w (V i) l := fun i hi => bs_read hd he hc (hx i (by omega)).2
    obtain ⟨L, hL⟩ := choose_lt (p := fun i l => Bs w (V i) l) hts
    refine ⟨(List.range len).map V, (List.range len).map L, ⟨some a, cap, by simp, by simpa using hl, hm, (by intro h; cases h), ?_⟩, by simp, ?_⟩
    · by_cases h0 : len = 0
      · left; simp [h0]
      · right
        obtain ⟨b, o, sp⟩ := a
        have hc0 := (hx 0 (by omega)).1
        have hsp : sp = none := by simpa [Addr.add] using World.cell?_spot hc0
        subst hsp
        refine ⟨b, o, rfl, fun i u hu => ?_⟩
        by_cases hi : i < len
        · simp [hi] at hu
          have := (hx i (by omega)).1
          rw [add_eq] at this
          rw [this, hu]
        · simp [hi] at hu
    · intro i v t h1 h2
      by_cases hi : i < len
      · simp [hi] at h1 h2
        subst h1 h2
        exact hL i hi
      · simp [hi] at h1
end
end Go.Proofs.Ytolcjgogalenhaa
