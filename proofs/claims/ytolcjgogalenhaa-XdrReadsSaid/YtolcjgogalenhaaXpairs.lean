/-
  How an argument of pairs of numbers reads.
-/
import Derived.Test.YtolcjgogalenhaaOpen
namespace Go.Proofs.Ytolcjgogalenhaa
open Go.ChangeShapes Go.WideShapes Go.ChangeAt Go.RowKit Go.Deep

/-- A slice of n pairs of numbers. -/
def Pairs (w : World) (v : Value) (n : Nat) : Prop :=
  ∃ ao cap, v = .slice ao n cap ∧ cap ≤ maxLen ∧ n ≤ cap ∧ ∀ i, i < n → ∃ b o x y, ao = some ⟨b, o, none⟩ ∧ w.cell? ⟨b, o + i * 2, none⟩ = some (.int .i64 x) ∧ w.cell? ⟨b, o + i * 2 + 1, none⟩ = some (.int .i64 y) ∧
    (-9223372036854775808 ≤ x ∧ x ≤ 9223372036854775807) ∧ -9223372036854775808 ≤ y ∧ y ≤ 9223372036854775807

variable {H : Type} {enc : TypeId × Value → H} {w : World} {base : Nat} {spare : Nat → Bool} {held : Bool}

theorem sl_pairs {P : Program} {t d e : TypeId} {fuel : Nat} {v : Value} {x : DataW H × List MemPlace} (ht : P.underlying t = some (.slice d)) (hd : P.underlying d = some (.array 2 e)) (he : P.underlying e = some (.int .i64)) (hcd : P.cellsOf d = 2) (hc : P.cellsOf e = 1)
    (h : DataW.trod enc P w base spare held fuel t [v] = some x) : ∃ n, Pairs w v n := by
  rcases open_slice ht h with ⟨hcs, _⟩ | ⟨a, len, cap, m, n, D, Pl, hcs, _, hl, hm, hmm, _, hx⟩
  · simp only [List.cons.injEq, and_true] at hcs
    subst hcs
    exact ⟨0, none, 0, rfl, Nat.zero_le _, Nat.le_refl _, fun i hi => absurd hi (Nat.not_lt_zero _)⟩
  · simp only [List.cons.injEq, and_true] at hcs
    subst hcs
    have hlm : len ≤ m := by rw [hmm]; split <;> omega
    refine ⟨len, some a, cap, rfl, hm, hl, fun i hi => ?_⟩
    obtain ⟨cs', h1, h2⟩ := hx i (by omega)
    rw [hcd] at h1
    obtain ⟨_, hlen, hcell⟩ := World.cells?_some h1
    obtain ⟨xs, k, _, _, _, hxl, hf⟩ := DataW.trod_array hd h2
    match xs, hxl, cs', hlen with
    | [y0, y1], _, [v0, v1], _ =>
      have g0 := hf 0 (by decide)
      have g1 := hf 1 (by decide)
      simp [hc] at g0 g1
      obtain ⟨z0, e0, -, w0⟩ := DataW.trod_int he g0
      obtain ⟨z1, e1, -, w1⟩ := DataW.trod_int he g1
      simp only [List.cons.injEq, and_true] at e0 e1
      subst e0 e1
      have c0 := hcell 0 (by omega)
      have c1 := hcell 1 (by omega)
      rw [add_add] at c0 c1
      obtain ⟨b, o, sp⟩ := a
      have hsp : sp = none := by
        obtain ⟨cs0, h10, _⟩ := hx 0 (by omega)
        rw [hcd] at h10
        obtain ⟨_, hl0, hcell0⟩ := World.cells?_some h10
        have c00 := hcell0 0 (by omega)
        rw [add_add, List.getElem?_eq_getElem (by omega)] at c00
        simpa [Addr.add] using World.cell?_spot c00
      subst hsp
      rw [add_eq] at c0 c1
      exact ⟨b, o, z0, z1, rfl, by simpa using c0, by simpa [Nat.add_assoc] using c1, bounds_i64 w0, bounds_i64 w1⟩
theorem Pairs.below {w' : World} {v : Value} {n : Nat} (h : Pairs w v n) (hb : Below w.heap.size w w') : Pairs w' v n := by
  obtain ⟨ao, cap, rfl, h1, h2, h3⟩ := h
  refine ⟨ao, cap, rfl, h1, h2, fun i hi => ?_⟩
  obtain ⟨b, o, x, y, e, c0, c1, r⟩ := h3 i hi
  refine ⟨b, o, x, y, e, ?_, ?_, r⟩
  · rw [hb.cell (World.block_lt_of_cell? _ _ c0)]; exact c0
  · rw [hb.cell (World.block_lt_of_cell? _ _ c1)]; exact c1
end Go.Proofs.Ytolcjgogalenhaa
