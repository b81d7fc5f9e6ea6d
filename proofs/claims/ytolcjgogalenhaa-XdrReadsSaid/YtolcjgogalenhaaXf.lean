/-
  The reference's reader of layer 1: each of its calls reads what the program's reader reads.
-/
import Derived.Test.YtolcjgogalenhaaXt
import Derived.Deep.QuietTactic
import Derived.BigQuiet
namespace Go.Proofs.Ytolcjgogalenhaa
open Go.RowKit

/-- The reference's reader at block g: its error, the bytes that are left. -/
def Rf (w : World) (g : Nat) (e : Int) (l : List UInt8) : Prop :=
  ∃ (sv : Value) (B : List UInt8) (i : Nat), w.heap[g]? = some (.cells #[sv, .int .i64 i, .int .i64 e] 42 (0, 0)) ∧ Bs w sv B ∧ i ≤ B.length ∧ B.length ≤ 1073741824 ∧ (e = 0 → l = B.drop i) ∧ (e ≠ 0 → l = [])

theorem Rf.noByte {w : World} {g : Nat} {e : Int} {l : List UInt8} (h : Rf w g e l) : NoByte w g := by
  obtain ⟨sv, B, i, hg, hb, -⟩ := h
  intro k n
  rw [cell_at hg]
  match k with
  | 0 => simpa using hb.noU8 n
  | 1 => simp
  | 2 => simp
  | k + 3 => simp
theorem Rf.keep {g k : Nat} {w w' : World} {e : Int} {l : List UInt8} (h : Rf w g e l) (hk : Keep k w w') (hne : g ≠ k) (hn : NoByte w k) : Rf w' g e l := by
  obtain ⟨sv, B, i, hg, hb, r⟩ := h
  exact ⟨sv, B, i, hk.block hg hne, hb.keep hk hn, r⟩
theorem Rf.below {g : Nat} {w w' : World} {e : Int} {l : List UInt8} (h : Rf w g e l) (hb : Below w.heap.size w w') : Rf w' g e l := by
  obtain ⟨sv, B, i, hg, hbs, r⟩ := h
  exact ⟨sv, B, i, by rw [hb.block g (Array.getElem?_eq_some_iff.1 hg).1]; exact hg, hbs.below hb, r⟩
theorem below_drewN (w : World) (n : Nat) : Below w.heap.size w (w.drewN n) := ⟨rfl, rfl, rfl, Nat.le_refl _, fun _ _ => rfl⟩

theorem valB_four (a b c d : UInt8) : valB [a, b, c, d] = (a.toNat : Int) * 16777216 + (b.toNat : Int) * 65536 + (c.toNat : Int) * 256 + d.toNat := by
  simp [valB]; omega

set_option maxRecDepth 100000 in
set_option maxHeartbeats 1600000 in
theorem word_any (g b o cap n i : Nat) (e I : Int) (c0 c1 c2 c3 : UInt8) (w : World) (hg : w.heap[g]? = some (.cells #[.slice (some ⟨b, o, none⟩) n cap, .int .i64 I, .int .i64 e] 42 (0, 0))) (hi : i + 4 ≤ n) (hn : n ≤ 1073741824)
    (h0 : w.cell? ⟨b, o + i, none⟩ = some (.int .u8 (c0.toNat : Int))) (h1 : w.cell? ⟨b, o + (i + 1), none⟩ = some (.int .u8 (c1.toNat : Int))) (h2 : w.cell? ⟨b, o + (i + 2), none⟩ = some (.int .u8 (c2.toNat : Int))) (h3 : w.cell? ⟨b, o + (i + 3), none⟩ = some (.int .u8 (c3.toNat : Int))) :
    Calls Try.prog 50 #[.pointer (some ⟨g, 0, none⟩), .int .i64 (i : Int)] w fun en w' => en = .returned (.int .u32 (valB [c0, c1, c2, c3])) ∧ ∃ k, w' = w.drewN k := by
  have hc0 : w.cell? ⟨g, 0, none⟩ = some (.slice (some ⟨b, o, none⟩) n cap) := cell_at hg 0
  have b0 := c0.toNat_lt
  have b1 := c1.toNat_lt
  have b2 := c2.toNat_lt
  have b3 := c3.toNat_lt
  have HV := Lib.hid (valB_four c0 c1 c2 c3)
  generalize c0.toNat = x0 at *
  generalize c1.toNat = x1 at *
  generalize c2.toNat = x2 at *
  generalize c3.toNat = x3 at *
  have s1 : IntKind.i64.wrap ((i : Int) + 1) = (i : Int) + 1 := IntWalk.i64_in _ (by omega)
  have s2 : IntKind.i64.wrap ((i : Int) + 2) = (i : Int) + 2 := IntWalk.i64_in _ (by omega)
  have s3 : IntKind.i64.wrap ((i : Int) + 3) = (i : Int) + 3 := IntWalk.i64_in _ (by omega)
  have p0 : (i : Int) < n := by omega
  have p1 : (i : Int) + 1 < n := by omega
  have p2 : (i : Int) + 2 < n := by omega
  have p3 : (i : Int) + 3 < n := by omega
  have q1 : (0 : Int) ≤ (i : Int) + 1 := by omega
  have q2 : (0 : Int) ≤ (i : Int) + 2 := by omega
  have q3 : (0 : Int) ≤ (i : Int) + 3 := by omega
  have t1 : ((i : Int) + 1).toNat = i + 1 := by omega
  have t2 : ((i : Int) + 2).toNat = i + 2 := by omega
  have t3 : ((i : Int) + 3).toNat = i + 3 := by omega
  have hw : ∀ m : Int, 0 ≤ m → m < 4294967296 → IntKind.u32.wrap m = m := fun m a b => by simp [IntKind.wrap, IntKind.bits, IntKind.signed]; omega
  have m0 := hw ((x0 : Int) * 16777216) (by omega) (by omega)
  have m1 := hw ((x1 : Int) * 65536) (by omega) (by omega)
  have m2 := hw ((x2 : Int) * 256) (by omega) (by omega)
  have m3 := hw ((x0 : Int) * 16777216 + (x1 : Int) * 65536) (by omega) (by omega)
  have m4 := hw ((x0 : Int) * 16777216 + (x1 : Int) * 65536 + (x2 : Int) * 256) (by omega) (by omega)
  have m5 := hw ((x0 : Int) * 16777216 + (x1 : Int) * 65536 + (x2 : Int) * 256 + x3) (by omega) (by omega)
  clear hw hg
  go_enter Try.func50, Try.ntmps50
  go_wp2_with fail
  go_quiet (fail)
  clear s1 s2 s3 p0 p1 p2 p3 q1 q2 q3 t1 t2 t3 m0 m1 m2 m3 m4 m5 h0 h1 h2 h3 hc0 b0 b1 b2 b3
  go_wp2
  go_ret
  exact ⟨by rw [HV.out]; rfl, _, rfl⟩

/-- The object of the reference's reader, field by field. -/
def Ro (w : World) (g : Nat) (sv : Value) (B : List UInt8) (i : Nat) (e : Int) : Prop := w.heap[g]? = some (.cells #[sv, .int .i64 i, .int .i64 e] 42 (0, 0)) ∧ Bs w sv B
theorem Ro.keep {w w' : World} {g : Nat} {sv : Value} {B : List UInt8} {i : Nat} {e : Int} (h : Ro w g sv B i e) (i' : Nat) (e' : Int) (hk : Keep g w w') (hg : w'.heap[g]? = some (.cells #[sv, .int .i64 i', .int .i64 e'] 42 (0, 0))) : Ro w' g sv B i' e' := by
  refine ⟨hg, h.2.keep hk ?_⟩
  intro k n
  rw [cell_at h.1]
  match k with
  | 0 => simpa using h.2.noU8 n
  | 1 => simp
  | 2 => simp
  | k + 3 => simp
theorem Ro.below {w w' : World} {g : Nat} {sv : Value} {B : List UInt8} {i : Nat} {e : Int} (h : Ro w g sv B i e) (hb : Below w.heap.size w w') : Ro w' g sv B i e :=
  ⟨by rw [hb.block g (Array.getElem?_eq_some_iff.1 h.1).1]; exact h.1, h.2.below hb⟩

/-- Are there fewer bytes? Then there is an error. -/
def shortF (n : Nat) (B : List UInt8) (i : Nat) (e : Int) : Bool × Int := if e ≠ 0 then (true, e) else if B.length - i < n then (true, 3) else (false, 0)

set_option maxHeartbeats 800000 in
theorem short_any (g : Nat) (sv : Value) (B : List UInt8) (i n : Nat) (e : Int) (w : World) (h : Ro w g sv B i e) (hi : i ≤ B.length) (hB : B.length ≤ 1073741824) :
    Calls Try.prog 49 #[.pointer (some ⟨g, 0, none⟩), .int .i64 (n : Int)] w fun en w' => en = .returned (.bool (shortF n B i e).1) ∧ Ro w' g sv B i (shortF n B i e).2 ∧ Keep g w w' := by
  have hR := h
  obtain ⟨hg, hb⟩ := h
  obtain ⟨ao, cap, rfl, -, -, -, -⟩ := hb
  have hc0 : w.cell? ⟨g, 0, none⟩ = some (.slice ao B.length cap) := cell_at hg 0
  have hc1 : w.cell? ⟨g, 1, none⟩ = some (.int .i64 i) := cell_at hg 1
  have hc2 : w.cell? ⟨g, 2, none⟩ = some (.int .i64 e) := cell_at hg 2
  have hf2 := free_at hg 2
  have HG := Lib.hid hg; clear hg
  obtain ⟨M, hM⟩ : ∃ M, M = B.length := ⟨_, rfl⟩
  rw [← hM] at hi hB hc0
  have HM := Lib.hid hM; clear hM
  by_cases he : e = 0
  · subst he
    have s1 : IntKind.i64.wrap ((M : Int) - (i : Int)) = (M : Int) - (i : Int) := IntWalk.i64_in _ (by omega)
    by_cases hs : M - i < n
    · have hsd : decide ((M : Int) - i < n) = true := by simp; omega
      have HS : Hid (shortF n B i 0 = (true, 3)) := by
        show shortF n B i 0 = _
        unfold shortF
        rw [if_neg (by decide), if_pos (by rw [← HM.out]; exact hs)]
      clear hs
      go_enter Try.func49, Try.ntmps49
      go_wp2_with fail
      go_quiet (fail)
      clear s1
      go_wp2
      go_ret
      rw [HS.out]
      have hk : Keep g w ((w.drewN nq).setCell ⟨g, 2, none⟩ (.int .i64 3)) := (Keep.of_below (below_drewN w nq)).trans (Keep.setCell g 2 _ _)
      exact ⟨rfl, hR.keep i 3 hk (heap_setCell_same (w.drewN nq) g 2 _ 42 _ HG.out), hk⟩
    · have hsd : decide ((M : Int) - i < n) = false := by simp; omega
      have HS : Hid (shortF n B i 0 = (false, 0)) := by
        show shortF n B i 0 = _
        unfold shortF
        rw [if_neg (by decide), if_neg (by rw [← HM.out]; exact hs)]
      clear hs
      go_enter Try.func49, Try.ntmps49
      go_wp2_with fail
      go_quiet (fail)
      clear s1
      go_wp2
      go_ret
      rw [HS.out]
      exact ⟨rfl, hR.below (below_drewN w nq), Keep.of_below (below_drewN w nq)⟩
  · have hne : (e != 0) = true := by simpa using he
    go_enter Try.func49, Try.ntmps49
    go_wp2
    go_ret
    simp only [shortF, if_pos he]
    exact ⟨rfl, hR, Keep.refl _ _⟩
end Go.Proofs.Ytolcjgogalenhaa
