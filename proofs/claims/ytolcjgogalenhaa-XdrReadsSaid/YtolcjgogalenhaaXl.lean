/-
  Laws of the bytes: what is laid is read as it was.
-/
import Derived.Test.YtolcjgogalenhaaXt
namespace Go.Proofs.Ytolcjgogalenhaa
open Go.RowKit

theorem valB_be32 (n : Int) (h0 : 0 ≤ n) (h1 : n ≤ 4294967295) : valB (be32 n) = n := by
  simp only [valB, be32, List.foldl_cons, List.foldl_nil, UInt8.toNat_ofNat']
  omega
theorem valB_append (a b : List UInt8) : valB (a ++ b) = valB a * 256 ^ b.length + valB b := by
  have h : ∀ (b : List UInt8) (n : Int), b.foldl (fun n c => n * 256 + (c.toNat : Int)) n = n * 256 ^ b.length + valB b := by
    intro b
    induction b with
    | nil => intro n; simp [valB]
    | cons c b ih =>
      intro n
      have e : valB (c :: b) = (0 * 256 + (c.toNat : Int)) * 256 ^ b.length + valB b := ih _
      rw [List.foldl_cons, ih, e, List.length_cons, Int.pow_succ, Int.zero_mul, Int.zero_add, Int.add_mul, Int.add_assoc, Int.mul_assoc, Int.mul_comm 256]
  have e : valB (a ++ b) = b.foldl (fun n c => n * 256 + (c.toNat : Int)) (valB a) := by unfold valB; rw [List.foldl_append]
  rw [e, h]
theorem valB_be64 (n : Int) (h0 : 0 ≤ n) (h1 : n < 18446744073709551616) : valB (be64 n) = n := by
  unfold be64
  rw [valB_append, valB_be32 _ (by omega) (by omega), valB_be32 _ (by omega) (by omega)]
  have : (256 : Int) ^ (be32 (n % 4294967296)).length = 4294967296 := by rw [be32_length]; decide
  rw [this]
  omega
theorem numF_at (s : Nat) (a r : List UInt8) (h : a.length = s) : numF s 0 (a ++ r) = (valB a, 0, r) := by
  subst h
  unfold numF
  rw [if_neg (by simp), if_neg (by simp)]
  simp
theorem numF_be32 (n : Int) (r : List UInt8) (h0 : 0 ≤ n) (h1 : n ≤ 4294967295) : numF 4 0 (be32 n ++ r) = (n, 0, r) := by
  rw [numF_at 4 _ r (be32_length n), valB_be32 n h0 h1]
theorem numF_be64 (n : Int) (r : List UInt8) (h0 : 0 ≤ n) (h1 : n < 18446744073709551616) : numF 8 0 (be64 n ++ r) = (n, 0, r) := by
  rw [numF_at 8 _ r (by simp [be64, be32_length]), valB_be64 n h0 h1]
theorem numF_short (s : Nat) (l : List UInt8) (h : l.length < s) : numF s 0 l = (0, 3, []) := by
  unfold numF
  rw [if_neg (by simp), if_pos h]
theorem boolF_be32 (b : Bool) (r : List UInt8) : boolF 0 (be32 (if b then 1 else 0) ++ r) = (b, 0, r) := by
  unfold boolF
  rw [numF_be32 _ r (by cases b <;> decide) (by cases b <;> decide)]
  cases b <;> rfl
theorem textF_textB (t r : List UInt8) (most : Int) (hm : (t.length : Int) ≤ most) (ht : t.length ≤ 1073741824) : textF most 0 (textB t ++ r) = (t, 0, r) := by
  have hx : numF 4 0 (textB t ++ r) = ((t.length : Int), 0, t ++ (List.replicate (padN t.length) 0 ++ r)) := by
    unfold textB
    rw [List.append_assoc, List.append_assoc, numF_be32 _ _ (by omega) (by omega)]
  rw [textF_of hx, if_neg (by simp), if_neg (by omega), Int.toNat_natCast, if_neg (by simp), if_pos (by simp)]
  refine Prod.ext List.take_left (Prod.ext rfl ?_)
  rw [← List.drop_drop, List.drop_left, List.drop_append_of_le_length (by simp)]
  simp
theorem textF_cut (t : List UInt8) (most : Int) (C : Nat) (hm : (t.length : Int) ≤ most) (ht : t.length ≤ 1073741824) (hC : C < (textB t).length) :
    textF most 0 ((textB t).take C) = ([], 3, []) := by
  by_cases h4 : C < 4
  · have hx := numF_short 4 ((textB t).take C) (by simp; omega)
    rw [textF_of hx, if_pos (by decide)]
  · have e : (textB t).take C = be32 t.length ++ (t ++ List.replicate (padN t.length) 0).take (C - 4) := by
      unfold textB
      rw [List.append_assoc, List.take_append, be32_length, List.take_of_length_le (by rw [be32_length]; omega)]
    have hx := numF_be32 t.length ((t ++ List.replicate (padN t.length) 0).take (C - 4)) (by omega) (by omega)
    rw [← e] at hx
    rw [textF_of hx, if_neg (by simp), if_neg (by omega), Int.toNat_natCast, if_pos]
    rw [textB_length] at hC
    simp
    omega
theorem textF_odd (t : List UInt8) (most : Int) (K : Nat) (c : UInt8) (hm : (t.length : Int) ≤ most) (ht : t.length ≤ 1073741824) (hK : 4 + t.length ≤ K) (hK1 : K < (textB t).length) (hc : c ≠ 0) :
    textF most 0 ((textB t).set K c) = ([], 2, []) := by
  obtain ⟨j, rfl⟩ : ∃ j, K = 4 + t.length + j := ⟨K - (4 + t.length), by omega⟩
  rw [textB_length] at hK1
  have hj : j < padN t.length := by omega
  have e : (textB t).set (4 + t.length + j) c = be32 t.length ++ (t ++ (List.replicate (padN t.length) 0).set j c) := by
    unfold textB
    rw [List.set_append_right _ _ (by simp [be32_length]), List.append_assoc]
    congr 3
    simp [be32_length]
  have hx := numF_be32 t.length (t ++ (List.replicate (padN t.length) 0).set j c) (by omega) (by omega)
  rw [← e] at hx
  rw [textF_of hx, if_neg (by simp), if_neg (by omega), Int.toNat_natCast, if_neg (by simp), if_neg]
  intro h
  rw [List.drop_left, List.take_of_length_le (by simp), List.all_eq_true] at h
  have hin : c ∈ (List.replicate (padN t.length) (0 : UInt8)).set j c := List.mem_set (by simpa using hj) c
  have := h c hin
  simp at this
  exact hc this

/-- Bytes stay where another row turned. -/
theorem Bs.aside {w w' : World} {v : Value} {l : List UInt8} {row : Option Nat} (h : Bs w v l) (hg : w.grownBy w' row) (hne : ∀ k, row = some k → v.ownBlock ≠ some k) : Bs w' v l := by
  obtain ⟨ao, cap, rfl, h1, h2, h3, h4⟩ := h
  refine ⟨ao, cap, rfl, h1, h2, h3, ?_⟩
  rcases h4 with h4 | ⟨b, o, rfl, hc⟩
  · exact .inl h4
  · refine .inr ⟨b, o, rfl, fun i u hu => ?_⟩
    refine World.grownBy.cell hg (hc i u hu) ?_
    intro h
    exact hne b h.symm rfl
end Go.Proofs.Ytolcjgogalenhaa
