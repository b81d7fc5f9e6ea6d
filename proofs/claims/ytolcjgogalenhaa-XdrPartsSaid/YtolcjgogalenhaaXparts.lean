/-
  'truchmanlaw01.XdrParts' returns true at every input, and leaves all that was there as it was.
-/
import Derived.Test.YtolcjgogalenhaaXa
namespace Go.Proofs.Ytolcjgogalenhaa
open Go.RowKit

def nums4 (zs : List Int) : List UInt8 := zs.flatMap be32
def texts (ts : List (List UInt8)) : List UInt8 := ts.flatMap fun t => textB (t.take 20)
theorem nums4_length (zs : List Int) : (nums4 zs).length = 4 * zs.length := by
  induction zs with
  | nil => rfl
  | cons z zs ih => simp [nums4] at ih ⊢; rw [ih, be32_length]; omega
theorem nums4_snoc (zs : List Int) (z : Int) : nums4 (zs ++ [z]) = nums4 zs ++ be32 z := by simp [nums4]
theorem texts_snoc (ts : List (List UInt8)) (t : List UInt8) : texts (ts ++ [t]) = texts ts ++ textB (t.take 20) := by simp [texts]
theorem textB_mod (t : List UInt8) : (textB t).length % 4 = 0 := by rw [textB_length]; unfold padN; omega
theorem textB_le (t : List UInt8) : (textB t).length ≤ t.length + 7 := by rw [textB_length]; unfold padN; omega
theorem texts_mod (ts : List (List UInt8)) : (texts ts).length % 4 = 0 := by
  induction ts with
  | nil => rfl
  | cons t ts ih => have := textB_mod (t.take 20); simp [texts] at ih ⊢; omega
theorem texts_le (ts : List (List UInt8)) : (texts ts).length ≤ 27 * ts.length := by
  induction ts with
  | nil => simp [texts]
  | cons t ts ih => have := textB_le (t.take 20); have h2 : (t.take 20).length ≤ 20 := List.length_take_le _ _; simp [texts] at ih h2 this ⊢; omega

set_option maxHeartbeats 1000000 in
theorem xdrParts_walk (v0 v1 : Value) (zs : List Int) (vs : List Value) (ts : List (List UInt8)) (w : World) (h0 : Sl w v0 zs.length (zs.map (Value.int .u32))) (hz : ∀ z ∈ zs, 0 ≤ z ∧ z ≤ 4294967295)
    (h1 : Sl w v1 vs.length vs) (hts : ts.length = vs.length) (hv : ∀ (i : Nat) (v : Value) (t : List UInt8), vs[i]? = some v → ts[i]? = some t → Bs w v t) :
    Calls Try.prog 3 #[v0, v1] w fun e w' => e = .returned (.bool true) ∧ Below w.heap.size w w' := by
  have h0s := h0
  have h1s := h1
  obtain ⟨ao0, cap0, rfl, hlc0, hcm0, -, -⟩ := h0s
  obtain ⟨ao1, cap1, rfl, hlc1, hcm1, -, -⟩ := h1s
  unfold maxLen at hcm0 hcm1
  obtain ⟨n0, hn0⟩ : ∃ n, n = zs.length := ⟨_, rfl⟩
  obtain ⟨n1, hn1⟩ : ∃ n, n = vs.length := ⟨_, rfl⟩
  rw [← hn0] at h0 hlc0 ⊢
  rw [← hn1] at h1 hlc1 hts ⊢
  have HN0 := Lib.hid hn0; clear hn0
  have HN1 := Lib.hid hn1; clear hn1
  have HTS := Lib.hid hts; clear hts
  have HV := Lib.hid hv; clear hv
  have HZ := Lib.hid hz; clear hz
  have H0 := Lib.hid h0; clear h0
  have H1 := Lib.hid h1; clear h1
  go_enter Try.func3, Try.ntmps3
  go_wp2_with fail
  go_loopw [5, 6, 7] (fun x all i wr => ∃ k : Nat, k ≤ n0 ∧ k ≤ 5 ∧ i = .int .i64 k ∧ all = .string ⟨(nums4 (zs.take k)).toArray⟩ ∧ Bs wr x (nums4 (zs.take k)) ∧ Below w.heap.size w wr)
    (fun _ _ i _ => 5 - (intOf i).toNat)
  case atStart => exact ⟨0, Nat.zero_le _, Nat.zero_le _, rfl, rfl, Bs.nil _, Below.refl _ _⟩
  case round =>
    obtain ⟨k, hk, hk5, rfl, rfl, hB, hb⟩ := hrel
    by_cases hc : k < n0 ∧ k < 5
    · obtain ⟨hlt, hlt5⟩ := hc
      have hzk : zs[k]? = some (zs.getD k 0) := by rw [HN0.out] at hlt; simp [List.getD, hlt]
      obtain ⟨z, hzz⟩ : ∃ z, z = zs.getD k 0 := ⟨_, rfl⟩
      rw [← hzz] at hzk
      have hzr := HZ.out z (List.mem_of_getElem? hzk)
      obtain ⟨b, o, hao, hcell⟩ := Sl.at (H0.out.below hb) (i := k) (u := .int .u32 z) (by simp [hzk])
      subst hao
      have htk : zs.take (k + 1) = zs.take k ++ [z] := by rw [List.take_add_one, hzk]; rfl
      have HTK := Lib.hid htk; clear htk hzk hzz
      have hlen : (nums4 (zs.take k)).length ≤ 20 := by rw [nums4_length]; have := List.length_take_le k zs; omega
      obtain ⟨hz0, hz1⟩ := hzr
      have h4 : (be32 z).length ≤ 4 := by simp [be32_length]
      go_wp2_with fail
      refine (u32_any _ (nums4 (zs.take k)) z _ hB (by omega) hz0 hz1).mono ?_
      rintro e w1 ⟨x1, rfl, hown1, hb1⟩
      have hcell1 : w1.cell? ⟨b, o + k, none⟩ = some (.int .u32 z) := by rw [hb1.cell (World.block_lt_of_cell? _ _ hcell)]; exact hcell
      go_wp2_with fail
      refine (u32_any _ [] z _ (Bs.nil _) (by decide) hz0 hz1).mono ?_
      rintro e w2 ⟨x2, rfl, hown2, hb2⟩
      go_wp2_with (refine wpList_bytes_string rfl (.tmp 31) 24 9 5 rfl Try.underlying24 Try.underlying5 Try.underlying9 x2 _ rfl (Bs.of_own hown2) ?_)
      go_roundw
      case rel => exact ⟨k + 1, by omega, by omega, by go_num, by rw [HTK.out, nums4_snoc, str_app], by rw [HTK.out, nums4_snoc]; exact (Bs.of_own hown1).below hb2, hb.trans (((Below.thenB hb1 hb2)).mono hb.size)⟩
      case measure => simp [intOf]; omega
    · have hcs : (k < n0 ∧ ¬ k < 5) ∨ ¬ k < n0 := by omega
      clear hc
      rcases hcs with ⟨hlt, hlt5⟩ | hlt
      all_goals
        obtain ⟨B, hBe⟩ : ∃ B, B = nums4 (zs.take k) := ⟨_, rfl⟩
        have hB4 : B.length % 4 = 0 ∧ B.length ≤ 20 := by rw [hBe, nums4_length]; have := List.length_take_le k zs; omega
        obtain ⟨hBm, hBl⟩ := hB4
        have HBM := Lib.hid hBm; clear hBm
        rw [← hBe] at hB ⊢
        clear hBe
        go_wp2_with fail
        go_loopw [5, 6, 8, 9] (fun x all i _ wr => ∃ k : Nat, k ≤ n1 ∧ k ≤ 5 ∧ i = .int .i64 k ∧ all = .string ⟨(B ++ texts (ts.take k)).toArray⟩ ∧ Bs wr x (B ++ texts (ts.take k)) ∧ Below w.heap.size w wr)
          (fun _ _ i _ _ => 5 - (intOf i).toNat)
        case atStart => exact ⟨0, Nat.zero_le _, Nat.zero_le _, rfl, by simp [texts], by simpa [texts] using hB, hb⟩
        case round =>
          obtain ⟨k2, hk2, hk25, rfl, rfl, hB2, hb2⟩ := hrel
          have htl := texts_le (ts.take k2)
          have htl2 : (texts (ts.take k2)).length ≤ 135 := by have := List.length_take_le k2 ts; omega
          have hBl2 : (B ++ texts (ts.take k2)).length ≤ 155 := by simp; omega
          clear htl
          by_cases hc : k2 < n1 ∧ k2 < 5
          · obtain ⟨hlt2, hlt25⟩ := hc
            have hlt3 : k2 < vs.length := by rw [← HN1.out]; exact hlt2
            have hvk : vs[k2]? = some vs[k2] := by simp [hlt3]
            have hlt4 : k2 < ts.length := by rw [HTS.out]; exact hlt2
            have htk : ts[k2]? = some ts[k2] := by simp [hlt4]
            have hvb := HV.out k2 _ _ hvk htk
            generalize vs[k2] = v at hvk hvb
            generalize ts[k2] = t at htk hvb
            obtain ⟨b, o, hao, hcell⟩ := Sl.at (H1.out.below hb2) hvk
            subst hao
            have htake : ts.take (k2 + 1) = ts.take k2 ++ [t] := by rw [List.take_add_one, htk]; rfl
            have HTK := Lib.hid htake; clear htake hvk htk
            have hvb2 := hvb.below hb2
            clear hvb
            have hvb3 := hvb2
            obtain ⟨ao', cap', rfl, hx1, hx2, -, -⟩ := hvb3
            go_wp2_with fail
            refine (few_any _ t 20 _ hvb2 (by decide)).mono ?_
            rintro e w1 ⟨x1, rfl, hown1, hb1⟩
            go_wp2_with fail
            have h20 : (t.take 20).length ≤ 20 := List.length_take_le _ _
            refine (text_any _ x1 _ _ _ (hB2.below hb1) (Bs.of_own hown1) (by omega) (by omega)).mono ?_
            rintro e w2 ⟨x2, rfl, hown2, hb2'⟩
            go_wp2_with fail
            refine (text_any (.slice none 0 0) x1 [] _ _ (Bs.nil _) ((Bs.of_own hown1).below hb2') (by decide) (by omega)).mono ?_
            rintro e w3 ⟨x3, rfl, hown3, hb3⟩
            have ht20 := textB_le (t.take 20)
            go_wp2_with (refine wpList_bytes_string rfl (.tmp 54) 24 9 5 rfl Try.underlying24 Try.underlying5 Try.underlying9 x3 _ rfl (Bs.of_own hown3) ?_)
            go_roundw
            case rel => exact ⟨k2 + 1, by omega, by omega, by go_num, by rw [HTK.out, texts_snoc, str_app, List.append_assoc], by rw [HTK.out, texts_snoc, ← List.append_assoc]; exact (Bs.of_own hown2).below hb3, hb2.trans ((Below.thenB (Below.thenB hb1 hb2') hb3).mono hb2.size)⟩
            case measure => simp [intOf]; omega
          · have hcs : (k2 < n1 ∧ ¬ k2 < 5) ∨ ¬ k2 < n1 := by omega
            clear hc
            rcases hcs with ⟨hlt2, hlt25⟩ | hlt2
            all_goals
              have htm := texts_mod (ts.take k2)
              have hmod : (B ++ texts (ts.take k2)).length % 4 = 0 := by have := HBM.out; simp; omega
              generalize B ++ texts (ts.take k2) = C at hB2 hBl2 hmod ⊢
              have hmod2 : (((C.length : Nat) : Int) % 4 == 0) = true := by simp; omega
              have HMOD := Lib.hid hmod; clear hmod
              have hsh := hB2
              obtain ⟨ao', cap', rfl, hx1, hx2, -, -⟩ := hsh
              go_wp2_with (refine wpList_bytes_string rfl (.tmp 57) 24 9 5 rfl Try.underlying24 Try.underlying5 Try.underlying9 _ C rfl hB2 ?_)
              refine (lives_any _).mono ?_
              rintro e w1 ⟨rfl, hb1⟩
              go_wp2
              go_ret
              exact ⟨rfl, hb2.trans (hb1.mono hb2.size)⟩
end Go.Proofs.Ytolcjgogalenhaa
