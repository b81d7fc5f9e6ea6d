/-
  The reference's reader of layer 1, call by call: it reads what the program's reader reads.
-/
import Derived.Test.YtolcjgogalenhaaXf
import Derived.Deep.RegionWith
namespace Go.Proofs.Ytolcjgogalenhaa
open Go.RowKit

theorem Bs.cells {w : World} {ao : Option Addr} {n cap : Nat} {B : List UInt8} (h : Bs w (.slice ao n cap) B) (h0 : 0 < B.length) :
    ∃ b o, ao = some ⟨b, o, none⟩ ∧ ∀ k (hk : k < B.length), w.cell? ⟨b, o + k, none⟩ = some (.int .u8 (B[k].toNat : Int)) := by
  obtain ⟨ao', cap', hv, -, -, -, hc⟩ := h
  simp only [Value.slice.injEq] at hv
  obtain ⟨rfl, -, rfl⟩ := hv
  rcases hc with hc | ⟨b, o, rfl, hc⟩
  · have : B = [] := by simpa using hc
    subst this; simp at h0
  · exact ⟨b, o, rfl, fun k hk => hc k (bv B[k]) (by simp [hk])⟩

theorem drop_take4 (B : List UInt8) (i : Nat) (h : i + 4 ≤ B.length) : (B.drop i).take 4 = [B[i], B[i + 1], B[i + 2], B[i + 3]] := by
  apply List.ext_getElem
  · simp; omega
  · intro k h1 h2
    simp only [List.length_cons, List.length_nil] at h2
    match k, h2 with
    | 0, _ => simp
    | 1, _ => simp
    | 2, _ => simp
    | 3, _ => simp

theorem numF_err {s : Nat} {e : Int} {l : List UInt8} (h : e ≠ 0) : numF s e l = (0, e, l) := by unfold numF; rw [if_pos h]
theorem numF_short {s : Nat} {l : List UInt8} (h : l.length < s) : numF s 0 l = (0, 3, []) := by unfold numF; rw [if_neg (by decide), if_pos h]
theorem numF_ok {s : Nat} {l : List UInt8} (h : ¬ l.length < s) : numF s 0 l = (valB (l.take s), 0, l.drop s) := by unfold numF; rw [if_neg (by decide), if_neg h]

/-- What a call of the reference's reader leaves. -/
def RfPost (w : World) (g : Nat) (v : Value) (e : Int) (l : List UInt8) (en : Ending) (w' : World) : Prop := en = .returned v ∧ Rf w' g e l ∧ Keep g w w'

set_option maxRecDepth 100000 in
set_option maxHeartbeats 1600000 in
theorem rfU32_any (g : Nat) (e : Int) (l : List UInt8) (w : World) (h : Rf w g e l) :
    Calls Try.prog 30 #[.pointer (some ⟨g, 0, none⟩)] w (RfPost w g (.int .u32 (numF 4 e l).1) (numF 4 e l).2.1 (numF 4 e l).2.2) := by
  obtain ⟨sv, B, i, hg, hb, hi, hB, hl0, hle⟩ := h
  have hsh := short_any g sv B i 4 e w ⟨hg, hb⟩ hi hB
  have hsv := hb
  obtain ⟨ao, cap, rfl, -, -, -, -⟩ := hsv
  by_cases he : e = 0
  · subst he
    have hl := hl0 rfl
    clear hl0 hle
    by_cases hs : B.length - i < 4
    · have hF : shortF 4 B i 0 = (true, 3) := by unfold shortF; rw [if_neg (by decide), if_pos hs]
      rw [hF] at hsh
      have HN := Lib.hid (numF_short (s := 4) (l := l) (by rw [hl, List.length_drop]; exact hs))
      have HL := Lib.hid hl; clear hl hF hg hb
      go_enter Try.func30, Try.ntmps30
      go_wp2_with fail
      refine hsh.mono ?_
      rintro en w1 ⟨rfl, hR1, hk1⟩
      go_wp2
      go_ret
      rw [HN.out]
      exact ⟨rfl, ⟨_, B, i, hR1.1, hR1.2, hi, hB, (fun h => absurd h (by decide)), fun _ => rfl⟩, hk1⟩
    · have hF : shortF 4 B i 0 = (false, 0) := by unfold shortF; rw [if_neg (by decide), if_neg hs]
      rw [hF] at hsh
      have hi4 : i + 4 ≤ B.length := by omega
      have HN := Lib.hid (numF_ok (s := 4) (l := l) (by rw [hl, List.length_drop]; exact hs))
      have HV : Hid (valB (l.take 4) = valB [B[i], B[i + 1], B[i + 2], B[i + 3]]) := by
        show valB (l.take 4) = _
        rw [hl, drop_take4 B i hi4]
      have HL := Lib.hid hl; clear hl hF hg hb hs
      go_enter Try.func30, Try.ntmps30
      go_wp2_with fail
      refine hsh.mono ?_
      rintro en w1 ⟨rfl, hR1, hk1⟩
      obtain ⟨b, o, rfl, hc⟩ := hR1.2.cells (by omega)
      have hg1 := hR1.1
      have hc1 : w1.cell? ⟨g, 1, none⟩ = some (.int .i64 i) := cell_at hg1 1
      have hf1 := free_at hg1 1
      have hwd := word_any g b o cap B.length i 0 i B[i] B[i + 1] B[i + 2] B[i + 3] w1 hg1 hi4 hB (hc i (by omega)) (hc (i + 1) (by omega)) (hc (i + 2) (by omega)) (hc (i + 3) (by omega))
      have HG1 := Lib.hid hg1
      clear hc hg1
      generalize valB [B[i], B[i + 1], B[i + 2], B[i + 3]] = V at hwd HV
      obtain ⟨M, hM⟩ : ∃ M, M = B.length := ⟨_, rfl⟩
      rw [← hM] at hi hi4 hB
      have HM := Lib.hid hM; clear hM
      go_wp2_with fail
      refine hwd.mono ?_
      rintro en w2 ⟨rfl, q, rfl⟩
      go_wp2
      go_ret
      rw [HN.out]
      have hkk : Keep g w1 ((w1.drewN q).setCell ⟨g, 1, none⟩ (.int .i64 ((i : Int) + 4))) := (Keep.of_below (below_drewN w1 q)).trans (Keep.setCell g 1 _ _)
      have hR2 := hR1.keep (i + 4) 0 hkk (heap_setCell_same (w1.drewN q) g 1 _ 42 _ HG1.out)
      exact ⟨by rw [HV.out]; rfl, ⟨_, B, i + 4, hR2.1, hR2.2, by rw [← HM.out]; exact hi4, by rw [← HM.out]; exact hB, (fun _ => by rw [HL.out, List.drop_drop]), (fun h => absurd rfl h)⟩, hk1.trans hkk⟩
  · have hF : shortF 4 B i e = (true, e) := by unfold shortF; rw [if_pos he]
    rw [hF] at hsh
    have hl := hle he
    have HN := Lib.hid (numF_err (s := 4) (l := l) he)
    have HL := Lib.hid hl; clear hl hF hg hb hl0 hle
    go_enter Try.func30, Try.ntmps30
    go_wp2_with fail
    refine hsh.mono ?_
    rintro en w1 ⟨rfl, hR1, hk1⟩
    go_wp2
    go_ret
    rw [HN.out]
    exact ⟨rfl, ⟨_, B, i, hR1.1, hR1.2, hi, hB, (fun h => absurd h he), fun _ => HL.out⟩, hk1⟩

theorem valB_app (a b : List UInt8) : valB (a ++ b) = valB a * 256 ^ b.length + valB b := by
  have key : ∀ (b : List UInt8) (n : Int), b.foldl (fun n c => n * 256 + (c.toNat : Int)) n = n * 256 ^ b.length + valB b := by
    intro b
    induction b with
    | nil => intro n; simp [valB]
    | cons c b ih =>
      intro n
      simp only [List.foldl_cons, List.length_cons, valB]
      rw [ih, ih (0 * 256 + (c.toNat : Int)), Int.pow_succ, Int.add_mul, Int.mul_assoc, Int.mul_comm 256 (256 ^ b.length), Int.zero_mul, Int.zero_add]
      omega
  unfold valB
  rw [List.foldl_append, key b]
  rfl
theorem pow4 : (256 : Int) ^ 4 = 4294967296 := by decide
theorem valB_app4 (a b : List UInt8) (h : b.length = 4) : valB (a ++ b) = valB a * 4294967296 + valB b := by rw [valB_app, h, pow4]
theorem valB_lt4 (a : List UInt8) (h : a.length = 4) : valB a < 4294967296 := by have := (valB_bd a).2; rwa [h, pow4] at this
theorem take8 (B : List UInt8) (i : Nat) : (B.drop i).take 8 = (B.drop i).take 4 ++ (B.drop (i + 4)).take 4 := by
  rw [show (8 : Nat) = 4 + 4 from rfl, List.take_add, List.drop_drop]

set_option maxRecDepth 100000 in
set_option maxHeartbeats 1600000 in
theorem rfU64_any (g : Nat) (e : Int) (l : List UInt8) (w : World) (h : Rf w g e l) :
    Calls Try.prog 23 #[.pointer (some ⟨g, 0, none⟩)] w (RfPost w g (.int .u64 (numF 8 e l).1) (numF 8 e l).2.1 (numF 8 e l).2.2) := by
  obtain ⟨sv, B, i, hg, hb, hi, hB, hl0, hle⟩ := h
  have hsh := short_any g sv B i 8 e w ⟨hg, hb⟩ hi hB
  have hsv := hb
  obtain ⟨ao, cap, rfl, -, -, -, -⟩ := hsv
  by_cases he : e = 0
  · subst he
    have hl := hl0 rfl
    clear hl0 hle
    by_cases hs : B.length - i < 8
    · have hF : shortF 8 B i 0 = (true, 3) := by unfold shortF; rw [if_neg (by decide), if_pos hs]
      rw [hF] at hsh
      have HN := Lib.hid (numF_short (s := 8) (l := l) (by rw [hl, List.length_drop]; exact hs))
      have HL := Lib.hid hl; clear hl hF hg hb
      go_enter Try.func23, Try.ntmps23
      go_wp2_with fail
      refine hsh.mono ?_
      rintro en w1 ⟨rfl, hR1, hk1⟩
      go_wp2
      go_ret
      rw [HN.out]
      exact ⟨rfl, ⟨_, B, i, hR1.1, hR1.2, hi, hB, (fun h => absurd h (by decide)), fun _ => rfl⟩, hk1⟩
    · have hF : shortF 8 B i 0 = (false, 0) := by unfold shortF; rw [if_neg (by decide), if_neg hs]
      rw [hF] at hsh
      have hi8 : i + 8 ≤ B.length := by omega
      have HN := Lib.hid (numF_ok (s := 8) (l := l) (by rw [hl, List.length_drop]; exact hs))
      have b0 := And.intro (valB_bd [B[i], B[i + 1], B[i + 2], B[i + 3]]).1 (valB_lt4 [B[i], B[i + 1], B[i + 2], B[i + 3]] rfl)
      have b4 := And.intro (valB_bd [B[i + 4], B[i + 4 + 1], B[i + 4 + 2], B[i + 4 + 3]]).1 (valB_lt4 [B[i + 4], B[i + 4 + 1], B[i + 4 + 2], B[i + 4 + 3]] rfl)
      have HV : Hid (valB (l.take 8) = valB [B[i], B[i + 1], B[i + 2], B[i + 3]] * 4294967296 + valB [B[i + 4], B[i + 4 + 1], B[i + 4 + 2], B[i + 4 + 3]]) := by
        show valB (l.take 8) = _
        rw [hl, take8, drop_take4 B i (by omega), drop_take4 B (i + 4) (by omega), valB_app4 _ _ rfl]
      have HL := Lib.hid hl; clear hl hF hg hb hs
      go_enter Try.func23, Try.ntmps23
      go_wp2_with fail
      refine hsh.mono ?_
      rintro en w1 ⟨rfl, hR1, hk1⟩
      obtain ⟨b, o, rfl, hc⟩ := hR1.2.cells (by omega)
      have hg1 := hR1.1
      have hc1 : w1.cell? ⟨g, 1, none⟩ = some (.int .i64 i) := cell_at hg1 1
      have hf1 := free_at hg1 1
      have hw0 : ∀ q, Calls Try.prog 50 #[.pointer (some ⟨g, 0, none⟩), .int .i64 (i : Int)] (w1.drewN q) _ := fun q => word_any g b o cap B.length i 0 i B[i] B[i + 1] B[i + 2] B[i + 3] (w1.drewN q) hg1 (by omega) hB (hc i (by omega)) (hc (i + 1) (by omega)) (hc (i + 2) (by omega)) (hc (i + 3) (by omega))
      have hw4 : ∀ q, Calls Try.prog 50 #[.pointer (some ⟨g, 0, none⟩), .int .i64 ((i : Int) + 4)] (w1.drewN q) _ := fun q => word_any g b o cap B.length (i + 4) 0 i B[i + 4] B[i + 4 + 1] B[i + 4 + 2] B[i + 4 + 3] (w1.drewN q) hg1 (by omega) hB (hc (i + 4) (by omega)) (hc (i + 4 + 1) (by omega)) (hc (i + 4 + 2) (by omega)) (hc (i + 4 + 3) (by omega))
      have HG1 := Lib.hid hg1
      clear hc hg1
      generalize valB [B[i], B[i + 1], B[i + 2], B[i + 3]] = V0 at hw0 HV b0
      generalize valB [B[i + 4], B[i + 4 + 1], B[i + 4 + 2], B[i + 4 + 3]] = V4 at hw4 HV b4
      have HW0 := Lib.hid hw0; clear hw0
      have HW4 := Lib.hid hw4; clear hw4
      obtain ⟨b00, b02⟩ := b0
      obtain ⟨b40, b42⟩ := b4
      obtain ⟨M, hM⟩ : ∃ M, M = B.length := ⟨_, rfl⟩
      rw [← hM] at hi hi8 hB
      have HM := Lib.hid hM; clear hM
      have hw : ∀ m : Int, 0 ≤ m → m < 18446744073709551616 → IntKind.u64.wrap m = m := fun m a b => by rw [IntKind.wrap_u64]; omega
      have s4 : IntKind.i64.wrap ((i : Int) + 4) = (i : Int) + 4 := IntWalk.i64_in _ (by omega)
      have m0 := hw V0 (by omega) (by omega)
      have m4 := hw V4 (by omega) (by omega)
      have m1 := hw (V0 * 4294967296) (by omega) (by omega)
      have m2 := hw (V0 * 4294967296 + V4) (by omega) (by omega)
      clear hw
      go_wp2_with fail
      go_quiet ((first | (with_reducible exact Calls.quiet_of (HW4.out _)) | (with_reducible exact Calls.quiet_of (HW0.out _))))
      clear s4 m0 m1 m2 m4
      go_wp2
      go_ret
      rw [HN.out]
      have hkk : Keep g w1 ((w1.drewN nq).setCell ⟨g, 1, none⟩ (.int .i64 ((i : Int) + 8))) := (Keep.of_below (below_drewN w1 nq)).trans (Keep.setCell g 1 _ _)
      have hR2 := hR1.keep (i + 8) 0 hkk (heap_setCell_same (w1.drewN nq) g 1 _ 42 _ HG1.out)
      exact ⟨by rw [HV.out]; rfl, ⟨_, B, i + 8, hR2.1, hR2.2, by rw [← HM.out]; exact hi8, by rw [← HM.out]; exact hB, (fun _ => by rw [HL.out, List.drop_drop]), (fun h => absurd rfl h)⟩, hk1.trans hkk⟩
  · have hF : shortF 8 B i e = (true, e) := by unfold shortF; rw [if_pos he]
    rw [hF] at hsh
    have hl := hle he
    have HN := Lib.hid (numF_err (s := 8) (l := l) he)
    have HL := Lib.hid hl; clear hl hF hg hb hl0 hle
    go_enter Try.func23, Try.ntmps23
    go_wp2_with fail
    refine hsh.mono ?_
    rintro en w1 ⟨rfl, hR1, hk1⟩
    go_wp2
    go_ret
    rw [HN.out]
    exact ⟨rfl, ⟨_, B, i, hR1.1, hR1.2, hi, hB, (fun h => absurd h he), fun _ => HL.out⟩, hk1⟩
end Go.Proofs.Ytolcjgogalenhaa
