/-
  The reference's reader of layer 1: what is left, the end, a yes or no, a text; a number below another one.
-/
import Derived.Test.YtolcjgogalenhaaXg
namespace Go.Proofs.Ytolcjgogalenhaa
open Go.RowKit

theorem rfLeft_any (g : Nat) (e : Int) (l : List UInt8) (w : World) (h : Rf w g e l) :
    Calls Try.prog 25 #[.pointer (some ⟨g, 0, none⟩)] w (RfPost w g (.int .i64 (l.length : Int)) e l) := by
  have hR := h
  obtain ⟨sv, B, i, hg, hb, hi, hB, hl0, hle⟩ := h
  obtain ⟨ao, cap, rfl, -, -, -, -⟩ := hb
  have hc0 : w.cell? ⟨g, 0, none⟩ = some (.slice ao B.length cap) := cell_at hg 0
  have hc1 : w.cell? ⟨g, 1, none⟩ = some (.int .i64 i) := cell_at hg 1
  have hc2 : w.cell? ⟨g, 2, none⟩ = some (.int .i64 e) := cell_at hg 2
  clear hg
  by_cases he : e = 0
  · subst he
    have hl : (l.length : Int) = (B.length : Int) - i := by rw [hl0 rfl, List.length_drop]; omega
    have HL := Lib.hid hl; clear hl hl0 hle
    have s1 : IntKind.i64.wrap ((B.length : Int) - (i : Int)) = (B.length : Int) - (i : Int) := IntWalk.i64_in _ (by omega)
    go_enter Try.func25, Try.ntmps25
    go_wp2_with fail
    go_quiet (fail)
    clear s1
    go_wp2
    go_ret
    exact ⟨by rw [HL.out]; rfl, hR.below (below_drewN w nq), Keep.of_below (below_drewN w nq)⟩
  · have hne : (e != 0) = true := by simpa using he
    have hl : l = [] := hle he
    clear hl0 hle
    subst hl
    go_enter Try.func25, Try.ntmps25
    go_wp2
    go_ret
    exact ⟨rfl, hR, Keep.refl _ _⟩

theorem rfEnd_any (g : Nat) (e : Int) (l : List UInt8) (w : World) (h : Rf w g e l) :
    Calls Try.prog 35 #[.pointer (some ⟨g, 0, none⟩)] w (RfPost w g (.int .i64 (endF e l)) e l) := by
  have hR := h
  obtain ⟨sv, B, i, hg, hb, hi, hB, hl0, hle⟩ := h
  obtain ⟨ao, cap, rfl, -, -, -, -⟩ := hb
  have hc0 : w.cell? ⟨g, 0, none⟩ = some (.slice ao B.length cap) := cell_at hg 0
  have hc1 : w.cell? ⟨g, 1, none⟩ = some (.int .i64 i) := cell_at hg 1
  have hc2 : w.cell? ⟨g, 2, none⟩ = some (.int .i64 e) := cell_at hg 2
  clear hg
  by_cases he : e = 0
  · subst he
    have hl := hl0 rfl
    clear hl0 hle
    by_cases hlt : i < B.length
    · have HE : Hid (endF 0 l = 2) := by
        show endF 0 l = 2
        unfold endF
        rw [if_pos ⟨rfl, fun h => by rw [hl] at h; have := congrArg List.length h; simp at this; omega⟩]
      have hd : decide ((i : Int) < (B.length : Int)) = true := by simp; exact hlt
      clear hl
      go_enter Try.func35, Try.ntmps35
      go_wp2_with fail
      go_quiet (fail)
      go_wp2
      go_ret
      exact ⟨by rw [HE.out]; rfl, hR.below (below_drewN w nq), Keep.of_below (below_drewN w nq)⟩
    · have HE : Hid (endF 0 l = 0) := by
        show endF 0 l = 0
        unfold endF
        have : l = [] := by rw [hl]; exact List.drop_eq_nil_of_le (by omega)
        rw [if_neg (fun h => h.2 this)]
      have hd : decide ((i : Int) < (B.length : Int)) = false := by simp; omega
      clear hl
      go_enter Try.func35, Try.ntmps35
      go_wp2_with fail
      go_quiet (fail)
      go_wp2
      go_ret
      exact ⟨by rw [HE.out]; rfl, hR.below (below_drewN w nq), Keep.of_below (below_drewN w nq)⟩
  · have HE : Hid (endF e l = e) := by
      show endF e l = e
      unfold endF
      rw [if_neg (fun h => he h.1)]
    have hne : (e == 0) = false := by simpa using he
    clear hl0 hle
    go_enter Try.func35, Try.ntmps35
    go_wp2_with fail
    go_quiet (fail)
    go_wp2
    go_ret
    exact ⟨by rw [HE.out]; rfl, hR.below (below_drewN w nq), Keep.of_below (below_drewN w nq)⟩

theorem rfBool_any (g : Nat) (e : Int) (l : List UInt8) (w : World) (h : Rf w g e l) :
    Calls Try.prog 32 #[.pointer (some ⟨g, 0, none⟩)] w (RfPost w g (.bool (boolF e l).1) (boolF e l).2.1 (boolF e l).2.2) := by
  have hbf : boolF e l = if 1 < (numF 4 e l).1 then (false, 2, []) else ((numF 4 e l).1 == 1, (numF 4 e l).2.1, (numF 4 e l).2.2) := rfl
  have hu := rfU32_any g e l w h
  have hz : 1 < (numF 4 e l).1 → (numF 4 e l).2.1 = 0 := by
    unfold numF
    split
    · intro h; simp at h
    · split
      · intro h; simp at h
      · intro _; rfl
  generalize numF 4 e l = x at hbf hu hz
  obtain ⟨n, e1, l1⟩ := x
  simp only at hbf hu hz
  have HB := Lib.hid hbf; clear hbf
  by_cases hn : 1 < n
  · obtain rfl : e1 = 0 := hz hn
    clear hz
    go_enter Try.func32, Try.ntmps32
    go_wp2_with fail
    refine hu.mono ?_
    rintro en w1 ⟨rfl, hR1, hk1⟩
    obtain ⟨sv, B, i, hg, hb, hi, hB, hl0, hle⟩ := hR1
    have hc2 : w1.cell? ⟨g, 2, none⟩ = some (.int .i64 0) := cell_at hg 2
    have hf2 := free_at hg 2
    have HG := Lib.hid hg; clear hg hl0 hle
    go_wp2
    go_ret
    rw [HB.out, if_pos hn]
    have hR2 := Ro.keep ⟨HG.out, hb⟩ i 2 (Keep.setCell g 2 w1 _) (heap_setCell_same w1 g 2 _ 42 _ HG.out)
    exact ⟨rfl, ⟨sv, B, i, hR2.1, hR2.2, hi, hB, (fun h => absurd h (by decide)), fun _ => rfl⟩, hk1.trans (Keep.setCell g 2 w1 _)⟩
  · clear hz
    go_enter Try.func32, Try.ntmps32
    go_wp2_with fail
    refine hu.mono ?_
    rintro en w1 ⟨rfl, hR1, hk1⟩
    have hR1' := hR1
    obtain ⟨sv, B, i, hg, hb, hi, hB, hl0, hle⟩ := hR1
    have hc2 : w1.cell? ⟨g, 2, none⟩ = some (.int .i64 e1) := cell_at hg 2
    clear hg hl0 hle
    go_wp2
    all_goals
      go_ret
      rw [HB.out, if_neg (by omega)]
      exact ⟨rfl, hR1', hk1⟩

/-- A number's place in a row of so many (of a number below 0: by its distance from -1). -/
def aroundF (n m : Int) : Int := (if n < 0 then -(n + 1) else n) % m
theorem aroundF_bd (n m : Int) (hm : 0 < m) : 0 ≤ aroundF n m ∧ aroundF n m < m := ⟨Int.emod_nonneg _ (by omega), Int.emod_lt_of_pos _ hm⟩
theorem around_any (n m : Int) (w : World) (h0 : -9223372036854775808 ≤ n) (h1 : n ≤ 9223372036854775807) (hm : 1 ≤ m) (_hm1 : m ≤ 9223372036854775807) :
    Calls Try.prog 27 #[.int .i64 n, .int .i64 m] w fun en w' => en = .returned (.int .i64 (aroundF n m)) ∧ w = w' := by
  have hm0 : (m == 0) = false := by simp; omega
  by_cases hn : n < 0
  · have HA : Hid (aroundF n m = -((n + 1).tmod m)) := by
      show aroundF n m = _
      unfold aroundF
      rw [if_pos hn, ← Int.neg_tmod, Int.tmod_eq_emod_of_nonneg (by omega)]
    go_enter Try.func27, Try.ntmps27
    go_wp2
    go_ret
    exact ⟨by rw [HA.out]; rfl, rfl⟩
  · have HA : Hid (aroundF n m = n % m) := by show aroundF n m = _; unfold aroundF; rw [if_neg hn]
    have hn0 : 0 ≤ n := by omega
    have hd : decide (n < 0) = false := by simpa using hn0
    clear hn
    go_enter Try.func27, Try.ntmps27
    go_wp2
    go_ret
    exact ⟨by rw [HA.out]; rfl, rfl⟩

set_option maxRecDepth 100000 in
set_option maxHeartbeats 1600000 in
theorem rfText_any (g : Nat) (most e : Int) (l : List UInt8) (w : World) (h : Rf w g e l) :
    Calls Try.prog 33 #[.pointer (some ⟨g, 0, none⟩), .int .i64 most] w fun en w' => ∃ v, en = .returned v ∧ Bs w' v (textF most e l).1 ∧ Rf w' g (textF most e l).2.1 (textF most e l).2.2 ∧ Keep g w w' := by
  have hu := rfU32_any g e l w h
  have hbd := numF_bd 4 e l
  have htf : ∀ n e1 l1, numF 4 e l = (n, e1, l1) → _ := fun n e1 l1 h => textF_of (most := most) h
  generalize hx : numF 4 e l = x at hu hbd htf
  obtain ⟨n, e1, l1⟩ := x
  have htf := htf n e1 l1 rfl
  simp only at hu hbd
  obtain ⟨hn0, hn1⟩ := hbd
  obtain ⟨N, rfl⟩ := Int.eq_ofNat_of_zero_le hn0
  have hn1 : N < 4294967296 := by have : (N : Int) < 4294967296 := hn1; omega
  rw [Int.toNat_natCast] at htf
  have HT := Lib.hid htf; clear htf hx hn0
  obtain ⟨p, hp⟩ : ∃ p : Nat, p = padN N := ⟨_, rfl⟩
  have hp3 : p ≤ 3 := by subst hp; unfold padN; omega
  have hmod : (N + p) % 4 = 0 := by subst hp; unfold padN; omega
  have HMOD := Lib.hid hmod; clear hmod
  have HP := Lib.hid hp; clear hp
  have HU := Lib.hid hu; clear hu h
  by_cases he : e1 = 0
  · subst he
    by_cases hm : most < N
    · have hm' : decide (most < (N : Int)) = true := by simpa using hm
      have HM0 := Lib.hid hm; clear hm
      go_enter Try.func33, Try.ntmps33
      go_wp2_with fail
      refine HU.out.mono ?_
      rintro en w1 ⟨rfl, hR1, hk1⟩
      obtain ⟨sv, B, i, hg, hb, hi, hB, hl0, hle⟩ := hR1
      have hc2 : w1.cell? ⟨g, 2, none⟩ = some (.int .i64 0) := cell_at hg 2
      have hf2 := free_at hg 2
      have HG := Lib.hid hg; clear hg hl0 hle
      go_wp2
      go_ret
      rw [HT.out, if_neg (by decide), if_pos HM0.out]
      have hR2 := Ro.keep ⟨HG.out, hb⟩ i 4 (Keep.setCell g 2 w1 _) (heap_setCell_same w1 g 2 _ 42 _ HG.out)
      exact ⟨_, rfl, Bs.nil _, ⟨sv, B, i, hR2.1, hR2.2, hi, hB, (fun h => absurd h (by decide)), fun _ => rfl⟩, hk1.trans (Keep.setCell g 2 w1 _)⟩
    · have hm' : decide (most < (N : Int)) = false := by simpa using hm
      have HM0 := Lib.hid hm; clear hm
      go_enter Try.func33, Try.ntmps33
      go_wp2_with fail
      refine HU.out.mono ?_
      rintro en w1 ⟨rfl, hR1, hk1⟩
      obtain ⟨sv, B, i, hg, hb, hi, hB, hl0, hle⟩ := hR1
      have hc2 : w1.cell? ⟨g, 2, none⟩ = some (.int .i64 0) := cell_at hg 2
      have hl1 := hl0 rfl
      have hll : l1.length = B.length - i := by rw [hl1, List.length_drop]
      have HL1 := Lib.hid hl1
      have HG := Lib.hid hg; clear hg hl0 hle hl1
      go_wp2_with fail
      go_loop [6] (fun x => ∃ k : Nat, k ≤ p ∧ x = .int .i64 ((N + k : Nat) : Int)) (fun x => (N + p) - (intOf x).toNat)
      case atStart => exact ⟨0, Nat.zero_le _, rfl⟩
      case round =>
        obtain ⟨k, hk, rfl⟩ := hrel
        by_cases hlt : k < p
        · have hne : (((N : Int) + k) % 4 != 0) = true := by
            have := HMOD.out
            simp only [bne_iff_ne]
            omega
          go_wp2
          go_round
          case rel => exact ⟨k + 1, by omega, by go_num⟩
          case measure => simp [intOf]; omega
        · obtain rfl : k = p := by omega
          have hne : (((N : Int) + k) % 4 != 0) = false := by
            have := HMOD.out
            simp
            omega
          go_wp2_with fail
          rw [show ((N : Int) + k) = ((N + k : Nat) : Int) from by omega]
          have hsh := short_any g sv B i (N + k) 0 w1 ⟨HG.out, hb⟩ hi hB
          by_cases hs : l1.length < N + k
          · have hF : shortF (N + k) B i 0 = (true, 3) := by unfold shortF; rw [if_neg (by decide), if_pos (by omega)]
            rw [hF] at hsh
            clear hF
            refine hsh.mono ?_
            rintro en w2 ⟨rfl, hR2, hk2⟩
            go_wp2
            go_ret
            rw [HT.out, if_neg (by decide), if_neg (by have := HM0.out; omega), if_pos (by rw [← HP.out]; omega)]
            exact ⟨_, rfl, Bs.nil _, ⟨_, B, i, hR2.1, hR2.2, hi, hB, (fun h => absurd h (by decide)), fun _ => rfl⟩, hk1.trans hk2⟩
          · have hF : shortF (N + k) B i 0 = (false, 0) := by unfold shortF; rw [if_neg (by decide), if_neg (by omega)]
            rw [hF] at hsh
            clear hF
            refine hsh.mono ?_
            rintro en w2 ⟨rfl, hR2, hk2⟩
            have hsv := hb
            obtain ⟨ao, cap, rfl, hlc, hcm, hnone, -⟩ := hsv
            unfold maxLen at hcm
            have hk12 := hk1.trans hk2
            obtain ⟨Z, hZ⟩ : ∃ Z, Z = (l1.drop N).take k := ⟨_, rfl⟩
            have hZl : Z.length = k := by rw [hZ, List.length_take, List.length_drop]; omega
            have hZb : ∀ j (hj : j < Z.length), ∃ h : i + (N + j) < B.length, Z[j] = B[i + (N + j)] := fun j hj => by
              have h1 : i + (N + j) < B.length := by omega
              refine ⟨h1, ?_⟩
              subst hZ
              simp only [List.getElem_take, List.getElem_drop, HL1.out]
            have HZ := Lib.hid hZ; clear hZ
            have HZB := Lib.hid hZb; clear hZb
            have HZL := Lib.hid hZl; clear hZl
            have HB2 := Lib.hid hb; clear hb
            have HNN := Lib.hid hnone; clear hnone
            obtain ⟨M, hM⟩ : ∃ M, M = B.length := ⟨_, rfl⟩
            have hMs : N + k ≤ M - i := by omega
            rw [← hM] at hi hB hlc
            have HM := Lib.hid hM; clear hM hll
            clear hsh hs hc2
            go_wp2_with fail
            go_loopw [7] (fun x wr => ∃ j : Nat, j ≤ k ∧ x = .int .i64 ((N + j : Nat) : Int) ∧ (Z.take j).all (· == 0) = true ∧ Ro wr g (.slice ao M cap) B i 0 ∧ Keep g w wr) (fun x _ => (N + k) - (intOf x).toNat)
            case atStart => exact ⟨0, Nat.zero_le _, rfl, by simp, by rw [HM.out]; exact hR2, hk12⟩
            case round =>
              obtain ⟨j, hj, rfl, hall, hRr, hkr⟩ := hrel
              have HALL := Lib.hid hall; clear hall
              have hcr0 : wr.cell? ⟨g, 0, none⟩ = some (.slice ao M cap) := cell_at hRr.1 0
              have hcr1 : wr.cell? ⟨g, 1, none⟩ = some (.int .i64 i) := cell_at hRr.1 1
              have hcr2 : wr.cell? ⟨g, 2, none⟩ = some (.int .i64 0) := cell_at hRr.1 2
              have hfr1 := free_at hRr.1 1
              have hfr2 := free_at hRr.1 2
              by_cases hlt : j < k
              · have hjz : j < Z.length := by rw [HZL.out]; exact hlt
                obtain ⟨hjb, hzz⟩ := HZB.out j hjz
                obtain ⟨b, o, hao, hc⟩ := hRr.2.cells (by rw [← HM.out]; omega)
                subst hao
                have hcell := hc (i + (N + j)) hjb
                rw [← hzz] at hcell
                clear hc hzz hjb
                have hz : Z.take (j + 1) = Z.take j ++ [Z[j]] := List.take_succ_eq_append_getElem hjz
                have hzk : Z[j] = 0 ∨ Z.all (· == 0) = false := by
                  by_cases h0 : Z[j] = 0
                  · exact .inl h0
                  · right
                    rw [List.all_eq_false]
                    exact ⟨Z[j], List.getElem_mem hjz, by simpa using h0⟩
                generalize Z[j] = z at hcell hz hzk
                have hd : decide ((N : Int) + j < N + k) = true := by simp; omega
                have s1 : IntKind.i64.wrap ((i : Int) + ((N : Int) + j)) = (i : Int) + ((N : Int) + j) := IntWalk.i64_in _ (by omega)
                have s2 : (0 : Int) ≤ (i : Int) + ((N : Int) + j) := by omega
                have s3 : (i : Int) + ((N : Int) + j) < M := by omega
                have s4 : ((i : Int) + ((N : Int) + j)).toNat = i + (N + j) := by omega
                by_cases hz0 : z = 0
                · subst hz0
                  have hcell' : wr.cell? ⟨b, o + (i + (N + j)), none⟩ = some (.int .u8 0) := hcell
                  clear hcell hzk
                  have HZK := Lib.hid hz; clear hz
                  go_wp2_with fail
                  go_quiet (fail)
                  clear s1 s2 s3 s4
                  go_wp2
                  go_roundw
                  case rel => exact ⟨j + 1, by omega, by go_num, by rw [HZK.out, List.all_append, HALL.out]; rfl, hRr.below (below_drewN wr nq), hkr.trans (Keep.of_below (below_drewN wr nq))⟩
                  case measure => simp [intOf]; omega
                · have hnz : ((z.toNat : Int) != 0) = true := by
                    rw [bne_iff_ne]
                    intro h
                    apply hz0
                    apply UInt8.toNat_inj.1
                    have : z.toNat = 0 := by omega
                    rw [this]; rfl
                  have hcell' : wr.cell? ⟨b, o + (i + (N + j)), none⟩ = some (.int .u8 (z.toNat : Int)) := hcell
                  have HZF := Lib.hid (hzk.resolve_left hz0)
                  clear hcell hz hzk
                  go_wp2_with fail
                  go_quiet (fail)
                  clear s1 s2 s3 s4
                  go_wp2
                  go_ret
                  rw [HT.out, if_neg (by decide), if_neg (by have := HM0.out; omega), if_neg (by rw [← HP.out]; have := HL1.out; rw [this, List.length_drop, ← HM.out]; omega), if_neg (by rw [← HP.out, ← HZ.out, HZF.out]; decide)]
                  have hkk : Keep g wr ((wr.drewN nq).setCell ⟨g, 2, none⟩ (.int .i64 2)) := (Keep.of_below (below_drewN wr nq)).trans (Keep.setCell g 2 _ _)
                  have hR3 := hRr.keep i 2 hkk (heap_setCell_same (wr.drewN nq) g 2 _ 42 _ hRr.1)
                  exact ⟨_, rfl, Bs.nil _, ⟨_, B, i, hR3.1, hR3.2, by rw [← HM.out]; exact hi, by rw [← HM.out]; exact hB, (fun h => absurd h (by decide)), fun _ => rfl⟩, hkr.trans hkk⟩
              · obtain rfl : j = k := by omega
                have HZT : Hid (Z.all (· == 0) = true) := by
                  have := HALL.out
                  rwa [List.take_of_length_le (by rw [HZL.out]; exact Nat.le_refl _)] at this
                clear HALL
                have hd : decide ((N : Int) + j < N + j) = false := by simp
                have s1 : IntKind.i64.wrap ((i : Int) + (N : Int)) = (i : Int) + (N : Int) := IntWalk.i64_in _ (by omega)
                have s2 : (0 : Int) ≤ (i : Int) + (N : Int) := by omega
                have s3 : (i : Int) + (N : Int) ≤ cap := by omega
                have s5 : (i : Int) ≤ (i : Int) + (N : Int) := by omega
                have s4 : ((i : Int) + (N : Int)).toNat = i + N := by omega
                go_wp2_with fail
                go_quiet (fail)
                clear s1 s2 s3 s4 s5
                have hR3 := hRr.below (below_drewN wr nq)
                have hcut : Bs (wr.drewN nq) (.slice (if cap = i then ao else Option.map (fun x => x.add i) ao) N (cap - i)) (l1.take N) := by
                  have h1 : Sl (wr.drewN nq) (.slice ao M cap) M (B.map bv) := by have := hR3.2; unfold Bs at this; rw [← HM.out] at this; exact this
                  have h2 := sl_cut h1 i (i + N) (by omega) (by omega)
                  simp only [Nat.mul_one, Nat.add_sub_cancel_left] at h2
                  have hN : N = (l1.take N).length := by rw [List.length_take, HL1.out, List.length_drop, ← HM.out]; omega
                  unfold Bs
                  rw [List.map_take, ← hN, HL1.out, List.map_drop]
                  exact h2
                obtain ⟨ao', hao'⟩ : ∃ x, x = (if cap = i then ao else Option.map (fun x => x.add i) ao) := ⟨_, rfl⟩
                rw [← hao'] at hcut ⊢
                clear hao'
                have hkr' := hkr.trans (Keep.of_below (below_drewN wr nq))
                have hd3 : decide ((N : Int) + j < N + j) = false := by simp
                have HR3 := Lib.hid hR3; clear hR3
                go_wp2
                go_ret
                rw [HT.out, if_neg (by decide), if_neg (by have := HM0.out; omega), if_neg (by rw [← HP.out]; have := HL1.out; rw [this, List.length_drop, ← HM.out]; omega), if_pos (by rw [← HP.out, ← HZ.out, HZT.out]), ← HP.out]
                have hkk : Keep g (wr.drewN nq) ((wr.drewN nq).setCell ⟨g, 1, none⟩ (.int .i64 ((i : Int) + ((N : Int) + j)))) := Keep.setCell g 1 _ _
                have hR4 := HR3.out.keep (i + (N + j)) 0 hkk (heap_setCell_same (wr.drewN nq) g 1 _ 42 _ HR3.out.1)
                refine ⟨_, rfl, hcut.keep hkk ?_, ⟨_, B, i + (N + j), hR4.1, hR4.2, by rw [← HM.out]; omega, by rw [← HM.out]; exact hB, (fun _ => by rw [HL1.out, List.drop_drop]), (fun h => absurd rfl h)⟩, hkr'.trans hkk⟩
                intro q n
                rw [cell_at HR3.out.1]
                match q with
                | 0 => simp
                | 1 => simp
                | 2 => simp
                | q + 3 => simp
  · have hne : (e1 != 0) = true := by simpa using he
    go_enter Try.func33, Try.ntmps33
    go_wp2_with fail
    refine HU.out.mono ?_
    rintro en w1 ⟨rfl, hR1, hk1⟩
    have hR1' := hR1
    obtain ⟨sv, B, i, hg, hb, hi, hB, hl0, hle⟩ := hR1
    have hc2 : w1.cell? ⟨g, 2, none⟩ = some (.int .i64 e1) := cell_at hg 2
    clear hg hl0 hle
    go_wp2
    go_ret
    rw [HT.out, if_pos he]
    exact ⟨_, rfl, Bs.nil _, hR1', hk1⟩
end Go.Proofs.Ytolcjgogalenhaa
