/-
  The reader of layer 1: what 'Text' reads.
-/
import Derived.Test.YtolcjgogalenhaaXr
namespace Go.Proofs.Ytolcjgogalenhaa
open Go.RowKit

/-- The next text of at most so many bytes: it, the error behind it, what is left. -/
def textF (most e : Int) (l : List UInt8) : List UInt8 × Int × List UInt8 :=
  let x := numF 4 e l
  if x.2.1 ≠ 0 then ([], x.2.1, x.2.2)
  else if most < x.1 then ([], 4, [])
  else if x.2.2.length < x.1.toNat + padN x.1.toNat then ([], 3, [])
  else if ((x.2.2.drop x.1.toNat).take (padN x.1.toNat)).all (· == 0) then (x.2.2.take x.1.toNat, 0, x.2.2.drop (x.1.toNat + padN x.1.toNat))
  else ([], 2, [])

theorem textF_of {most e n e1 : Int} {l l1 : List UInt8} (h : numF 4 e l = (n, e1, l1)) :
    textF most e l = if e1 ≠ 0 then ([], e1, l1) else if most < n then ([], 4, []) else if l1.length < n.toNat + padN n.toNat then ([], 3, [])
      else if ((l1.drop n.toNat).take (padN n.toNat)).all (· == 0) then (l1.take n.toNat, 0, l1.drop (n.toNat + padN n.toNat)) else ([], 2, []) := by
  unfold textF; rw [h]

/-- What 'Text' hands back. -/
def TextPost (w : World) (g : Nat) (r : List UInt8 × Int × List UInt8) (en : Ending) (w' : World) : Prop :=
  ∃ v, en = .returned v ∧ Bs w' v r.1 ∧ Rd w' g r.2.1 r.2.2 ∧ Keep g w w'

set_option maxRecDepth 100000 in
set_option maxHeartbeats 1600000 in
theorem rdText_any (g : Nat) (most e : Int) (l : List UInt8) (w : World) (h : Rd w g e l) (hl30 : l.length ≤ 1073741824) :
    Calls Try.prog 28 #[.pointer (some ⟨g, 0, none⟩), .int .i64 most] w (TextPost w g (textF most e l)) := by
  have hu := rdU32_any g e l w h
  have hbd := numF_bd 4 e l
  have hlen : (numF 4 e l).2.2.length ≤ l.length := by
    unfold numF
    split
    · exact Nat.le_refl _
    · split
      · simp
      · simp
  have htf : ∀ n e1 l1, numF 4 e l = (n, e1, l1) → _ := fun n e1 l1 h => textF_of (most := most) h
  generalize hx : numF 4 e l = x at hu hbd hlen htf
  obtain ⟨n, e1, l1⟩ := x
  have htf := htf n e1 l1 rfl
  simp only at hu hbd hlen
  obtain ⟨hn0, hn1⟩ := hbd
  obtain ⟨N, rfl⟩ := Int.eq_ofNat_of_zero_le hn0
  have hn1 : N < 4294967296 := by have : (N : Int) < 4294967296 := hn1; omega
  rw [Int.toNat_natCast] at htf
  have HT := Lib.hid htf; clear htf hx hn0
  obtain ⟨p, hp⟩ : ∃ p : Nat, p = padN N := ⟨_, rfl⟩
  have hp3 : p ≤ 3 := by subst hp; unfold padN; omega
  have hpi : (4 - (N : Int) % 4) % 4 = (p : Int) := by subst hp; unfold padN; omega
  have HPI := Lib.hid hpi; clear hpi
  have HP := Lib.hid hp; clear hp
  have HU := Lib.hid hu; clear hu h
  by_cases he : e1 = 0
  · subst he
    have hRest : ∀ w1, Rd w1 g 0 l1 → ∃ ao cap, w1.cell? ⟨g, 0, none⟩ = some (.int .i64 0) ∧ w1.cell? ⟨g, 1, none⟩ = some (.slice ao l1.length cap) ∧ Sl w1 (.slice ao l1.length cap) l1.length (l1.map bv) ∧ w1.frozen? ⟨g, 1, none⟩ = false ∧ w1.heap[g]? = some (.cells #[.int .i64 0, .slice ao l1.length cap] 51 (0, 0)) := fun w1 hR => by
      obtain ⟨sv, hg, hb⟩ := hR
      have hb0 := hb
      obtain ⟨ao, cap, rfl, hlc, hcm, -, -⟩ := hb
      exact ⟨ao, cap, cell_at hg 0, cell_at hg 1, hb0, free_at hg 1, hg⟩
    by_cases hm : most < N
    · go_enter Try.func28, Try.ntmps28
      go_wp2_with fail
      refine HU.out.mono ?_
      rintro en w1 ⟨rfl, hR1, hk1⟩
      obtain ⟨ao, cap, hc0, hc1, -, -, -⟩ := hRest w1 hR1
      go_wp2_with fail
      refine (pad_any _ _ (by omega) (by omega)).mono ?_
      rintro en w2 ⟨rfl, rfl⟩
      rw [HPI.out]
      go_wp2_with fail
      refine (fail_any g 0 4 l1 _ hR1).mono ?_
      rintro en w2 ⟨rfl, hR2, hk2⟩
      go_wp2
      go_ret
      rw [HT.out, if_neg (by decide), if_pos hm]
      exact ⟨_, rfl, Bs.nil _, hR2, hk1.trans hk2⟩
    · have hm' : decide (most < (N : Int)) = false := by simpa using hm
      have hm2 : ¬ most < (N : Int) := hm
      have HM0 := Lib.hid hm; clear hm
      by_cases hs : l1.length < N + p
      · have hsd : decide ((l1.length : Int) < N + p) = true := by simp; omega
        go_enter Try.func28, Try.ntmps28
        go_wp2_with fail
        refine HU.out.mono ?_
        rintro en w1 ⟨rfl, hR1, hk1⟩
        obtain ⟨ao, cap, hc0, hc1, -, -, -⟩ := hRest w1 hR1
        go_wp2_with fail
        refine (pad_any _ _ (by omega) (by omega)).mono ?_
        rintro en w2 ⟨rfl, rfl⟩
        rw [HPI.out]
        go_wp2_with fail
        refine (fail_any g 0 3 l1 _ hR1).mono ?_
        rintro en w2 ⟨rfl, hR2, hk2⟩
        go_wp2
        go_ret
        rw [HT.out, if_neg (by decide), if_neg (by have := HM0.out; omega), if_pos (by rw [← HP.out]; omega)]
        exact ⟨_, rfl, Bs.nil _, hR2, hk1.trans hk2⟩
      · go_enter Try.func28, Try.ntmps28
        go_wp2_with fail
        refine HU.out.mono ?_
        rintro en w1 ⟨rfl, hR1, hk1⟩
        obtain ⟨ao, cap, hc0, hc1, hsl, hf1, hgb⟩ := hRest w1 hR1
        have hlcap : l1.length ≤ cap ∧ cap ≤ maxLen := by
          obtain ⟨ao', cap', hv, h1, h2, -⟩ := hsl
          simp only [Value.slice.injEq, true_and] at hv
          obtain ⟨rfl, rfl⟩ := hv
          exact ⟨h1, h2⟩
        obtain ⟨hlc, hcm⟩ := hlcap
        unfold maxLen at hcm
        have HSL := Lib.hid hsl; clear hsl
        have HGB := Lib.hid hgb; clear hgb
        obtain ⟨M, hM⟩ : ∃ M, M = l1.length := ⟨_, rfl⟩
        rw [← hM] at hs hc1 hlc hlen
        have HM := Lib.hid hM; clear hM
        have hsd : decide ((M : Int) < N + p) = false := by simp; omega
        clear hRest
        go_wp2_with fail
        refine (pad_any _ _ (by omega) (by omega)).mono ?_
        rintro en w2 ⟨rfl, rfl⟩
        rw [HPI.out]
        go_wp2_with (refine wpList_slice_sl (o := ⟨some 45, _, _, _, _, _⟩) rfl (.tmp 42) (some (.tmp 43)) (some (.tmp 44)) 24 5 (.int .u8 0) 1 rfl Try.underlying24 Try.info5 ao M cap (l1.map bv) rfl ?c1 N (N + p) _ _ rfl rfl (.inr ⟨.i64, rfl⟩) (.inr ⟨.i64, rfl⟩) ?c2 ?c3 ?_)
        case c1 => rw [HM.out]; exact HSL.out
        case c2 => omega
        case c3 => omega
        intro ao2 cap2 hsl2
        rw [← List.map_drop, ← List.map_take] at hsl2
        obtain ⟨Z, hZ⟩ : ∃ Z, Z = (l1.drop N).take p := ⟨_, rfl⟩
        have hZl : Z.length = p := by rw [hZ, List.length_take, List.length_drop, ← HM.out]; omega
        rw [← hZ] at hsl2
        have HZ := Lib.hid hZ; clear hZ
        have HZL := Lib.hid hZl; clear hZl
        have HS2 := Lib.hid hsl2; clear hsl2
        go_wp2_with fail
        go_loop [8, 47] (fun _ i => ∃ k : Nat, k ≤ p ∧ i = .int .i64 k ∧ (Z.take k).all (· == 0) = true) (fun _ i => p - (intOf i).toNat)
        case atStart => exact ⟨0, Nat.zero_le _, rfl, by simp⟩
        case round =>
          obtain ⟨k, hk, rfl, hall⟩ := hrel
          have HALL := Lib.hid hall; clear hall
          by_cases hlt : k < p
          · have hkz : k < Z.length := by rw [HZL.out]; exact hlt
            obtain ⟨b, o, hao, hcell⟩ := Sl.at HS2.out (i := k) (u := bv Z[k]) (by simp [hkz])
            subst hao
            have hz : Z.take (k + 1) = Z.take k ++ [Z[k]] := List.take_succ_eq_append_getElem hkz
            have hzall : ∀ x, x ∈ Z → x = 0 ∨ Z.all (· == 0) = false := by
              intro x hx
              by_cases h0 : x = 0
              · exact .inl h0
              · right
                rw [List.all_eq_false]
                exact ⟨x, hx, by simpa using h0⟩
            have hzk := hzall Z[k] (List.getElem_mem hkz)
            clear hzall
            generalize Z[k] = z at hcell hz hzk
            by_cases hz0 : z = 0
            · subst hz0
              have hcell' : w1.cell? ⟨b, o + k, none⟩ = some (.int .u8 0) := hcell
              clear hcell hzk
              have HZK := Lib.hid hz; clear hz
              go_wp2_with fail
              go_round
              case rel => exact ⟨k + 1, by omega, by go_num, by rw [HZK.out, List.all_append, HALL.out]; rfl⟩
              case measure => simp [intOf]; omega
            · have hnz : ((z.toNat : Int) != 0) = true := by
                rw [bne_iff_ne]
                intro h
                apply hz0
                apply UInt8.toNat_inj.1
                have : z.toNat = 0 := by omega
                rw [this]; rfl
              have hcell' : w1.cell? ⟨b, o + k, none⟩ = some (.int .u8 (z.toNat : Int)) := hcell
              have HZF := Lib.hid (hzk.resolve_left hz0)
              clear hcell hz hzk
              go_wp2_with fail
              refine (fail_any g 0 2 l1 _ hR1).mono ?_
              rintro en w2 ⟨rfl, hR2, hk2⟩
              go_wp2
              go_ret
              rw [HT.out, if_neg (by decide), if_neg (by have := HM0.out; omega), if_neg (by rw [← HP.out, ← HM.out]; omega), if_neg (by rw [← HP.out, ← HZ.out, HZF.out]; decide)]
              exact ⟨_, rfl, Bs.nil _, hR2, hk1.trans hk2⟩
          · obtain rfl : k = p := by omega
            have HZT : Hid (Z.all (· == 0) = true) := by
              have := HALL.out
              rwa [List.take_of_length_le (by rw [HZL.out]; exact Nat.le_refl _)] at this
            clear HALL
            have hkn : N ≤ M := by omega
            go_wp2_with (refine wpList_slice_sl (o := ⟨some 61, _, _, _, _, _⟩) rfl (.tmp 59) none (some (.tmp 60)) 24 5 (.int .u8 0) 1 rfl Try.underlying24 Try.info5 ao M cap (l1.map bv) rfl ?d1 0 N _ _ rfl rfl (.inl ⟨rfl, rfl⟩) (.inr ⟨.i64, rfl⟩) ?d2 ?d3 ?_)
            case d1 => rw [HM.out]; exact HSL.out
            intro ao3 cap3 hsl3
            have hbs3 : Bs w1 (.slice ao3 N cap3) (l1.take N) := by
              have hN : N = (l1.take N).length := by rw [List.length_take, ← HM.out]; omega
              unfold Bs
              rw [List.map_take, ← hN]
              exact hsl3
            clear hsl3
            go_wp2_with fail
            refine (clone_any _ _ _ hbs3 (by rw [List.length_take]; omega)).mono ?_
            rintro en w2 ⟨v2, rfl, hbs2, hbel, -⟩
            have hR2 := hR1.below hbel
            have hg2 : w2.heap[g]? = some (.cells #[.int .i64 0, .slice ao M cap] 51 (0, 0)) := by
              have := HGB.out
              rw [← HM.out] at this
              rw [hbel.block g (Array.getElem?_eq_some_iff.1 this).1]; exact this
            have hc21 : w2.cell? ⟨g, 1, none⟩ = some (.slice ao M cap) := cell_at hg2 1
            have hf21 := free_at hg2 1
            have HG2 := Lib.hid hg2; clear hg2
            have hsl2' : Sl w2 (.slice ao M cap) M (l1.map bv) := by rw [HM.out]; exact Sl.below HSL.out hbel
            have hap : N + k ≤ M := by omega
            clear hc0 hc1 hf1
            go_wp2_with (refine wpList_slice_sl (o := ⟨some 69, _, _, _, _, _⟩) rfl (.tmp 67) (some (.tmp 68)) none 24 5 (.int .u8 0) 1 rfl Try.underlying24 Try.info5 ao M cap (l1.map bv) rfl hsl2' (N + k) M _ _ rfl rfl (.inr ⟨.i64, rfl⟩) (.inl ⟨rfl, rfl⟩) hap (Nat.le_refl _) ?_)
            intro ao4 cap4 hsl4
            have hbs4 : Bs w2 (.slice ao4 (M - (N + k)) cap4) (l1.drop (N + k)) := by
              have hN : M - (N + k) = (l1.drop (N + k)).length := by rw [List.length_drop, ← HM.out]
              unfold Bs
              rw [← hN]
              rw [← List.map_drop, List.take_of_length_le (by rw [List.length_map, ← hN]; exact Nat.le_refl _)] at hsl4
              exact hsl4
            clear hsl4 hsl2'
            go_wp2
            go_ret
            rw [HT.out, if_neg (by decide), if_neg (by have := HM0.out; omega), if_neg (by rw [← HP.out, ← HM.out]; omega), if_pos (by rw [← HP.out, ← HZ.out, HZT.out]), ← HP.out]
            exact ⟨_, rfl, hbs2.keep (Keep.setCell g 1 w2 _) hR2.noByte, ⟨_, heap_setCell_same w2 g 1 _ 51 _ HG2.out, hbs4.keep (Keep.setCell g 1 w2 _) hR2.noByte⟩, (hk1.trans (Keep.of_below hbel)).trans (Keep.setCell g 1 w2 _)⟩
  · have hne : (e1 != 0) = true := by simpa using he
    go_enter Try.func28, Try.ntmps28
    go_wp2_with fail
    refine HU.out.mono ?_
    rintro en w1 ⟨rfl, hR1, hk1⟩
    have hc0 : w1.cell? ⟨g, 0, none⟩ = some (.int .i64 e1) := by obtain ⟨sv, hg, -⟩ := hR1; exact cell_at hg 0
    go_wp2
    go_ret
    rw [HT.out, if_pos he]
    exact ⟨_, rfl, Bs.nil _, hR1, hk1⟩
end Go.Proofs.Ytolcjgogalenhaa
