/-
  'truchmanlaw01.XdrRound' returns true at every input, and leaves all that was there as it was.
-/
import Derived.Test.YtolcjgogalenhaaXl
import Derived.Test.YtolcjgogalenhaaSchedB
namespace Go.Proofs.Ytolcjgogalenhaa
open Go.RowKit

/-- What is laid of a number, a text, a yes or no and a number. -/
def recB (b : Bool) (m : Int) (p : Int × List UInt8) : List UInt8 := be32 p.1 ++ (textB (p.2.take 20) ++ (be32 (if b then 1 else 0) ++ be64 m))
def recs (b : Bool) (m : Int) (ps : List (Int × List UInt8)) : List UInt8 := ps.flatMap (recB b m)
theorem recB_length (b : Bool) (m : Int) (p : Int × List UInt8) : (recB b m p).length ≤ 43 ∧ (recB b m p).length % 4 = 0 := by
  have h := textB_length (p.2.take 20)
  have h2 : (p.2.take 20).length ≤ 20 := List.length_take_le _ _
  unfold padN at h
  simp only [recB, List.length_append, be32_length, be64]
  omega
theorem recs_snoc (b : Bool) (m : Int) (ps : List (Int × List UInt8)) (p : Int × List UInt8) : recs b m (ps ++ [p]) = recs b m ps ++ be32 p.1 ++ textB (p.2.take 20) ++ be32 (if b then 1 else 0) ++ be64 m := by simp [recs, recB, List.append_assoc]
theorem recs_cons (b : Bool) (m : Int) (ps : List (Int × List UInt8)) (p : Int × List UInt8) : recs b m (p :: ps) = be32 p.1 ++ (textB (p.2.take 20) ++ (be32 (if b then 1 else 0) ++ (be64 m ++ recs b m ps))) := by simp [recs, recB, List.append_assoc]
theorem recs_length (b : Bool) (m : Int) (ps : List (Int × List UInt8)) : (recs b m ps).length ≤ 43 * ps.length ∧ (recs b m ps).length % 4 = 0 := by
  induction ps with
  | nil => simp [recs]
  | cons p ps ih =>
    have h := recB_length b m p
    have e : (recs b m (p :: ps)).length = (recB b m p).length + (recs b m ps).length := by simp [recs]
    rw [e, List.length_cons]
    omega

set_option maxRecDepth 100000 in
set_option maxHeartbeats 4000000 in
theorem xdrRound_walk (v0 v1 : Value) (m : Int) (is : Bool) (zs : List Int) (vs : List Value) (ts : List (List UInt8)) (w : World) (h0 : Sl w v0 zs.length (zs.map (Value.int .u32))) (hz : ∀ z ∈ zs, 0 ≤ z ∧ z ≤ 4294967295)
    (h1 : Sl w v1 vs.length vs) (hts : ts.length = vs.length) (hv : ∀ (i : Nat) (v : Value) (t : List UInt8), vs[i]? = some v → ts[i]? = some t → Bs w v t) (hm : (Lit.int .u64 m).wf = true) :
    Calls Try.prog 8 #[v0, v1, .int .u64 m, .bool is] w fun e w' => e = .returned (.bool true) ∧ Below w.heap.size w w' := by
  obtain ⟨hm0, hm1⟩ := bounds_u64 hm
  have hm2 : m < 18446744073709551616 := by omega
  clear hm hm1
  have h0s := h0
  have h1s := h1
  obtain ⟨ao0, cap0, rfl, hlc0, hcm0, -, -⟩ := h0s
  obtain ⟨ao1, cap1, rfl, hlc1, hcm1, -, -⟩ := h1s
  unfold maxLen at hcm0 hcm1
  obtain ⟨n0, hn0⟩ : ∃ n, n = zs.length := ⟨_, rfl⟩
  obtain ⟨n1, hn1⟩ : ∃ n, n = vs.length := ⟨_, rfl⟩
  obtain ⟨N, hN⟩ : ∃ N, N = min n0 (min n1 5) := ⟨_, rfl⟩
  have hNi : min (n0 : Int) (min (n1 : Int) 5) = (N : Int) := by omega
  rw [← hn0] at h0 hlc0 ⊢
  rw [← hn1] at h1 hlc1 hts ⊢
  have hAt : ∀ k : Nat, k < N → ∃ z t b0 o0 b1 o1 v, (zs.zip ts)[k]? = some (z, t) ∧ (0 ≤ z ∧ z ≤ 4294967295) ∧ ao0 = some ⟨b0, o0, none⟩ ∧ ao1 = some ⟨b1, o1, none⟩ ∧ Bs w v t ∧
      ∀ W, Below w.heap.size w W → W.cell? ⟨b0, o0 + k, none⟩ = some (.int .u32 z) ∧ W.cell? ⟨b1, o1 + k, none⟩ = some v := by
    intro k hk
    have hk0 : k < zs.length := by omega
    have hk1 : k < vs.length := by omega
    have hk2 : k < ts.length := by omega
    obtain ⟨b0, o0, e0, hc0⟩ := Sl.at h0 (i := k) (u := .int .u32 zs[k]) (by simp [hk0])
    obtain ⟨b1, o1, e1, hc1⟩ := Sl.at h1 (i := k) (u := vs[k]) (by simp [hk1])
    refine ⟨zs[k], ts[k], b0, o0, b1, o1, vs[k], ?_, hz _ (List.getElem_mem hk0), e0, e1, hv k _ _ (by simp [hk1]) (by simp [hk2]), fun W hW => ?_⟩
    · rw [List.getElem?_zip_eq_some]
      simp [hk0, hk2]
    · rw [hW.cell (World.block_lt_of_cell? _ _ hc0), hW.cell (World.block_lt_of_cell? _ _ hc1)]
      exact ⟨hc0, hc1⟩
  have hNz : N ≤ (zs.zip ts).length := by rw [List.length_zip]; omega
  have hN0 : N ≤ n0 := by omega
  have hN1 : N ≤ n1 := by omega
  have hN5 : N ≤ 5 := by omega
  have hcs : (5 < n1 ∧ 5 < n0 ∧ (Value.int .i64 5 = .int .i64 (N : Int))) ∨ (5 < n1 ∧ n0 ≤ 5 ∧ (Value.int .i64 (n0 : Int) = .int .i64 (N : Int))) ∨ (n1 ≤ 5 ∧ n1 < n0 ∧ (Value.int .i64 (n1 : Int) = .int .i64 (N : Int))) ∨ (n1 ≤ 5 ∧ n0 ≤ n1 ∧ (Value.int .i64 (n0 : Int) = .int .i64 (N : Int))) := by
    simp only [Value.int.injEq, true_and]
    omega
  clear hNi
  clear hN hz hv h0 h1 hts hn0 hn1
  generalize zs.zip ts = ps at *
  have HAT := Lib.hid hAt; clear hAt
  have HNZ := Lib.hid hNz; clear hNz
  rcases hcs with ⟨hn1, hn0, hNe⟩ | ⟨hn1, hn0, hNe⟩ | ⟨hn1, hn0, hNe⟩ | ⟨hn1, hn0, hNe⟩
  all_goals
    have HNE := Lib.hid hNe; clear hNe
    go_enter Try.func8, Try.ntmps8
    go_wp2_with fail
    rw [HNE.out]
    clear HNE hn0 hn1
    go_loopw [9, 11] (fun x i wr => ∃ k : Nat, k ≤ N ∧ i = .int .i64 k ∧ Bs wr x (recs is m (ps.take k)) ∧ Below w.heap.size w wr) (fun _ i _ => N - (intOf i).toNat)
    case atStart => exact ⟨0, Nat.zero_le _, rfl, Bs.nil _, Below.refl _ _⟩
    case round =>
      obtain ⟨k, hk, rfl, hB, hb⟩ := hrel
      have hlen : (recs is m (ps.take k)).length ≤ 215 := by have := (recs_length is m (ps.take k)).1; have := List.length_take_le k ps; omega
      by_cases hlt : k < N
      · obtain ⟨z, t, b0, o0, b1, o1, v, hp, ⟨hz0, hz1⟩, ha0, ha1, hvt, hc⟩ := HAT.out k hlt
        subst ha0 ha1
        have htk : ps.take (k + 1) = ps.take k ++ [(z, t)] := by rw [List.take_add_one, hp]; rfl
        have HTK := Lib.hid htk; clear htk hp
        obtain ⟨hcl, hcs⟩ := hc wr hb
        have HC := Lib.hid hc; clear hc
        have HVT := Lib.hid hvt; clear hvt
        have h4 : (be32 z).length ≤ 4 := by simp [be32_length]
        have hk0 : k < n0 := by omega
        have hk1 : k < n1 := by omega
        go_wp2_with fail
        refine (u32_any _ _ z _ hB (by omega) hz0 hz1).mono ?_
        rintro e w1 ⟨x1, rfl, hown1, hb1⟩
        have hbw1 := Below.thenB hb hb1
        have hB1 := Bs.of_own hown1
        obtain ⟨-, hcs1⟩ := HC.out w1 hbw1
        clear hcl hcs hB hown1
        go_wp2_with fail
        refine (few_any v t 20 w1 (HVT.out.below hbw1) (by decide)).mono ?_
        rintro e w2 ⟨x2, rfl, hown2, hb2⟩
        have h20 : (t.take 20).length ≤ 20 := List.length_take_le _ _
        go_wp2_with fail
        refine (text_any x1 x2 _ _ w2 (hB1.below hb2) (Bs.of_own hown2) (by rw [List.length_append]; omega) (by omega)).mono ?_
        rintro e w3 ⟨x3, rfl, hown3, hb3⟩
        have ht27 : (textB (t.take 20)).length ≤ 27 := by rw [textB_length]; unfold padN; omega
        go_wp2_with fail
        refine (bool_any x3 _ is w3 (Bs.of_own hown3) (by rw [List.length_append, List.length_append]; omega)).mono ?_
        rintro e w4 ⟨x4, rfl, hown4, hb4⟩
        go_wp2_with fail
        refine (u64_any x4 _ m w4 (Bs.of_own hown4) (by rw [List.length_append, List.length_append, List.length_append, be32_length (if is then 1 else 0)]; omega) hm0 hm2).mono ?_
        rintro e w5 ⟨x5, rfl, hown5, hb5⟩
        have hbw5 := Below.thenB (Below.thenB (Below.thenB (Below.thenB hbw1 hb2) hb3) hb4) hb5
        have hB5 := Bs.of_own hown5
        clear hown2 hown3 hown4 hown5 hb1 hb2 hb3 hb4 hb5 hbw1 hB1 hcs1
        go_wp2
        go_roundw
        case rel => exact ⟨k + 1, by omega, by go_num, by rw [HTK.out, recs_snoc]; exact hB5, hbw5⟩
        case measure => simp [intOf]; omega
      · obtain rfl : N = k := by omega
        have hmod := (recs_length is m (ps.take N)).2
        go_wp2_with fail
        refine (read_any _ _ _ hB (by omega)).mono ?_
        rintro e w6 ⟨gr, sv, rfl, hgr, hgrb, hsv, hb6, hsvo⟩
        have hRd : Rd w6 gr 0 (recs is m (ps.take N)) := ⟨sv, hgrb, hsv⟩
        have hgr2 : w.heap.size ≤ gr := Nat.le_trans hb.size hgr
        have hbw6 := Below.thenB hb hb6
        have hsh := hB
        obtain ⟨axx, capx, rfl, -, -, -, -⟩ := hsh
        obtain ⟨T, hT⟩ : ∃ T, T = (recs is m (ps.take N)).length := ⟨_, rfl⟩
        rw [← hT] at hmod hlen ⊢
        have hmod2 : ((T : Int) % 4 == 0) = true := by simp; omega
        have HMOD := Lib.hid hmod; clear hmod hT
        clear hgr hgrb hsv hb6 hsvo hB hb hlt
        go_wp2_with fail
        go_loopw [13] (fun i wr => ∃ k : Nat, k ≤ N ∧ i = .int .i64 k ∧ Rd wr gr 0 (recs is m ((ps.take N).drop k)) ∧ Below w.heap.size w wr) (fun i _ => N - (intOf i).toNat)
        case atStart => exact ⟨0, Nat.zero_le _, rfl, hRd, hbw6⟩
        case round =>
          clear hRd hbw6
          obtain ⟨j, hj, rfl, hRd, hb⟩ := hrel
          by_cases hlt : j < N
          · obtain ⟨z, t, b0, o0, b1, o1, v, hp, ⟨hz0, hz1⟩, ha0, ha1, hvt, hc⟩ := HAT.out j hlt
            subst ha0 ha1
            have hdr : (ps.take N).drop j = (z, t) :: (ps.take N).drop (j + 1) := by
              have hj2 : j < (ps.take N).length := by have := HNZ.out; rw [List.length_take]; omega
              rw [List.drop_eq_getElem_cons hj2]
              congr 1
              have h3 : (ps.take N)[j]? = some (z, t) := by rw [List.getElem?_take_of_lt hlt]; exact hp
              rw [List.getElem?_eq_getElem hj2] at h3
              exact Option.some.inj h3
            have hl1 : (recs is m ((ps.take N).drop j)).length ≤ 215 := by have := (recs_length is m ((ps.take N).drop j)).1; have h9 : ((ps.take N).drop j).length ≤ 5 := by (rw [List.length_drop, List.length_take]; omega)
                                                                           omega
            rw [hdr, recs_cons] at hRd hl1
            rw [List.length_append] at hl1
            generalize hrr : recs is m ((ps.take N).drop (j + 1)) = r at hRd hl1
            have HRR := Lib.hid hrr; clear hrr hdr hp
            have hj0 : j < n0 := by omega
            have hj1 : j < n1 := by omega
            have h20 : (t.take 20).length ≤ 20 := List.length_take_le _ _
            have HH := Lib.hid hl1; clear hl1
            have HC := Lib.hid hc; clear hc
            have HVT := Lib.hid hvt; clear hvt
            have HZ0 := Lib.hid hz0; clear hz0
            have HZ1 := Lib.hid hz1; clear hz1
            go_wp2_with fail
            have hRdD := hRd.below ((Below.refl wr.heap.size wr).drew)
            have hbD := hb.drew
            refine SchedB.wp_region_sched (fun x => x.cell? ⟨b0, o0 + j, none⟩ = some (.int .u32 z) ∧ x.cell? ⟨b1, o1 + j, none⟩ = some v) ((0, true) :: (2, true) :: (3, true) :: (4, true) :: (5, true) :: (1, false) :: (6, true) :: (7, true) :: (8, true) :: (11, true) :: (12, true) :: (13, true) :: (14, true) :: (9, false) :: (10, true) :: (15, false) :: (16, true) :: (17, true) :: (18, true) :: (19, true) :: (20, true) :: (22, true) :: (21, false) :: (23, true) :: (24, true) :: (25, true) :: (26, true) :: (28, true) :: (27, false) :: (29, true) :: (30, true) :: []) (by kernel_rfl) (by kernel_rfl) (by kernel_rfl) (by kernel_rfl) (fun _ _ _ _ _ h => h) ?_ ?_
            · exact HC.out _ hbD
            generalize wr.drew = W0 at hRdD hbD ⊢
            repeat (refine SchedB.wpSched_take (by simp only [List.getElem?_toArray, List.getElem?_cons_succ, List.getElem?_cons_zero]; rfl) (by rfl) _ (fun wx hC => by (try dsimp only at hC); (try (obtain ⟨hC1, hC2⟩ := hC)); go_simp; (try rfl)) ?_; simp only [Act.put, List.setIfInBounds_toArray, List.set_cons_zero, List.set_cons_succ])
            refine SchedB.wpSched_run (by simp only [List.getElem?_toArray, List.getElem?_cons_succ, List.getElem?_cons_zero]; rfl) (by rfl) (fun K hK => ?_)
            go_simp
            have h1 := rdU32_any gr 0 _ W0 hRdD
            rw [numF_be32 z _ HZ0.out HZ1.out] at h1
            refine h1.mono ?_
            rintro en W1 ⟨rfl, hRd1, hk1⟩
            dsimp only at hRd1
            have hb1 := hbD.grown hk1 hbD.size (fun q hq => by obtain rfl := Option.some.inj hq; omega)
            refine hK _ _ (fun x => x.cell? ⟨b0, o0 + j, none⟩ = some (.int .u32 z) ∧ x.cell? ⟨b1, o1 + j, none⟩ = some v) (HC.out _ hb1) (fun _ h => h) ?_
            clear hK h1 hRdD hbD hk1
            repeat (refine SchedB.wpSched_take (by simp only [List.getElem?_toArray, List.getElem?_cons_succ, List.getElem?_cons_zero]; rfl) (by rfl) _ (fun wx hC => by (try dsimp only at hC); (try (obtain ⟨hC1, hC2⟩ := hC)); go_simp; (try rfl)) ?_; simp only [Act.put, List.setIfInBounds_toArray, List.set_cons_zero, List.set_cons_succ])
            refine SchedB.wpSched_run (by simp only [List.getElem?_toArray, List.getElem?_cons_succ, List.getElem?_cons_zero]; rfl) (by rfl) (fun K hK => ?_)
            go_simp
            have h2 := rdText_any gr 20 0 _ W1 hRd1 (by have := HH.out; omega)
            rw [textF_textB (t.take 20) _ 20 (by omega) (by omega)] at h2
            refine h2.mono ?_
            rintro en W2 ⟨u2, rfl, hBu, hRd2, hk2⟩
            dsimp only at hRd2 hBu
            have hb2 := hb1.grown hk2 hb1.size (fun q hq => by obtain rfl := Option.some.inj hq; omega)
            refine hK _ _ (fun x => (x.cell? ⟨b0, o0 + j, none⟩ = some (.int .u32 z) ∧ x.cell? ⟨b1, o1 + j, none⟩ = some v) ∧ (convert 24 9 u2).run Try.prog x = .ok (.string ⟨(t.take 20).toArray⟩) x) ⟨HC.out _ hb2, hBu.convert Try.underlying24 Try.underlying5 Try.underlying9⟩ (fun _ h => h.1) ?_
            clear hK h2 hRd1 hb1 hk2
            repeat (refine SchedB.wpSched_take (by simp only [List.getElem?_toArray, List.getElem?_cons_succ, List.getElem?_cons_zero]; rfl) (by rfl) _ (fun wx hC => by (try dsimp only at hC); (try (obtain ⟨hC1, hC2⟩ := hC)); go_simp; (try rfl)) ?_; simp only [Act.put, List.setIfInBounds_toArray, List.set_cons_zero, List.set_cons_succ])
            refine SchedB.wpSched_run (by simp only [List.getElem?_toArray, List.getElem?_cons_succ, List.getElem?_cons_zero]; rfl) (by rfl) (fun K hK => ?_)
            go_simp
            refine (few_any v t 20 W2 (HVT.out.below hb2) (by decide)).mono ?_
            rintro en W3 ⟨u3, rfl, hown3, hbb3⟩
            have hBu3 := Bs.of_own hown3
            have hb3 := Below.thenB hb2 hbb3
            have hRd3 := hRd2.below hbb3
            have hBv3 := hBu.below hbb3
            refine hK _ _ (fun x => ((x.cell? ⟨b0, o0 + j, none⟩ = some (.int .u32 z) ∧ x.cell? ⟨b1, o1 + j, none⟩ = some v) ∧ (convert 24 9 u2).run Try.prog x = .ok (.string ⟨(t.take 20).toArray⟩) x) ∧ (convert 24 9 u3).run Try.prog x = .ok (.string ⟨(t.take 20).toArray⟩) x) ⟨⟨HC.out _ hb3, hBv3.convert Try.underlying24 Try.underlying5 Try.underlying9⟩, hBu3.convert Try.underlying24 Try.underlying5 Try.underlying9⟩ (fun _ h => h.1) ?_
            clear hK hRd2 hb2 hBu hown3 hbb3
            repeat (refine SchedB.wpSched_take (by simp only [List.getElem?_toArray, List.getElem?_cons_succ, List.getElem?_cons_zero]; rfl) (by rfl) _ (fun wx hC => by (try dsimp only at hC); (try (obtain ⟨hC1, hC2⟩ := hC)); go_simp; (try rfl)) ?_; simp only [Act.put, List.setIfInBounds_toArray, List.set_cons_zero, List.set_cons_succ])
            refine SchedB.wpSched_run (by simp only [List.getElem?_toArray, List.getElem?_cons_succ, List.getElem?_cons_zero]; rfl) (by rfl) (fun K hK => ?_)
            go_simp
            have h4 := rdBool_any gr 0 _ W3 hRd3
            rw [boolF_be32] at h4
            refine h4.mono ?_
            rintro en W4 ⟨rfl, hRd4, hk4⟩
            have hb4 := hb3.grown hk4 hb3.size (fun q hq => by obtain rfl := Option.some.inj hq; omega)
            dsimp only at hRd4
            have hBv4 := hBv3.keep hk4 hRd3.noByte
            have hBu4 := hBu3.keep hk4 hRd3.noByte
            refine hK _ _ (fun x => ((x.cell? ⟨b0, o0 + j, none⟩ = some (.int .u32 z) ∧ x.cell? ⟨b1, o1 + j, none⟩ = some v) ∧ (convert 24 9 u2).run Try.prog x = .ok (.string ⟨(t.take 20).toArray⟩) x) ∧ (convert 24 9 u3).run Try.prog x = .ok (.string ⟨(t.take 20).toArray⟩) x) ⟨⟨HC.out _ hb4, hBv4.convert Try.underlying24 Try.underlying5 Try.underlying9⟩, hBu4.convert Try.underlying24 Try.underlying5 Try.underlying9⟩ (fun _ h => h) ?_
            clear hK h4 hRd3 hb3 hBv3 hBu3 hk4
            repeat (refine SchedB.wpSched_take (by simp only [List.getElem?_toArray, List.getElem?_cons_succ, List.getElem?_cons_zero]; rfl) (by rfl) _ (fun wx hC => by (try dsimp only at hC); (try (obtain ⟨hC1, hC2⟩ := hC)); go_simp; (try rfl)) ?_; simp only [Act.put, List.setIfInBounds_toArray, List.set_cons_zero, List.set_cons_succ])
            refine SchedB.wpSched_run (by simp only [List.getElem?_toArray, List.getElem?_cons_succ, List.getElem?_cons_zero]; rfl) (by rfl) (fun K hK => ?_)
            go_simp
            have h5 := rdU64_any gr 0 _ W4 hRd4
            rw [numF_be64 m _ hm0 hm2] at h5
            refine h5.mono ?_
            rintro en W5 ⟨rfl, hRd5, hk5⟩
            dsimp only at hRd5
            have hb5 := hb4.grown hk5 hb4.size (fun q hq => by obtain rfl := Option.some.inj hq; omega)
            have hBv5 := hBv4.keep hk5 hRd4.noByte
            have hBu5 := hBu4.keep hk5 hRd4.noByte
            refine hK _ _ (fun x => ((x.cell? ⟨b0, o0 + j, none⟩ = some (.int .u32 z) ∧ x.cell? ⟨b1, o1 + j, none⟩ = some v) ∧ (convert 24 9 u2).run Try.prog x = .ok (.string ⟨(t.take 20).toArray⟩) x) ∧ (convert 24 9 u3).run Try.prog x = .ok (.string ⟨(t.take 20).toArray⟩) x) ⟨⟨HC.out _ hb5, hBv5.convert Try.underlying24 Try.underlying5 Try.underlying9⟩, hBu5.convert Try.underlying24 Try.underlying5 Try.underlying9⟩ (fun _ h => h) ?_
            clear hK h5 hRd4 hb4 hBv4 hBu4 hBv5 hBu5 hk5
            repeat (refine SchedB.wpSched_take (by simp only [List.getElem?_toArray, List.getElem?_cons_succ, List.getElem?_cons_zero]; rfl) (by rfl) _ (fun wx hC => by (try dsimp only at hC); (try (obtain ⟨hC1, hC2⟩ := hC)); go_simp; (try rfl)) ?_; simp only [Act.put, List.setIfInBounds_toArray, List.set_cons_zero, List.set_cons_succ])
            refine SchedB.wpSched_nil ?_
            go_wp2
            go_show
            exact ⟨⟨j + 1, by omega, by go_num, by rw [HRR.out]; exact hRd5, hb5⟩, by simp [intOf]; omega⟩
          · obtain rfl : N = j := by omega
            have hnil : (ps.take N).drop N = [] := by rw [List.drop_eq_nil_iff]; exact List.length_take_le _ _
            have hRe : Rd wr gr 0 [] := by rw [hnil] at hRd; exact hRd
            clear hRd hnil
            go_wp2_with fail
            refine (rdEnd_any gr 0 [] wr hRe).mono ?_
            rintro e wr' ⟨rfl, rfl⟩
            go_wp2_with fail
            refine (rdLeft_any gr 0 [] wr hRe).mono ?_
            rintro e wr' ⟨rfl, rfl⟩
            go_wp2_with fail
            refine (lives_any _).mono ?_
            rintro e w9 ⟨rfl, hbl⟩
            go_wp2
            go_ret
            exact ⟨rfl, hb.trans (hbl.mono hb.size)⟩
end Go.Proofs.Ytolcjgogalenhaa
