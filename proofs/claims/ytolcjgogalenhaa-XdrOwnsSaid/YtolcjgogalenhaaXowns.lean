/-
  'truchmanlaw01.XdrOwns' returns true at every input, and leaves all that was there as it was.
-/
import Derived.Test.YtolcjgogalenhaaXh
import Derived.Test.YtolcjgogalenhaaSchedB
namespace Go.Proofs.Ytolcjgogalenhaa
open Go.RowKit

theorem Bs.other {w w' : World} {v : Value} {l : List UInt8} {row : Option Nat} (h : Bs w v l) (hg : w.grownBy w' row) (hne : ∀ k, row = some k → v.ownBlock ≠ some k) : Bs w' v l := by
  obtain ⟨ao, cap, rfl, h1, h2, h3, h4⟩ := h
  refine ⟨ao, cap, rfl, h1, h2, h3, ?_⟩
  rcases h4 with h4 | ⟨b, o, rfl, hc⟩
  · exact .inl h4
  · refine .inr ⟨b, o, rfl, fun i u hu => ?_⟩
    refine World.grownBy.cell hg (hc i u hu) ?_
    intro h
    exact hne b h.symm rfl

set_option maxRecDepth 100000 in
set_option maxHeartbeats 4000000 in
theorem xdrOwns_walk (v0 : Value) (y : Int) (l0 : List UInt8) (w : World) (h0 : Bs w v0 l0) (hy : (Lit.int .u8 y).wf = true) :
    Calls Try.prog 5 #[v0, .int .u8 y] w fun e w' => e = .returned (.bool true) ∧ Below w.heap.size w w' := by
  have HY := Lib.hid hy; clear hy
  go_enter Try.func5, Try.ntmps5
  go_wp2_with fail
  refine (few_any v0 l0 24 _ h0 (by decide)).mono ?_
  rintro e w1 ⟨x1, rfl, hown1, hb1⟩
  go_wp2_with fail
  refine (few_any v0 l0 24 _ (h0.below hb1) (by decide)).mono ?_
  rintro e w2 ⟨x2, rfl, hown2, hb2⟩
  have hLl : (l0.take 24).length ≤ 24 := List.length_take_le _ _
  have hlt1 : ∀ k, x1.ownBlock = some k → w.heap.size ≤ k ∧ k < w1.heap.size := fun k hk => hown1.lt k hk
  have hlt2 : ∀ k, x2.ownBlock = some k → w1.heap.size ≤ k := fun k hk => (hown2.lt k hk).1
  have hg12 : w1.grownBy w2 none := ⟨hb2.os, hb2.tape, hb2.output, hb2.size, fun k hk _ => hb2.block k hk⟩
  have hown12 := hown1.kept hg12 (by cases x1.ownBlock <;> simp)
  have hB1 : Bs w2 x1 (l0.take 24) := (Bs.of_own hown1).below hb2
  have hB2 : Bs w2 x2 (l0.take 24) := Bs.of_own hown2
  have hb12 := Below.thenB hb1 hb2
  have hs12 := hb2.size
  clear hown1 hown2 h0
  generalize l0.take 24 = L at *
  obtain ⟨ao2, cap2, hx2⟩ : ∃ ao cap, x2 = .slice ao L.length cap := by obtain ⟨ao, cap, h, -⟩ := hB2; exact ⟨ao, cap, h⟩
  have HL1 := Lib.hid hlt1; clear hlt1
  have HL2 := Lib.hid hlt2; clear hlt2
  subst hx2
  have hal : Below w2.heap.size w2 (w2.alloc (.cells #[.slice ao2 L.length cap2, .int .i64 0, .int .i64 0] 42)) := (Below.refl _ _).alloc (Nat.le_refl _) _
  have hgw : (w2.alloc (.cells #[.slice ao2 L.length cap2, .int .i64 0, .int .i64 0] 42)).heap[w2.heap.size]? = some (.cells #[.slice ao2 L.length cap2, .int .i64 0, .int .i64 0] 42 (0, 0)) := heap_alloc_new w2 _
  have hrd := read_any x1 L _ (hB1.below hal) (by omega)
  have HGW := Lib.hid hgw; clear hgw
  have HAL := Lib.hid hal; clear hal
  have HRD := Lib.hid hrd; clear hrd
  have HB2 := Lib.hid hB2; clear hB2
  have HOWN := Lib.hid hown12; clear hown12
  have HB12 := Lib.hid hb12; clear hb12 hg12 hB1 hb1 hb2
  go_wp2_with fail
  refine HRD.out.mono ?_
  rintro e w4 ⟨gr, sv, rfl, hgr, hgrb, hsv, hb4, hsvo⟩
  have hb24 := HAL.out.trans (hb4.mono (by simp))
  have hgw4 : w4.heap[w2.heap.size]? = some (.cells #[.slice ao2 L.length cap2, .int .i64 0, .int .i64 0] 42 (0, 0)) := by
    rw [hb4.block w2.heap.size (by simp)]; exact HGW.out
  have hB24 : Bs w4 (.slice ao2 L.length cap2) L := HB2.out.below hb24
  have hown4 : w4.ownsRow w.heap.size 5 1 x1 L.length (L.map bv) := HOWN.out.kept (row := none) ⟨hb24.os, hb24.tape, hb24.output, hb24.size, fun k hk _ => hb24.block k hk⟩ (by cases x1.ownBlock <;> simp)
  have hbw4 : Below w.heap.size w w4 := Below.thenB HB12.out hb24
  have hgr' : w2.heap.size < gr := by simp at hgr; omega
  have HGR := Lib.hid hgrb; clear hgrb
  have HSV := Lib.hid hsv; clear hsv
  have HSO := Lib.hid hsvo; clear hsvo
  have HGW4 := Lib.hid hgw4; clear hgw4
  have HB24 := Lib.hid hB24; clear hB24
  have HBW4 := Lib.hid hbw4; clear hbw4 hb24 hb4
  have HW12 : Hid (w1.heap.size ≤ w2.heap.size) := by
    show w1.heap.size ≤ w2.heap.size
    exact hs12
  obtain ⟨ao1, cap1, hx1⟩ := own_shape hown4
  subst hx1
  obtain ⟨n, hn⟩ : ∃ n, n = L.length := ⟨_, rfl⟩
  have hLl' := hLl
  rw [← hn] at hLl hown4
  have HN := Lib.hid hn
  have HO4 := Lib.hid hown4; clear hown4 hLl'
  rw [← hn] at HL1 HOWN HRD ⊢
  clear hn
  go_wp2_with fail
  go_loopw [8] (fun i wr => ∃ (k : Nat) (ns : List Int), k ≤ n ∧ i = .int .i64 k ∧ ns.length = n ∧ wr.ownsRow w.heap.size 5 1 (.slice ao1 n cap1) n (ns.map (Value.int .u8)) ∧ w4.grownBy wr (Value.ownBlock (.slice ao1 n cap1))) (fun i _ => n - (intOf i).toNat)
  case atStart =>
    refine ⟨0, L.map (fun c => (c.toNat : Int)), Nat.zero_le _, rfl, by simp [HN.out], ?_, World.grownBy.refl _ _⟩
    rw [List.map_map]
    exact HO4.out
  case round =>
    obtain ⟨k, ns, hk, rfl, hns, hown, hgk⟩ := hrel
    by_cases hlt : k < n
    · obtain ⟨g, hao⟩ : ∃ g, ao1 = some ⟨g, 0, none⟩ := by
        rcases hown.2 with ⟨h, h'⟩ | ⟨g, cap, cur, hv, _⟩
        · omega
        · simp only [Value.slice.injEq] at hv
          exact ⟨g, hv.1⟩
      subst hao
      have hcell : wr.cell? ⟨g, k, none⟩ = some (.int .u8 (ns.getD k 0)) := by
        rw [hown.cellAt k (by omega)]
        have : k < ns.length := by omega
        simp [List.getD, this]
      have hfz := hown.frozenAt k
      have hst := fun u => hown.stored k u
      have hgk' : w4.grownBy wr (some g) := hgk
      generalize ns.getD k 0 = z at hcell
      have HST := Lib.hid hst; clear hst hown
      go_wp2
      go_roundw
      case rel =>
        refine ⟨k + 1, ns.set k (bits .xor .u8 z y), by omega, by go_num, by rw [List.length_set]; exact hns, ?_, hgk'.trans (HST.out _).2⟩
        rw [List.map_set]
        exact (HST.out _).1
      case measure => simp [intOf]; omega
    · obtain rfl : k = n := by omega
      have hRd : Rd wr gr 0 L := by
        refine ⟨sv, ?_, HSV.out.other hgk ?_⟩
        · rw [World.grownBy.block hgk gr (Array.getElem?_eq_some_iff.1 HGR.out).1 ?_]
          · exact HGR.out
          · intro h
            have := HL1.out gr h.symm
            have := HW12.out
            omega
        · intro q hq h
          have h1 := HL1.out q hq
          have h2 := HSO.out q h
          have := HW12.out
          simp at h2
          omega
      have hRf : Rf wr w2.heap.size 0 L := by
        refine ⟨_, L, 0, ?_, HB24.out.other hgk ?_, Nat.zero_le _, by rw [← HN.out]; omega, fun _ => rfl, fun h => absurd rfl h⟩
        · rw [World.grownBy.block hgk w2.heap.size (Array.getElem?_eq_some_iff.1 HGW4.out).1 ?_]
          · exact HGW4.out
          · intro h
            have := HL1.out _ h.symm
            have := HW12.out
            omega
        · intro q hq h
          have h1 := HL1.out q hq
          have h2 := HL2.out q h
          omega
      have hBr : Below w.heap.size w wr := HBW4.out.grown hgk HBW4.out.size (fun q hq => (HL1.out q hq).1)
      have hgw0 : w.heap.size ≤ w2.heap.size := HB12.out.size
      clear hgk hown
      go_wp2_with fail
      go_loopw [9] (fun i wr => ∃ (k : Nat) (e : Int) (l : List UInt8), k ≤ 4 ∧ i = .int .i64 k ∧ Rd wr gr e l ∧ Rf wr w2.heap.size e l ∧ Below w.heap.size w wr) (fun i _ => 4 - (intOf i).toNat)
      case atStart => exact ⟨0, 0, L, Nat.zero_le _, rfl, hRd, hRf, hBr⟩
      case round =>
        clear hRd hRf hBr
        obtain ⟨j, e, l, hj, rfl, hRd, hRf, hBr⟩ := hrel
        by_cases hlt4 : j < 4
        · go_wp2_with fail
          generalize hx : numF 8 e l = x
          obtain ⟨v8, e1, l1⟩ := x
          have hRdD := hRd.below ((Below.refl wr.heap.size wr).drew)
          have hRfD := hRf.below ((Below.refl wr.heap.size wr).drew)
          have hBrD := hBr.drew
          refine SchedB.wp_region_sched (fun _ => True) ((0, true) :: (2, true) :: (1, false) :: (3, false) :: (4, true) :: (5, true) :: (6, true) :: (8, true) :: (7, false) :: (9, false) :: (10, true) :: (11, true) :: (12, true) :: (13, true) :: (14, true) :: (15, true) :: (17, true) :: (18, true) :: (19, true) :: (20, true) :: (16, false) :: (21, true) :: (22, true) :: []) (by kernel_rfl) (by kernel_rfl) (by kernel_rfl) (by kernel_rfl) (fun _ _ _ _ _ h => h) ?_ ?_
          · trivial
          generalize wr.drew = W0 at hRdD hRfD hBrD ⊢
          repeat (refine SchedB.wpSched_take (by simp only [List.getElem?_toArray, List.getElem?_cons_succ, List.getElem?_cons_zero]; rfl) (by rfl) _ (fun wx hC => by (try dsimp only at hC); go_simp; (try rfl)) ?_; simp only [Act.put, List.setIfInBounds_toArray, List.set_cons_zero, List.set_cons_succ])
          refine SchedB.wpSched_run (by simp only [List.getElem?_toArray, List.getElem?_cons_succ, List.getElem?_cons_zero]; rfl) (by rfl) (fun K hK => ?_)
          go_simp
          have h1 := rdU64_any gr e l W0 hRdD
          rw [hx] at h1
          refine h1.mono ?_
          rintro en W1 ⟨rfl, hRd1, hk1⟩
          have hRf1 := hRfD.keep hk1 (by omega) hRdD.noByte
          refine hK _ _ (fun _ => True) trivial (fun _ _ => trivial) ?_
          clear hK h1
          refine SchedB.wpSched_run (by simp only [List.getElem?_toArray, List.getElem?_cons_succ, List.getElem?_cons_zero]; rfl) (by rfl) (fun K hK => ?_)
          go_simp
          have h2 := rfU64_any _ e l W1 hRf1
          rw [hx] at h2
          refine h2.mono ?_
          rintro en W2 ⟨rfl, hRf2, hk2⟩
          have hRd2 := hRd1.keep hk2 (by omega) hRf1.noByte
          have hB2 : Below w.heap.size w W2 := (hBrD.grown hk1 hBrD.size (fun q hq => by obtain rfl := Option.some.inj hq; omega)).grown hk2 (by have := hBrD.size; have := World.grownBy.size hk1; omega) (fun q hq => by obtain rfl := Option.some.inj hq; omega)
          refine hK _ _ (fun _ => True) trivial (fun _ _ => trivial) ?_
          clear hK h2 hRf1 hRd1 hk1 hk2 hRdD hRfD hBrD
          repeat (refine SchedB.wpSched_take (by simp only [List.getElem?_toArray, List.getElem?_cons_succ, List.getElem?_cons_zero]; rfl) (by rfl) _ (fun wx hC => by (try dsimp only at hC); go_simp; (try rfl)) ?_; simp only [Act.put, List.setIfInBounds_toArray, List.set_cons_zero, List.set_cons_succ])
          refine SchedB.wpSched_run (by simp only [List.getElem?_toArray, List.getElem?_cons_succ, List.getElem?_cons_zero]; rfl) (by rfl) (fun K hK => ?_)
          go_simp
          refine (rdLeft_any gr e1 l1 W2 hRd2).mono ?_
          rintro en W3 ⟨rfl, rfl⟩
          refine hK _ _ (fun _ => True) trivial (fun _ _ => trivial) ?_
          clear hK
          refine SchedB.wpSched_run (by simp only [List.getElem?_toArray, List.getElem?_cons_succ, List.getElem?_cons_zero]; rfl) (by rfl) (fun K hK => ?_)
          go_simp
          refine (rfLeft_any _ e1 l1 W2 hRf2).mono ?_
          rintro en W3 ⟨rfl, hRf3, hk3⟩
          have hRd3 := hRd2.keep hk3 (by omega) hRf2.noByte
          have hB3 : Below w.heap.size w W3 := hB2.grown hk3 hB2.size (fun q hq => by obtain rfl := Option.some.inj hq; omega)
          refine hK _ _ (fun x => x.cell? ⟨w2.heap.size, 2, none⟩ = some (.int .i64 e1)) ?_ (fun _ _ => trivial) ?_
          · obtain ⟨sv', B', i', h', -⟩ := hRf3
            exact cell_at h' 2
          clear hK hRf2 hRd2 hB2 hk3
          repeat (refine SchedB.wpSched_take (by simp only [List.getElem?_toArray, List.getElem?_cons_succ, List.getElem?_cons_zero]; rfl) (by rfl) _ (fun wx hC => by (try dsimp only at hC); go_simp; (try rfl)) ?_; simp only [Act.put, List.setIfInBounds_toArray, List.set_cons_zero, List.set_cons_succ])
          refine SchedB.wpSched_run (by simp only [List.getElem?_toArray, List.getElem?_cons_succ, List.getElem?_cons_zero]; rfl) (by rfl) (fun K hK => ?_)
          go_simp
          refine (rdErrno_any gr e1 l1 W3 hRd3).mono ?_
          rintro en W4 ⟨rfl, rfl⟩
          refine hK _ _ (fun x => x.cell? ⟨w2.heap.size, 2, none⟩ = some (.int .i64 e1)) ?_ (fun _ h => h) ?_
          · obtain ⟨sv', B', i', h', -⟩ := hRf3
            exact cell_at h' 2
          clear hK
          repeat (refine SchedB.wpSched_take (by simp only [List.getElem?_toArray, List.getElem?_cons_succ, List.getElem?_cons_zero]; rfl) (by rfl) _ (fun wx hC => by (try dsimp only at hC); go_simp; (try rfl)) ?_; simp only [Act.put, List.setIfInBounds_toArray, List.set_cons_zero, List.set_cons_succ])
          refine SchedB.wpSched_nil ?_
          go_wp2
          go_show
          exact ⟨⟨j + 1, e1, l1, by omega, by go_num, hRd3, hRf3, hB3⟩, by simp [intOf]; omega⟩
        · obtain rfl : j = 4 := by omega
          go_wp2_with fail
          refine (lives_any _).mono ?_
          rintro en W1 ⟨rfl, hbl⟩
          go_wp2
          go_ret
          exact ⟨rfl, hBr.trans (hbl.mono hBr.size)⟩
end Go.Proofs.Ytolcjgogalenhaa
