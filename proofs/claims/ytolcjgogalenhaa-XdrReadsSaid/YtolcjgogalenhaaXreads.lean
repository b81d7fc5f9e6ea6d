/-
  'truchmanlaw01.XdrReads' returns true at every input, and leaves all that was there as it was.
-/
import Derived.Test.YtolcjgogalenhaaXh
import Derived.Test.YtolcjgogalenhaaXl
import Derived.Test.YtolcjgogalenhaaXpairs
import Derived.Test.YtolcjgogalenhaaSchedB
namespace Go.Proofs.Ytolcjgogalenhaa
open Go.RowKit

theorem numF_len (s : Nat) (e : Int) (l : List UInt8) : (numF s e l).2.2.length ≤ l.length := by
  unfold numF
  split
  · exact Nat.le_refl _
  · split
    · simp
    · simp
theorem boolF_len (e : Int) (l : List UInt8) : (boolF e l).2.2.length ≤ l.length := by
  unfold boolF
  dsimp only
  split
  · simp
  · exact numF_len 4 e l
theorem textF_len (M e : Int) (l : List UInt8) : (textF M e l).2.2.length ≤ l.length := by
  have h := numF_len 4 e l
  unfold textF
  dsimp only
  split
  · exact h
  · split
    · simp
    · split
      · simp
      · split
        · simp; omega
        · simp

set_option maxRecDepth 100000 in
set_option maxHeartbeats 8000000 in
theorem xdrReads_walk (v0 v1 : Value) (l0 : List UInt8) (n : Nat) (w : World) (h0 : Bs w v0 l0) (h1 : Pairs w v1 n) :
    Calls Try.prog 7 #[v0, v1] w fun e w' => e = .returned (.bool true) ∧ Below w.heap.size w w' := by
  obtain ⟨ao1, cap1, rfl, hm1, hn1, hp1⟩ := h1
  have HP := Lib.hid hp1; clear hp1
  unfold maxLen at hm1
  go_enter Try.func7, Try.ntmps7
  go_wp2_with fail
  refine (few_any v0 l0 60 _ h0 (by decide)).mono ?_
  rintro e w1 ⟨x1, rfl, hown1, hb1⟩
  have hLl : (l0.take 60).length ≤ 60 := List.length_take_le _ _
  have hB1 := Bs.of_own hown1
  clear hown1 h0
  generalize l0.take 60 = L at *
  obtain ⟨aox, capx, hsx⟩ : ∃ ao cap, x1 = .slice ao L.length cap := by obtain ⟨ao, cap, h, -⟩ := hB1; exact ⟨ao, cap, h⟩
  subst hsx
  have hrd := read_any (.slice aox L.length capx) L w1 hB1 (by omega)
  have HRD := Lib.hid hrd; clear hrd
  go_wp2_with fail
  refine HRD.out.mono ?_
  rintro e w2 ⟨gr, sv, rfl, hgr, hgrb, hsv, hb2, hsvo⟩
  have hB2 := hB1.below hb2
  have hb02 := Below.thenB hb1 hb2
  have hgr1 : gr < w2.heap.size := (Array.getElem?_eq_some_iff.1 hgrb).1
  have hgr2 : w.heap.size ≤ gr := Nat.le_trans hb1.size hgr
  have hRd2 : Rd w2 gr 0 L := ⟨sv, hgrb, hsv⟩
  clear hgrb hsv hsvo hb2 HRD hB1 hb1 hgr
  have hal : Below w2.heap.size w2 (w2.alloc (.cells #[.slice aox L.length capx, .int .i64 0, .int .i64 0] 42)) := (Below.refl _ _).alloc (Nat.le_refl _) _
  have hgw : (w2.alloc (.cells #[.slice aox L.length capx, .int .i64 0, .int .i64 0] 42)).heap[w2.heap.size]? = some (.cells #[.slice aox L.length capx, .int .i64 0, .int .i64 0] 42 (0, 0)) := heap_alloc_new w2 _
  have hRd : Rd (w2.alloc (.cells #[.slice aox L.length capx, .int .i64 0, .int .i64 0] 42)) gr 0 L := hRd2.below hal
  have hRf : Rf (w2.alloc (.cells #[.slice aox L.length capx, .int .i64 0, .int .i64 0] 42)) w2.heap.size 0 L :=
    ⟨_, L, 0, hgw, hB2.below hal, Nat.zero_le _, by omega, fun _ => rfl, fun h => absurd rfl h⟩
  have hb0A := Below.thenB hb02 hal
  have hw02 := hb02.size
  have H1 := Lib.hid hRd; clear hRd hRd2
  have H2 := Lib.hid hRf; clear hRf hgw hal hB2
  have H3 := Lib.hid hb0A; clear hb0A hb02
  go_wp2_with fail
  go_loopw [8] (fun i wr => ∃ (k : Nat) (e : Int) (l : List UInt8), k ≤ n ∧ k ≤ 10 ∧ i = .int .i64 k ∧ l.length ≤ 60 ∧ Rd wr gr e l ∧ Rf wr w2.heap.size e l ∧ Below w.heap.size w wr) (fun i _ => 10 - (intOf i).toNat)
  case atStart => exact ⟨0, 0, L, Nat.zero_le _, Nat.zero_le _, rfl, hLl, H1.out, H2.out, H3.out⟩
  case round =>
    clear H1 H2 H3
    obtain ⟨j, e, l, hj, hj10, rfl, hl, hRd, hRf, hb⟩ := hrel
    by_cases hc : j < n ∧ j < 10
    · obtain ⟨hlt, hlt10⟩ := hc
      obtain ⟨b, o, x, y, ha1, hcx, hcy, ⟨hx0, hx1⟩, hy0, hy1⟩ := HP.out j hlt
      subst ha1
      have hcx' : wr.cell? ⟨b, o + j * 2, none⟩ = some (.int .i64 x) := by rw [hb.cell (World.block_lt_of_cell? _ _ hcx)]; exact hcx
      have hcy' : wr.cell? ⟨b, o + j * 2 + 1, none⟩ = some (.int .i64 y) := by rw [hb.cell (World.block_lt_of_cell? _ _ hcy)]; exact hcy
      clear hcx hcy
      go_wp2_with fail
      refine (around_any x 5 wr hx0 hx1 (by decide) (by decide)).mono ?_
      rintro en wr' ⟨rfl, rfl⟩
      have hq := aroundF_bd x 5 (by decide)
      generalize aroundF x 5 = q at hq ⊢
      have hq5 : q = 0 ∨ q = 1 ∨ q = 2 ∨ q = 3 ∨ q = 4 := by omega
      clear hq hcx' hcy'
      rcases hq5 with rfl | rfl | rfl | rfl | rfl
      · have hlen := numF_len 4 e l
        have hd := rdU32_any gr e l wr hRd
        have hf := fun W (h : Rf W w2.heap.size e l) => rfU32_any w2.heap.size e l W h
        generalize numF 4 e l = xx at hlen hd hf
        obtain ⟨vv, e1, l1⟩ := xx
        dsimp only at hlen hd hf
        have HL1 : Hid (l1.length ≤ 60) := Lib.hid (Nat.le_trans hlen hl)
        have HD := Lib.hid hd; clear hd hlen
        have HF := Lib.hid hf; clear hf
        go_wp2_with fail
        refine HD.out.mono ?_
        rintro en W1 ⟨rfl, hRd1, hk1⟩
        have hRf1 := hRf.keep hk1 (by omega) hRd.noByte
        clear HD
        go_wp2_with fail
        refine (HF.out W1 hRf1).mono ?_
        rintro en W2 ⟨rfl, hRf2, hk2⟩
        have hRd2 := hRd1.keep hk2 (by omega) hRf1.noByte
        have hB2 : Below w.heap.size w W2 := (hb.grown hk1 hb.size (fun q hq => by obtain rfl := Option.some.inj hq; omega)).grown hk2 (by have := hb.size; have := World.grownBy.size hk1; omega) (fun q hq => by obtain rfl := Option.some.inj hq; omega)
        clear HF hRf1 hRd1 hk1 hk2 hRd hRf hb
        go_wp2_with fail
        have hRdX := hRd2.below ((Below.refl W2.heap.size W2).drew)
        have hRfX := hRf2.below ((Below.refl W2.heap.size W2).drew)
        have hBX := hB2.drew
        clear hRd2 hRf2 hB2
        refine SchedB.wp_region_sched (fun x => x.cell? ⟨w2.heap.size, 2, none⟩ = some (.int .i64 e1)) ((0, true) :: (1, true) :: (2, true) :: (4, true) :: (5, true) :: (6, true) :: (7, true) :: (3, false) :: (8, true) :: (9, true) :: (10, true) :: (12, true) :: (11, false) :: (13, false) :: (14, true) :: (15, true) :: (16, true) :: (17, true) :: (19, true) :: (18, false) :: (20, false) :: (21, true) :: (22, true) :: []) (by kernel_rfl) (by kernel_rfl) (by kernel_rfl) (by kernel_rfl) (fun _ _ _ _ _ h => h) ?_ ?_
        · obtain ⟨sv', B', i', h', -⟩ := hRfX
          exact cell_at h' 2
        generalize W2.drew = WX at hRdX hRfX hBX ⊢
        repeat (refine SchedB.wpSched_take (by simp only [List.getElem?_toArray, List.getElem?_cons_succ, List.getElem?_cons_zero]; rfl) (by rfl) _ (fun wx hC => by (try dsimp only at hC); go_simp; (try rfl)) ?_; simp only [Act.put, List.setIfInBounds_toArray, List.set_cons_zero, List.set_cons_succ])
        refine SchedB.wpSched_run (by simp only [List.getElem?_toArray, List.getElem?_cons_succ, List.getElem?_cons_zero]; rfl) (by rfl) (fun K hK => ?_)
        go_simp
        refine (rdErrno_any gr e1 l1 WX hRdX).mono ?_
        rintro en W4 ⟨rfl, rfl⟩
        refine hK _ _ (fun x => x.cell? ⟨w2.heap.size, 2, none⟩ = some (.int .i64 e1)) ?_ (fun _ h => h) ?_
        · obtain ⟨sv', B', i', h', -⟩ := hRfX
          exact cell_at h' 2
        clear hK
        repeat (refine SchedB.wpSched_take (by simp only [List.getElem?_toArray, List.getElem?_cons_succ, List.getElem?_cons_zero]; rfl) (by rfl) _ (fun wx hC => by (try dsimp only at hC); go_simp; (try rfl)) ?_; simp only [Act.put, List.setIfInBounds_toArray, List.set_cons_zero, List.set_cons_succ])
        refine SchedB.wpSched_run (by simp only [List.getElem?_toArray, List.getElem?_cons_succ, List.getElem?_cons_zero]; rfl) (by rfl) (fun K hK => ?_)
        go_simp
        refine (rdLeft_any gr e1 l1 WX hRdX).mono ?_
        rintro en W3 ⟨rfl, rfl⟩
        refine hK _ _ (fun x => x.cell? ⟨w2.heap.size, 2, none⟩ = some (.int .i64 e1)) ?_ (fun _ h => h) ?_
        · obtain ⟨sv', B', i', h', -⟩ := hRfX
          exact cell_at h' 2
        clear hK
        refine SchedB.wpSched_run (by simp only [List.getElem?_toArray, List.getElem?_cons_succ, List.getElem?_cons_zero]; rfl) (by rfl) (fun K hK => ?_)
        go_simp
        refine (rfLeft_any _ e1 l1 WX hRfX).mono ?_
        rintro en W3 ⟨rfl, hRf3, hk3⟩
        have hRd3 := hRdX.keep hk3 (by omega) hRfX.noByte
        have hB3 : Below w.heap.size w W3 := hBX.grown hk3 hBX.size (fun q hq => by obtain rfl := Option.some.inj hq; omega)
        refine hK _ _ (fun x => x.cell? ⟨w2.heap.size, 2, none⟩ = some (.int .i64 e1)) ?_ (fun _ h => h) ?_
        · obtain ⟨sv', B', i', h', -⟩ := hRf3
          exact cell_at h' 2
        clear hK hRfX hRdX hBX hk3
        repeat (refine SchedB.wpSched_take (by simp only [List.getElem?_toArray, List.getElem?_cons_succ, List.getElem?_cons_zero]; rfl) (by rfl) _ (fun wx hC => by (try dsimp only at hC); go_simp; (try rfl)) ?_; simp only [Act.put, List.setIfInBounds_toArray, List.set_cons_zero, List.set_cons_succ])
        refine SchedB.wpSched_run (by simp only [List.getElem?_toArray, List.getElem?_cons_succ, List.getElem?_cons_zero]; rfl) (by rfl) (fun K hK => ?_)
        go_simp
        refine (rdEnd_any gr e1 l1 W3 hRd3).mono ?_
        rintro en W4 ⟨rfl, rfl⟩
        refine hK _ _ (fun x => x.cell? ⟨w2.heap.size, 2, none⟩ = some (.int .i64 e1)) ?_ (fun _ h => h) ?_
        · obtain ⟨sv', B', i', h', -⟩ := hRf3
          exact cell_at h' 2
        clear hK
        refine SchedB.wpSched_run (by simp only [List.getElem?_toArray, List.getElem?_cons_succ, List.getElem?_cons_zero]; rfl) (by rfl) (fun K hK => ?_)
        go_simp
        refine (rfEnd_any _ e1 l1 W3 hRf3).mono ?_
        rintro en W4 ⟨rfl, hRf4, hk4⟩
        have hRd4 := hRd3.keep hk4 (by omega) hRf3.noByte
        have hB4 : Below w.heap.size w W4 := hB3.grown hk4 hB3.size (fun q hq => by obtain rfl := Option.some.inj hq; omega)
        refine hK _ _ (fun x => x.cell? ⟨w2.heap.size, 2, none⟩ = some (.int .i64 e1)) ?_ (fun _ h => h) ?_
        · obtain ⟨sv', B', i', h', -⟩ := hRf4
          exact cell_at h' 2
        clear hK hRf3 hRd3 hB3 hk4
        repeat (refine SchedB.wpSched_take (by simp only [List.getElem?_toArray, List.getElem?_cons_succ, List.getElem?_cons_zero]; rfl) (by rfl) _ (fun wx hC => by (try dsimp only at hC); go_simp; (try rfl)) ?_; simp only [Act.put, List.setIfInBounds_toArray, List.set_cons_zero, List.set_cons_succ])
        refine SchedB.wpSched_nil ?_
        go_wp2
        go_show
        exact ⟨⟨j + 1, e1, l1, by omega, by omega, by go_num, HL1.out, hRd4, hRf4, hB4⟩, by simp [intOf]; omega⟩
      · have hlen := numF_len 8 e l
        have hd := rdU64_any gr e l wr hRd
        have hf := fun W (h : Rf W w2.heap.size e l) => rfU64_any w2.heap.size e l W h
        generalize numF 8 e l = xx at hlen hd hf
        obtain ⟨vv, e1, l1⟩ := xx
        dsimp only at hlen hd hf
        have HL1 : Hid (l1.length ≤ 60) := Lib.hid (Nat.le_trans hlen hl)
        have HD := Lib.hid hd; clear hd hlen
        have HF := Lib.hid hf; clear hf
        go_wp2_with fail
        refine HD.out.mono ?_
        rintro en W1 ⟨rfl, hRd1, hk1⟩
        have hRf1 := hRf.keep hk1 (by omega) hRd.noByte
        clear HD
        go_wp2_with fail
        refine (HF.out W1 hRf1).mono ?_
        rintro en W2 ⟨rfl, hRf2, hk2⟩
        have hRd2 := hRd1.keep hk2 (by omega) hRf1.noByte
        have hB2 : Below w.heap.size w W2 := (hb.grown hk1 hb.size (fun q hq => by obtain rfl := Option.some.inj hq; omega)).grown hk2 (by have := hb.size; have := World.grownBy.size hk1; omega) (fun q hq => by obtain rfl := Option.some.inj hq; omega)
        clear HF hRf1 hRd1 hk1 hk2 hRd hRf hb
        go_wp2_with fail
        have hRdX := hRd2.below ((Below.refl W2.heap.size W2).drew)
        have hRfX := hRf2.below ((Below.refl W2.heap.size W2).drew)
        have hBX := hB2.drew
        clear hRd2 hRf2 hB2
        refine SchedB.wp_region_sched (fun x => x.cell? ⟨w2.heap.size, 2, none⟩ = some (.int .i64 e1)) ((0, true) :: (1, true) :: (2, true) :: (4, true) :: (5, true) :: (6, true) :: (7, true) :: (3, false) :: (8, true) :: (9, true) :: (10, true) :: (12, true) :: (11, false) :: (13, false) :: (14, true) :: (15, true) :: (16, true) :: (17, true) :: (19, true) :: (18, false) :: (20, false) :: (21, true) :: (22, true) :: []) (by kernel_rfl) (by kernel_rfl) (by kernel_rfl) (by kernel_rfl) (fun _ _ _ _ _ h => h) ?_ ?_
        · obtain ⟨sv', B', i', h', -⟩ := hRfX
          exact cell_at h' 2
        generalize W2.drew = WX at hRdX hRfX hBX ⊢
        repeat (refine SchedB.wpSched_take (by simp only [List.getElem?_toArray, List.getElem?_cons_succ, List.getElem?_cons_zero]; rfl) (by rfl) _ (fun wx hC => by (try dsimp only at hC); go_simp; (try rfl)) ?_; simp only [Act.put, List.setIfInBounds_toArray, List.set_cons_zero, List.set_cons_succ])
        refine SchedB.wpSched_run (by simp only [List.getElem?_toArray, List.getElem?_cons_succ, List.getElem?_cons_zero]; rfl) (by rfl) (fun K hK => ?_)
        go_simp
        refine (rdErrno_any gr e1 l1 WX hRdX).mono ?_
        rintro en W4 ⟨rfl, rfl⟩
        refine hK _ _ (fun x => x.cell? ⟨w2.heap.size, 2, none⟩ = some (.int .i64 e1)) ?_ (fun _ h => h) ?_
        · obtain ⟨sv', B', i', h', -⟩ := hRfX
          exact cell_at h' 2
        clear hK
        repeat (refine SchedB.wpSched_take (by simp only [List.getElem?_toArray, List.getElem?_cons_succ, List.getElem?_cons_zero]; rfl) (by rfl) _ (fun wx hC => by (try dsimp only at hC); go_simp; (try rfl)) ?_; simp only [Act.put, List.setIfInBounds_toArray, List.set_cons_zero, List.set_cons_succ])
        refine SchedB.wpSched_run (by simp only [List.getElem?_toArray, List.getElem?_cons_succ, List.getElem?_cons_zero]; rfl) (by rfl) (fun K hK => ?_)
        go_simp
        refine (rdLeft_any gr e1 l1 WX hRdX).mono ?_
        rintro en W3 ⟨rfl, rfl⟩
        refine hK _ _ (fun x => x.cell? ⟨w2.heap.size, 2, none⟩ = some (.int .i64 e1)) ?_ (fun _ h => h) ?_
        · obtain ⟨sv', B', i', h', -⟩ := hRfX
          exact cell_at h' 2
        clear hK
        refine SchedB.wpSched_run (by simp only [List.getElem?_toArray, List.getElem?_cons_succ, List.getElem?_cons_zero]; rfl) (by rfl) (fun K hK => ?_)
        go_simp
        refine (rfLeft_any _ e1 l1 WX hRfX).mono ?_
        rintro en W3 ⟨rfl, hRf3, hk3⟩
        have hRd3 := hRdX.keep hk3 (by omega) hRfX.noByte
        have hB3 : Below w.heap.size w W3 := hBX.grown hk3 hBX.size (fun q hq => by obtain rfl := Option.some.inj hq; omega)
        refine hK _ _ (fun x => x.cell? ⟨w2.heap.size, 2, none⟩ = some (.int .i64 e1)) ?_ (fun _ h => h) ?_
        · obtain ⟨sv', B', i', h', -⟩ := hRf3
          exact cell_at h' 2
        clear hK hRfX hRdX hBX hk3
        repeat (refine SchedB.wpSched_take (by simp only [List.getElem?_toArray, List.getElem?_cons_succ, List.getElem?_cons_zero]; rfl) (by rfl) _ (fun wx hC => by (try dsimp only at hC); go_simp; (try rfl)) ?_; simp only [Act.put, List.setIfInBounds_toArray, List.set_cons_zero, List.set_cons_succ])
        refine SchedB.wpSched_run (by simp only [List.getElem?_toArray, List.getElem?_cons_succ, List.getElem?_cons_zero]; rfl) (by rfl) (fun K hK => ?_)
        go_simp
        refine (rdEnd_any gr e1 l1 W3 hRd3).mono ?_
        rintro en W4 ⟨rfl, rfl⟩
        refine hK _ _ (fun x => x.cell? ⟨w2.heap.size, 2, none⟩ = some (.int .i64 e1)) ?_ (fun _ h => h) ?_
        · obtain ⟨sv', B', i', h', -⟩ := hRf3
          exact cell_at h' 2
        clear hK
        refine SchedB.wpSched_run (by simp only [List.getElem?_toArray, List.getElem?_cons_succ, List.getElem?_cons_zero]; rfl) (by rfl) (fun K hK => ?_)
        go_simp
        refine (rfEnd_any _ e1 l1 W3 hRf3).mono ?_
        rintro en W4 ⟨rfl, hRf4, hk4⟩
        have hRd4 := hRd3.keep hk4 (by omega) hRf3.noByte
        have hB4 : Below w.heap.size w W4 := hB3.grown hk4 hB3.size (fun q hq => by obtain rfl := Option.some.inj hq; omega)
        refine hK _ _ (fun x => x.cell? ⟨w2.heap.size, 2, none⟩ = some (.int .i64 e1)) ?_ (fun _ h => h) ?_
        · obtain ⟨sv', B', i', h', -⟩ := hRf4
          exact cell_at h' 2
        clear hK hRf3 hRd3 hB3 hk4
        repeat (refine SchedB.wpSched_take (by simp only [List.getElem?_toArray, List.getElem?_cons_succ, List.getElem?_cons_zero]; rfl) (by rfl) _ (fun wx hC => by (try dsimp only at hC); go_simp; (try rfl)) ?_; simp only [Act.put, List.setIfInBounds_toArray, List.set_cons_zero, List.set_cons_succ])
        refine SchedB.wpSched_nil ?_
        go_wp2
        go_show
        exact ⟨⟨j + 1, e1, l1, by omega, by omega, by go_num, HL1.out, hRd4, hRf4, hB4⟩, by simp [intOf]; omega⟩
      · have hlen := boolF_len e l
        have hd := rdBool_any gr e l wr hRd
        have hf := fun W (h : Rf W w2.heap.size e l) => rfBool_any w2.heap.size e l W h
        generalize boolF e l = xx at hlen hd hf
        obtain ⟨vv, e1, l1⟩ := xx
        dsimp only at hlen hd hf
        have HL1 : Hid (l1.length ≤ 60) := Lib.hid (Nat.le_trans hlen hl)
        have HD := Lib.hid hd; clear hd hlen
        have HF := Lib.hid hf; clear hf
        go_wp2_with fail
        refine HD.out.mono ?_
        rintro en W1 ⟨rfl, hRd1, hk1⟩
        have hRf1 := hRf.keep hk1 (by omega) hRd.noByte
        clear HD
        go_wp2_with fail
        refine (HF.out W1 hRf1).mono ?_
        rintro en W2 ⟨rfl, hRf2, hk2⟩
        have hRd2 := hRd1.keep hk2 (by omega) hRf1.noByte
        have hB2 : Below w.heap.size w W2 := (hb.grown hk1 hb.size (fun q hq => by obtain rfl := Option.some.inj hq; omega)).grown hk2 (by have := hb.size; have := World.grownBy.size hk1; omega) (fun q hq => by obtain rfl := Option.some.inj hq; omega)
        clear HF hRf1 hRd1 hk1 hk2 hRd hRf hb
        go_wp2_with fail
        have hRdX := hRd2.below ((Below.refl W2.heap.size W2).drew)
        have hRfX := hRf2.below ((Below.refl W2.heap.size W2).drew)
        have hBX := hB2.drew
        clear hRd2 hRf2 hB2
        refine SchedB.wp_region_sched (fun x => x.cell? ⟨w2.heap.size, 2, none⟩ = some (.int .i64 e1)) ((0, true) :: (1, true) :: (2, true) :: (4, true) :: (5, true) :: (6, true) :: (7, true) :: (3, false) :: (8, true) :: (9, true) :: (10, true) :: (12, true) :: (11, false) :: (13, false) :: (14, true) :: (15, true) :: (16, true) :: (17, true) :: (19, true) :: (18, false) :: (20, false) :: (21, true) :: (22, true) :: []) (by kernel_rfl) (by kernel_rfl) (by kernel_rfl) (by kernel_rfl) (fun _ _ _ _ _ h => h) ?_ ?_
        · obtain ⟨sv', B', i', h', -⟩ := hRfX
          exact cell_at h' 2
        generalize W2.drew = WX at hRdX hRfX hBX ⊢
        repeat (refine SchedB.wpSched_take (by simp only [List.getElem?_toArray, List.getElem?_cons_succ, List.getElem?_cons_zero]; rfl) (by rfl) _ (fun wx hC => by (try dsimp only at hC); go_simp; (try rfl)) ?_; simp only [Act.put, List.setIfInBounds_toArray, List.set_cons_zero, List.set_cons_succ])
        refine SchedB.wpSched_run (by simp only [List.getElem?_toArray, List.getElem?_cons_succ, List.getElem?_cons_zero]; rfl) (by rfl) (fun K hK => ?_)
        go_simp
        refine (rdErrno_any gr e1 l1 WX hRdX).mono ?_
        rintro en W4 ⟨rfl, rfl⟩
        refine hK _ _ (fun x => x.cell? ⟨w2.heap.size, 2, none⟩ = some (.int .i64 e1)) ?_ (fun _ h => h) ?_
        · obtain ⟨sv', B', i', h', -⟩ := hRfX
          exact cell_at h' 2
        clear hK
        repeat (refine SchedB.wpSched_take (by simp only [List.getElem?_toArray, List.getElem?_cons_succ, List.getElem?_cons_zero]; rfl) (by rfl) _ (fun wx hC => by (try dsimp only at hC); go_simp; (try rfl)) ?_; simp only [Act.put, List.setIfInBounds_toArray, List.set_cons_zero, List.set_cons_succ])
        refine SchedB.wpSched_run (by simp only [List.getElem?_toArray, List.getElem?_cons_succ, List.getElem?_cons_zero]; rfl) (by rfl) (fun K hK => ?_)
        go_simp
        refine (rdLeft_any gr e1 l1 WX hRdX).mono ?_
        rintro en W3 ⟨rfl, rfl⟩
        refine hK _ _ (fun x => x.cell? ⟨w2.heap.size, 2, none⟩ = some (.int .i64 e1)) ?_ (fun _ h => h) ?_
        · obtain ⟨sv', B', i', h', -⟩ := hRfX
          exact cell_at h' 2
        clear hK
        refine SchedB.wpSched_run (by simp only [List.getElem?_toArray, List.getElem?_cons_succ, List.getElem?_cons_zero]; rfl) (by rfl) (fun K hK => ?_)
        go_simp
        refine (rfLeft_any _ e1 l1 WX hRfX).mono ?_
        rintro en W3 ⟨rfl, hRf3, hk3⟩
        have hRd3 := hRdX.keep hk3 (by omega) hRfX.noByte
        have hB3 : Below w.heap.size w W3 := hBX.grown hk3 hBX.size (fun q hq => by obtain rfl := Option.some.inj hq; omega)
        refine hK _ _ (fun x => x.cell? ⟨w2.heap.size, 2, none⟩ = some (.int .i64 e1)) ?_ (fun _ h => h) ?_
        · obtain ⟨sv', B', i', h', -⟩ := hRf3
          exact cell_at h' 2
        clear hK hRfX hRdX hBX hk3
        repeat (refine SchedB.wpSched_take (by simp only [List.getElem?_toArray, List.getElem?_cons_succ, List.getElem?_cons_zero]; rfl) (by rfl) _ (fun wx hC => by (try dsimp only at hC); go_simp; (try rfl)) ?_; simp only [Act.put, List.setIfInBounds_toArray, List.set_cons_zero, List.set_cons_succ])
        refine SchedB.wpSched_run (by simp only [List.getElem?_toArray, List.getElem?_cons_succ, List.getElem?_cons_zero]; rfl) (by rfl) (fun K hK => ?_)
        go_simp
        refine (rdEnd_any gr e1 l1 W3 hRd3).mono ?_
        rintro en W4 ⟨rfl, rfl⟩
        refine hK _ _ (fun x => x.cell? ⟨w2.heap.size, 2, none⟩ = some (.int .i64 e1)) ?_ (fun _ h => h) ?_
        · obtain ⟨sv', B', i', h', -⟩ := hRf3
          exact cell_at h' 2
        clear hK
        refine SchedB.wpSched_run (by simp only [List.getElem?_toArray, List.getElem?_cons_succ, List.getElem?_cons_zero]; rfl) (by rfl) (fun K hK => ?_)
        go_simp
        refine (rfEnd_any _ e1 l1 W3 hRf3).mono ?_
        rintro en W4 ⟨rfl, hRf4, hk4⟩
        have hRd4 := hRd3.keep hk4 (by omega) hRf3.noByte
        have hB4 : Below w.heap.size w W4 := hB3.grown hk4 hB3.size (fun q hq => by obtain rfl := Option.some.inj hq; omega)
        refine hK _ _ (fun x => x.cell? ⟨w2.heap.size, 2, none⟩ = some (.int .i64 e1)) ?_ (fun _ h => h) ?_
        · obtain ⟨sv', B', i', h', -⟩ := hRf4
          exact cell_at h' 2
        clear hK hRf3 hRd3 hB3 hk4
        repeat (refine SchedB.wpSched_take (by simp only [List.getElem?_toArray, List.getElem?_cons_succ, List.getElem?_cons_zero]; rfl) (by rfl) _ (fun wx hC => by (try dsimp only at hC); go_simp; (try rfl)) ?_; simp only [Act.put, List.setIfInBounds_toArray, List.set_cons_zero, List.set_cons_succ])
        refine SchedB.wpSched_nil ?_
        go_wp2
        go_show
        exact ⟨⟨j + 1, e1, l1, by omega, by omega, by go_num, HL1.out, hRd4, hRf4, hB4⟩, by simp [intOf]; omega⟩
      · go_wp2_with fail
        refine (around_any y 31 wr hy0 hy1 (by decide) (by decide)).mono ?_
        rintro en wr' ⟨rfl, rfl⟩
        generalize aroundF y 31 = M
        go_wp2_with fail
        have hlen := textF_len M e l
        have hRdY := hRd.below ((Below.refl wr.heap.size wr).drew)
        have hRfY := hRf.below ((Below.refl wr.heap.size wr).drew)
        have hBY := hb.drew
        have hd := rdText_any gr M e l _ hRdY (by omega)
        have hf := fun W (h : Rf W w2.heap.size e l) => rfText_any w2.heap.size M e l W h
        generalize textF M e l = xx at hlen hd hf
        obtain ⟨tt, e1, l1⟩ := xx
        unfold TextPost at hd
        dsimp only at hlen hd hf
        have HL1 : Hid (l1.length ≤ 60) := Lib.hid (Nat.le_trans hlen hl)
        clear hlen
        refine SchedB.wp_region_sched (fun _ => True) ((0, true) :: (1, true) :: (4, true) :: (5, true) :: (2, false) :: (3, true) :: (6, false) :: (7, true) :: (8, true) :: []) (by kernel_rfl) (by kernel_rfl) (by kernel_rfl) (by kernel_rfl) (fun _ _ _ _ _ h => h) ?_ ?_
        · trivial
        generalize wr.drew = W0 at hRdY hRfY hBY hd ⊢
        repeat (refine SchedB.wpSched_take (by simp only [List.getElem?_toArray, List.getElem?_cons_succ, List.getElem?_cons_zero]; rfl) (by rfl) _ (fun wx hC => by (try dsimp only at hC); go_simp; (try rfl)) ?_; simp only [Act.put, List.setIfInBounds_toArray, List.set_cons_zero, List.set_cons_succ])
        refine SchedB.wpSched_run (by simp only [List.getElem?_toArray, List.getElem?_cons_succ, List.getElem?_cons_zero]; rfl) (by rfl) (fun K hK => ?_)
        go_simp
        refine hd.mono ?_
        rintro en W1 ⟨u1, rfl, hBu, hRd1, hk1⟩
        have hRf1 := hRfY.keep hk1 (by omega) hRdY.noByte
        refine hK _ _ (fun x => (convert 24 9 u1).run Try.prog x = .ok (.string ⟨tt.toArray⟩) x) (hBu.convert Try.underlying24 Try.underlying5 Try.underlying9) (fun _ _ => trivial) ?_
        clear hK hd
        repeat (refine SchedB.wpSched_take (by simp only [List.getElem?_toArray, List.getElem?_cons_succ, List.getElem?_cons_zero]; rfl) (by rfl) _ (fun wx hC => by (try dsimp only at hC); go_simp; (try rfl)) ?_; simp only [Act.put, List.setIfInBounds_toArray, List.set_cons_zero, List.set_cons_succ])
        refine SchedB.wpSched_run (by simp only [List.getElem?_toArray, List.getElem?_cons_succ, List.getElem?_cons_zero]; rfl) (by rfl) (fun K hK => ?_)
        go_simp
        refine (hf W1 hRf1).mono ?_
        rintro en W2 ⟨u2, rfl, hBv, hRf2, hk2⟩
        have hRd2 := hRd1.keep hk2 (by omega) hRf1.noByte
        have hBu2 := hBu.keep hk2 hRf1.noByte
        have hB2 : Below w.heap.size w W2 := (hBY.grown hk1 hBY.size (fun q hq => by obtain rfl := Option.some.inj hq; omega)).grown hk2 (by have := hBY.size; have := World.grownBy.size hk1; omega) (fun q hq => by obtain rfl := Option.some.inj hq; omega)
        refine hK _ _ (fun x => (convert 24 9 u1).run Try.prog x = .ok (.string ⟨tt.toArray⟩) x ∧ (convert 24 9 u2).run Try.prog x = .ok (.string ⟨tt.toArray⟩) x) ⟨hBu2.convert Try.underlying24 Try.underlying5 Try.underlying9, hBv.convert Try.underlying24 Try.underlying5 Try.underlying9⟩ (fun _ h => h.1) ?_
        clear hK hf hRf1 hRd1 hk1 hk2 hRdY hRfY hBY hBu hBu2 hBv hRd hRf hb
        repeat (refine SchedB.wpSched_take (by simp only [List.getElem?_toArray, List.getElem?_cons_succ, List.getElem?_cons_zero]; rfl) (by rfl) _ (fun wx hC => by (try dsimp only at hC); (try (obtain ⟨hC1, hC2⟩ := hC)); go_simp; (try rfl)) ?_; simp only [Act.put, List.setIfInBounds_toArray, List.set_cons_zero, List.set_cons_succ])
        refine SchedB.wpSched_nil ?_
        go_wp2_with fail
        have hRdX := hRd2.below ((Below.refl W2.heap.size W2).drew)
        have hRfX := hRf2.below ((Below.refl W2.heap.size W2).drew)
        have hBX := hB2.drew
        clear hRd2 hRf2 hB2
        refine SchedB.wp_region_sched (fun x => x.cell? ⟨w2.heap.size, 2, none⟩ = some (.int .i64 e1)) ((0, true) :: (1, true) :: (2, true) :: (4, true) :: (5, true) :: (6, true) :: (7, true) :: (3, false) :: (8, true) :: (9, true) :: (10, true) :: (12, true) :: (11, false) :: (13, false) :: (14, true) :: (15, true) :: (16, true) :: (17, true) :: (19, true) :: (18, false) :: (20, false) :: (21, true) :: (22, true) :: []) (by kernel_rfl) (by kernel_rfl) (by kernel_rfl) (by kernel_rfl) (fun _ _ _ _ _ h => h) ?_ ?_
        · obtain ⟨sv', B', i', h', -⟩ := hRfX
          exact cell_at h' 2
        generalize W2.drew = WX at hRdX hRfX hBX ⊢
        repeat (refine SchedB.wpSched_take (by simp only [List.getElem?_toArray, List.getElem?_cons_succ, List.getElem?_cons_zero]; rfl) (by rfl) _ (fun wx hC => by (try dsimp only at hC); go_simp; (try rfl)) ?_; simp only [Act.put, List.setIfInBounds_toArray, List.set_cons_zero, List.set_cons_succ])
        refine SchedB.wpSched_run (by simp only [List.getElem?_toArray, List.getElem?_cons_succ, List.getElem?_cons_zero]; rfl) (by rfl) (fun K hK => ?_)
        go_simp
        refine (rdErrno_any gr e1 l1 WX hRdX).mono ?_
        rintro en W4 ⟨rfl, rfl⟩
        refine hK _ _ (fun x => x.cell? ⟨w2.heap.size, 2, none⟩ = some (.int .i64 e1)) ?_ (fun _ h => h) ?_
        · obtain ⟨sv', B', i', h', -⟩ := hRfX
          exact cell_at h' 2
        clear hK
        repeat (refine SchedB.wpSched_take (by simp only [List.getElem?_toArray, List.getElem?_cons_succ, List.getElem?_cons_zero]; rfl) (by rfl) _ (fun wx hC => by (try dsimp only at hC); go_simp; (try rfl)) ?_; simp only [Act.put, List.setIfInBounds_toArray, List.set_cons_zero, List.set_cons_succ])
        refine SchedB.wpSched_run (by simp only [List.getElem?_toArray, List.getElem?_cons_succ, List.getElem?_cons_zero]; rfl) (by rfl) (fun K hK => ?_)
        go_simp
        refine (rdLeft_any gr e1 l1 WX hRdX).mono ?_
        rintro en W3 ⟨rfl, rfl⟩
        refine hK _ _ (fun x => x.cell? ⟨w2.heap.size, 2, none⟩ = some (.int .i64 e1)) ?_ (fun _ h => h) ?_
        · obtain ⟨sv', B', i', h', -⟩ := hRfX
          exact cell_at h' 2
        clear hK
        refine SchedB.wpSched_run (by simp only [List.getElem?_toArray, List.getElem?_cons_succ, List.getElem?_cons_zero]; rfl) (by rfl) (fun K hK => ?_)
        go_simp
        refine (rfLeft_any _ e1 l1 WX hRfX).mono ?_
        rintro en W3 ⟨rfl, hRf3, hk3⟩
        have hRd3 := hRdX.keep hk3 (by omega) hRfX.noByte
        have hB3 : Below w.heap.size w W3 := hBX.grown hk3 hBX.size (fun q hq => by obtain rfl := Option.some.inj hq; omega)
        refine hK _ _ (fun x => x.cell? ⟨w2.heap.size, 2, none⟩ = some (.int .i64 e1)) ?_ (fun _ h => h) ?_
        · obtain ⟨sv', B', i', h', -⟩ := hRf3
          exact cell_at h' 2
        clear hK hRfX hRdX hBX hk3
        repeat (refine SchedB.wpSched_take (by simp only [List.getElem?_toArray, List.getElem?_cons_succ, List.getElem?_cons_zero]; rfl) (by rfl) _ (fun wx hC => by (try dsimp only at hC); go_simp; (try rfl)) ?_; simp only [Act.put, List.setIfInBounds_toArray, List.set_cons_zero, List.set_cons_succ])
        refine SchedB.wpSched_run (by simp only [List.getElem?_toArray, List.getElem?_cons_succ, List.getElem?_cons_zero]; rfl) (by rfl) (fun K hK => ?_)
        go_simp
        refine (rdEnd_any gr e1 l1 W3 hRd3).mono ?_
        rintro en W4 ⟨rfl, rfl⟩
        refine hK _ _ (fun x => x.cell? ⟨w2.heap.size, 2, none⟩ = some (.int .i64 e1)) ?_ (fun _ h => h) ?_
        · obtain ⟨sv', B', i', h', -⟩ := hRf3
          exact cell_at h' 2
        clear hK
        refine SchedB.wpSched_run (by simp only [List.getElem?_toArray, List.getElem?_cons_succ, List.getElem?_cons_zero]; rfl) (by rfl) (fun K hK => ?_)
        go_simp
        refine (rfEnd_any _ e1 l1 W3 hRf3).mono ?_
        rintro en W4 ⟨rfl, hRf4, hk4⟩
        have hRd4 := hRd3.keep hk4 (by omega) hRf3.noByte
        have hB4 : Below w.heap.size w W4 := hB3.grown hk4 hB3.size (fun q hq => by obtain rfl := Option.some.inj hq; omega)
        refine hK _ _ (fun x => x.cell? ⟨w2.heap.size, 2, none⟩ = some (.int .i64 e1)) ?_ (fun _ h => h) ?_
        · obtain ⟨sv', B', i', h', -⟩ := hRf4
          exact cell_at h' 2
        clear hK hRf3 hRd3 hB3 hk4
        repeat (refine SchedB.wpSched_take (by simp only [List.getElem?_toArray, List.getElem?_cons_succ, List.getElem?_cons_zero]; rfl) (by rfl) _ (fun wx hC => by (try dsimp only at hC); go_simp; (try rfl)) ?_; simp only [Act.put, List.setIfInBounds_toArray, List.set_cons_zero, List.set_cons_succ])
        refine SchedB.wpSched_nil ?_
        go_wp2
        go_show
        exact ⟨⟨j + 1, e1, l1, by omega, by omega, by go_num, HL1.out, hRd4, hRf4, hB4⟩, by simp [intOf]; omega⟩
      · go_wp2_with fail
        have hlen := textF_len y e l
        have hRdY := hRd.below ((Below.refl wr.heap.size wr).drew)
        have hRfY := hRf.below ((Below.refl wr.heap.size wr).drew)
        have hBY := hb.drew
        have hd := rdText_any gr y e l _ hRdY (by omega)
        have hf := fun W (h : Rf W w2.heap.size e l) => rfText_any w2.heap.size y e l W h
        generalize textF y e l = xx at hlen hd hf
        obtain ⟨tt, e1, l1⟩ := xx
        unfold TextPost at hd
        dsimp only at hlen hd hf
        have HL1 : Hid (l1.length ≤ 60) := Lib.hid (Nat.le_trans hlen hl)
        clear hlen
        refine SchedB.wp_region_sched (fun _ => True) ((0, true) :: (1, true) :: (4, true) :: (5, true) :: (2, false) :: (3, true) :: (6, false) :: (7, true) :: (8, true) :: []) (by kernel_rfl) (by kernel_rfl) (by kernel_rfl) (by kernel_rfl) (fun _ _ _ _ _ h => h) ?_ ?_
        · trivial
        generalize wr.drew = W0 at hRdY hRfY hBY hd ⊢
        repeat (refine SchedB.wpSched_take (by simp only [List.getElem?_toArray, List.getElem?_cons_succ, List.getElem?_cons_zero]; rfl) (by rfl) _ (fun wx hC => by (try dsimp only at hC); go_simp; (try rfl)) ?_; simp only [Act.put, List.setIfInBounds_toArray, List.set_cons_zero, List.set_cons_succ])
        refine SchedB.wpSched_run (by simp only [List.getElem?_toArray, List.getElem?_cons_succ, List.getElem?_cons_zero]; rfl) (by rfl) (fun K hK => ?_)
        go_simp
        refine hd.mono ?_
        rintro en W1 ⟨u1, rfl, hBu, hRd1, hk1⟩
        have hRf1 := hRfY.keep hk1 (by omega) hRdY.noByte
        refine hK _ _ (fun x => (convert 24 9 u1).run Try.prog x = .ok (.string ⟨tt.toArray⟩) x) (hBu.convert Try.underlying24 Try.underlying5 Try.underlying9) (fun _ _ => trivial) ?_
        clear hK hd
        repeat (refine SchedB.wpSched_take (by simp only [List.getElem?_toArray, List.getElem?_cons_succ, List.getElem?_cons_zero]; rfl) (by rfl) _ (fun wx hC => by (try dsimp only at hC); go_simp; (try rfl)) ?_; simp only [Act.put, List.setIfInBounds_toArray, List.set_cons_zero, List.set_cons_succ])
        refine SchedB.wpSched_run (by simp only [List.getElem?_toArray, List.getElem?_cons_succ, List.getElem?_cons_zero]; rfl) (by rfl) (fun K hK => ?_)
        go_simp
        refine (hf W1 hRf1).mono ?_
        rintro en W2 ⟨u2, rfl, hBv, hRf2, hk2⟩
        have hRd2 := hRd1.keep hk2 (by omega) hRf1.noByte
        have hBu2 := hBu.keep hk2 hRf1.noByte
        have hB2 : Below w.heap.size w W2 := (hBY.grown hk1 hBY.size (fun q hq => by obtain rfl := Option.some.inj hq; omega)).grown hk2 (by have := hBY.size; have := World.grownBy.size hk1; omega) (fun q hq => by obtain rfl := Option.some.inj hq; omega)
        refine hK _ _ (fun x => (convert 24 9 u1).run Try.prog x = .ok (.string ⟨tt.toArray⟩) x ∧ (convert 24 9 u2).run Try.prog x = .ok (.string ⟨tt.toArray⟩) x) ⟨hBu2.convert Try.underlying24 Try.underlying5 Try.underlying9, hBv.convert Try.underlying24 Try.underlying5 Try.underlying9⟩ (fun _ h => h.1) ?_
        clear hK hf hRf1 hRd1 hk1 hk2 hRdY hRfY hBY hBu hBu2 hBv hRd hRf hb
        repeat (refine SchedB.wpSched_take (by simp only [List.getElem?_toArray, List.getElem?_cons_succ, List.getElem?_cons_zero]; rfl) (by rfl) _ (fun wx hC => by (try dsimp only at hC); (try (obtain ⟨hC1, hC2⟩ := hC)); go_simp; (try rfl)) ?_; simp only [Act.put, List.setIfInBounds_toArray, List.set_cons_zero, List.set_cons_succ])
        refine SchedB.wpSched_nil ?_
        go_wp2_with fail
        have hRdX := hRd2.below ((Below.refl W2.heap.size W2).drew)
        have hRfX := hRf2.below ((Below.refl W2.heap.size W2).drew)
        have hBX := hB2.drew
        clear hRd2 hRf2 hB2
        refine SchedB.wp_region_sched (fun x => x.cell? ⟨w2.heap.size, 2, none⟩ = some (.int .i64 e1)) ((0, true) :: (1, true) :: (2, true) :: (4, true) :: (5, true) :: (6, true) :: (7, true) :: (3, false) :: (8, true) :: (9, true) :: (10, true) :: (12, true) :: (11, false) :: (13, false) :: (14, true) :: (15, true) :: (16, true) :: (17, true) :: (19, true) :: (18, false) :: (20, false) :: (21, true) :: (22, true) :: []) (by kernel_rfl) (by kernel_rfl) (by kernel_rfl) (by kernel_rfl) (fun _ _ _ _ _ h => h) ?_ ?_
        · obtain ⟨sv', B', i', h', -⟩ := hRfX
          exact cell_at h' 2
        generalize W2.drew = WX at hRdX hRfX hBX ⊢
        repeat (refine SchedB.wpSched_take (by simp only [List.getElem?_toArray, List.getElem?_cons_succ, List.getElem?_cons_zero]; rfl) (by rfl) _ (fun wx hC => by (try dsimp only at hC); go_simp; (try rfl)) ?_; simp only [Act.put, List.setIfInBounds_toArray, List.set_cons_zero, List.set_cons_succ])
        refine SchedB.wpSched_run (by simp only [List.getElem?_toArray, List.getElem?_cons_succ, List.getElem?_cons_zero]; rfl) (by rfl) (fun K hK => ?_)
        go_simp
        refine (rdErrno_any gr e1 l1 WX hRdX).mono ?_
        rintro en W4 ⟨rfl, rfl⟩
        refine hK _ _ (fun x => x.cell? ⟨w2.heap.size, 2, none⟩ = some (.int .i64 e1)) ?_ (fun _ h => h) ?_
        · obtain ⟨sv', B', i', h', -⟩ := hRfX
          exact cell_at h' 2
        clear hK
        repeat (refine SchedB.wpSched_take (by simp only [List.getElem?_toArray, List.getElem?_cons_succ, List.getElem?_cons_zero]; rfl) (by rfl) _ (fun wx hC => by (try dsimp only at hC); go_simp; (try rfl)) ?_; simp only [Act.put, List.setIfInBounds_toArray, List.set_cons_zero, List.set_cons_succ])
        refine SchedB.wpSched_run (by simp only [List.getElem?_toArray, List.getElem?_cons_succ, List.getElem?_cons_zero]; rfl) (by rfl) (fun K hK => ?_)
        go_simp
        refine (rdLeft_any gr e1 l1 WX hRdX).mono ?_
        rintro en W3 ⟨rfl, rfl⟩
        refine hK _ _ (fun x => x.cell? ⟨w2.heap.size, 2, none⟩ = some (.int .i64 e1)) ?_ (fun _ h => h) ?_
        · obtain ⟨sv', B', i', h', -⟩ := hRfX
          exact cell_at h' 2
        clear hK
        refine SchedB.wpSched_run (by simp only [List.getElem?_toArray, List.getElem?_cons_succ, List.getElem?_cons_zero]; rfl) (by rfl) (fun K hK => ?_)
        go_simp
        refine (rfLeft_any _ e1 l1 WX hRfX).mono ?_
        rintro en W3 ⟨rfl, hRf3, hk3⟩
        have hRd3 := hRdX.keep hk3 (by omega) hRfX.noByte
        have hB3 : Below w.heap.size w W3 := hBX.grown hk3 hBX.size (fun q hq => by obtain rfl := Option.some.inj hq; omega)
        refine hK _ _ (fun x => x.cell? ⟨w2.heap.size, 2, none⟩ = some (.int .i64 e1)) ?_ (fun _ h => h) ?_
        · obtain ⟨sv', B', i', h', -⟩ := hRf3
          exact cell_at h' 2
        clear hK hRfX hRdX hBX hk3
        repeat (refine SchedB.wpSched_take (by simp only [List.getElem?_toArray, List.getElem?_cons_succ, List.getElem?_cons_zero]; rfl) (by rfl) _ (fun wx hC => by (try dsimp only at hC); go_simp; (try rfl)) ?_; simp only [Act.put, List.setIfInBounds_toArray, List.set_cons_zero, List.set_cons_succ])
        refine SchedB.wpSched_run (by simp only [List.getElem?_toArray, List.getElem?_cons_succ, List.getElem?_cons_zero]; rfl) (by rfl) (fun K hK => ?_)
        go_simp
        refine (rdEnd_any gr e1 l1 W3 hRd3).mono ?_
        rintro en W4 ⟨rfl, rfl⟩
        refine hK _ _ (fun x => x.cell? ⟨w2.heap.size, 2, none⟩ = some (.int .i64 e1)) ?_ (fun _ h => h) ?_
        · obtain ⟨sv', B', i', h', -⟩ := hRf3
          exact cell_at h' 2
        clear hK
        refine SchedB.wpSched_run (by simp only [List.getElem?_toArray, List.getElem?_cons_succ, List.getElem?_cons_zero]; rfl) (by rfl) (fun K hK => ?_)
        go_simp
        refine (rfEnd_any _ e1 l1 W3 hRf3).mono ?_
        rintro en W4 ⟨rfl, hRf4, hk4⟩
        have hRd4 := hRd3.keep hk4 (by omega) hRf3.noByte
        have hB4 : Below w.heap.size w W4 := hB3.grown hk4 hB3.size (fun q hq => by obtain rfl := Option.some.inj hq; omega)
        refine hK _ _ (fun x => x.cell? ⟨w2.heap.size, 2, none⟩ = some (.int .i64 e1)) ?_ (fun _ h => h) ?_
        · obtain ⟨sv', B', i', h', -⟩ := hRf4
          exact cell_at h' 2
        clear hK hRf3 hRd3 hB3 hk4
        repeat (refine SchedB.wpSched_take (by simp only [List.getElem?_toArray, List.getElem?_cons_succ, List.getElem?_cons_zero]; rfl) (by rfl) _ (fun wx hC => by (try dsimp only at hC); go_simp; (try rfl)) ?_; simp only [Act.put, List.setIfInBounds_toArray, List.set_cons_zero, List.set_cons_succ])
        refine SchedB.wpSched_nil ?_
        go_wp2
        go_show
        exact ⟨⟨j + 1, e1, l1, by omega, by omega, by go_num, HL1.out, hRd4, hRf4, hB4⟩, by simp [intOf]; omega⟩
    · have hcs : (j < n ∧ ¬ j < 10) ∨ ¬ j < n := by omega
      clear hc
      rcases hcs with ⟨hlt, hlt5⟩ | hlt
      all_goals
        go_wp2_with fail
        refine (lives_any _).mono ?_
        rintro e w9 ⟨rfl, hbl⟩
        go_wp2
        go_ret
        exact ⟨rfl, hb.trans (hbl.mono hb.size)⟩
end Go.Proofs.Ytolcjgogalenhaa
