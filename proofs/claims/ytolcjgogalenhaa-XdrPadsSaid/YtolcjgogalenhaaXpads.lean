/-
  'truchmanlaw01.XdrPads' returns true at every input, and leaves all that was there as it was.
-/
import Derived.Test.YtolcjgogalenhaaXh
import Derived.Test.YtolcjgogalenhaaXl
namespace Go.Proofs.Ytolcjgogalenhaa
open Go.RowKit

theorem Bs.set_own {w : World} {base g n cap k : Nat} {l : List UInt8} {c : Int} (h : w.ownsRow base 5 1 (.slice (some ⟨g, 0, none⟩) n cap) n (l.map bv)) (hn : n = l.length) (hc0 : 0 ≤ c) (hc1 : c ≤ 255) :
    Bs (w.setCell ⟨g, k, none⟩ (.int .u8 c)) (.slice (some ⟨g, 0, none⟩) n cap) (l.set k (UInt8.ofNat c.toNat)) ∧ w.grownBy (w.setCell ⟨g, k, none⟩ (.int .u8 c)) (some g) := by
  subst hn
  obtain ⟨h1, h2⟩ := h.stored k (.int .u8 c)
  refine ⟨?_, h2⟩
  rw [← bv_ofInt c hc0 (by omega), ← List.map_set] at h1
  rw [← bv_ofInt c hc0 (by omega)]
  have e : (l.set k (UInt8.ofNat c.toNat)).length = l.length := List.length_set
  rw [← e] at h1 ⊢
  exact Bs.of_own h1

set_option maxRecDepth 100000 in
set_option maxHeartbeats 8000000 in
theorem xdrPads_walk (v0 : Value) (a c x : Int) (l0 : List UInt8) (w : World) (h0 : Bs w v0 l0) (ha : (Lit.int .i64 a).wf = true) (hc : (Lit.int .u8 c).wf = true) (hx : (Lit.int .i64 x).wf = true) :
    Calls Try.prog 6 #[v0, .int .i64 a, .int .u8 c, .int .i64 x] w fun e w' => e = .returned (.bool true) ∧ Below w.heap.size w w' := by
  obtain ⟨ha0, ha1⟩ := bounds_i64 ha
  obtain ⟨hc0, hc1⟩ := bounds_u8 hc
  obtain ⟨hx0, hx1⟩ := bounds_i64 hx
  clear ha hc hx
  have hL : (l0.take 29).length ≤ 29 := List.length_take_le _ _
  by_cases hcz : c = 0
  · subst hcz
    clear hc0 hc1
    by_cases h4 : (l0.take 29).length % 4 = 0
    · go_enter Try.func6, Try.ntmps6
      go_wp2_with fail
      refine (few_any v0 l0 29 _ h0 (by decide)).mono ?_
      rintro e w1 ⟨v1, rfl, hown1, hb1⟩
      clear h0
      obtain ⟨ao, cap, hs1⟩ := own_shape hown1
      subst hs1
      obtain ⟨n, hn⟩ : ∃ n, n = (l0.take 29).length := ⟨_, rfl⟩
      generalize l0.take 29 = O0 at *
      rw [← hn] at hown1 hL h4 ⊢
      have HN := Lib.hid hn; clear hn
      have h4' : ((n : Int) % 4 == 0) = true := by simp; omega
      have hs1 := hb1.size
      go_wp2_with (at_builtin; refine wpList_append_sl rfl (.tmp 23) (.tmp 24) 24 rfl w.heap.size 5 (.int .u8 0) 1 1 Try.underlying24 Try.info5 rfl (by decide) _ n _ rfl (hown1.alloc _) _ 1 [bv 1] rfl ?c0 (by simp) (by simp [bv, Value.oneCell']) ?c1 ?c2 ?c3 ?_)
      case c0 => exact Sl.lit w1 [bv 1] 5 (by decide)
      case c1 => omega
      case c2 => simp; omega
      case c3 => unfold maxLen; omega
      intro v2 W2 hown2 hg2
      have hbX : Below w.heap.size w W2 := (hb1.alloc hb1.size _).grown hg2 (by simp; omega) (fun k hk => (hown1.lt k hk).1)
      obtain ⟨O, hO⟩ : ∃ O, O = O0 ++ [1] := ⟨_, rfl⟩
      obtain ⟨m, hm⟩ : ∃ m, m = n + 1 := ⟨_, rfl⟩
      have hown : W2.ownsRow w.heap.size 5 1 v2 m (O.map bv) := by rw [hm, hO]; simpa using hown2
      have hOm : O.length = m := by rw [hO, hm, HN.out]; simp
      have hm4 : m % 4 ≠ 0 := by omega
      have hm30 : m ≤ 30 := by omega
      obtain ⟨ao, cap, hsv2⟩ := own_shape hown
      subst hsv2
      clear hown2 hg2 hown1 hb1 hO h4 h4' hL hm
      go_wp2_with fail
      have hp13 : 1 ≤ padN m ∧ padN m ≤ 3 := by unfold padN; omega
      have hB : Bs W2 (.slice ao m cap) O := by rw [← hOm] at hown ⊢; exact Bs.of_own hown
      refine (rtext_any _ O W2 hB (by omega)).mono ?_
      rintro e w3 ⟨b, rfl, hownb, hb3⟩
      obtain ⟨T, hT⟩ : ∃ T, T = (textB O).length := ⟨_, rfl⟩
      have hTm : T = 4 + m + padN m := by rw [hT, textB_length, hOm]
      rw [← hT] at hownb
      have hT1 : 5 + m ≤ T := by omega
      have hT2 : T ≤ 7 + m := by omega
      clear hTm hp13
      obtain ⟨ab, capb, hsb⟩ := own_shape hownb
      subst hsb
      have hbW3 := Below.thenB hbX hb3
      have HT := Lib.hid hT
      have hBb : Bs w3 (.slice ab T capb) (textB O) := by rw [hT] at hownb ⊢; exact Bs.of_own hownb
      have hltb : ∀ k, (Value.slice ab T capb).ownBlock = some k → k < w3.heap.size := fun k hk => (hownb.lt k hk).2
      have HLB := Lib.hid hltb; clear hltb
      clear hown hB hownb hT hbX hb3
      have HOM := Lib.hid hOm; clear hOm
      go_wp2_with fail
      refine (around_any a _ w3 ha0 ha1 (by omega) (by omega)).mono ?_
      rintro e w3' ⟨rfl, rfl⟩
      have hA := aroundF_bd a ((T : Int) - 4 - m) (by omega)
      generalize aroundF a ((T : Int) - 4 - m) = A at hA ⊢
      obtain ⟨hA0, hA1⟩ := hA
      obtain ⟨A, rfl⟩ := Int.eq_ofNat_of_zero_le hA0
      have hA2 : 4 + m + A < T := by omega
      clear hA0 hA1
      go_wp2_with fail
      refine (few_any _ _ 60 w3 hBb (by decide)).mono ?_
      rintro e w4 ⟨o, rfl, hown4, hb4⟩
      rw [List.take_of_length_le (by rw [← HT.out]; omega), ← HT.out] at hown4
      have hlt4 : ∀ k, o.ownBlock = some k → w3.heap.size ≤ k := fun k hk => (hown4.lt k hk).1
      obtain ⟨g, cap4, hso⟩ : ∃ g cap, o = .slice (some ⟨g, 0, none⟩) T cap := by
        rcases hown4.2 with ⟨h, h'⟩ | ⟨g, cap, cur, hv, _⟩
        · omega
        · exact ⟨g, cap, hv⟩
      subst hso
      have hg := hlt4 g rfl
      have hcell : w4.cell? ⟨g, 4 + m + A, none⟩ ≠ none := by
        rw [hown4.cellAt (4 + m + A) (by omega)]
        simp [← HT.out]
        omega
      obtain ⟨z, hcell⟩ := Option.ne_none_iff_exists'.1 hcell
      have hfz := hown4.frozenAt (4 + m + A)
      have hst := Bs.set_own (k := 4 + m + A) (c := 1) hown4 HT.out (by omega) (by omega)
      have HST := Lib.hid hst; clear hst hown4 hlt4
      have hBb4 := hBb.below hb4
      have hbW4 := Below.thenB hbW3 hb4
      have hs4 := hb4.size
      have hs3 := hbW3.size
      clear hBb hbW3 hb4
      go_wp2_with fail
      obtain ⟨hBo, hgo⟩ := HST.out
      clear HST
      have hBb5 := Bs.aside hBb4 hgo (fun k hk h => by obtain rfl := Option.some.inj hk; have := HLB.out _ h; omega)
      have hbW5 := hbW4.grown hgo hbW4.size (fun k hk => by obtain rfl := Option.some.inj hk; omega)
      refine (read_any _ _ _ hBo (by rw [List.length_set, ← HT.out]; omega)).mono ?_
      rintro e w6 ⟨gr, sv, rfl, hgr, hgrb, hsv, hb6, hsvo⟩
      have hRd : Rd w6 gr 0 ((textB O).set (4 + m + A) (UInt8.ofNat (1 : Int).toNat)) := ⟨sv, hgrb, hsv⟩
      have hgr2 : w.heap.size ≤ gr := Nat.le_trans hbW5.size hgr
      have hBb6 := hBb5.below hb6
      have hbW6 := Below.thenB hbW5 hb6
      clear hgrb hsv hb6 hsvo hBb5 hbW5 hBo hgo hbW4 hBb4
      go_wp2_with fail
      refine (around_any x (T : Int) w6 hx0 hx1 (by omega) (by omega)).mono ?_
      rintro e w6' ⟨rfl, rfl⟩
      have hC := aroundF_bd x (T : Int) (by omega)
      generalize aroundF x (T : Int) = C at hC ⊢
      obtain ⟨hC0, hC1⟩ := hC
      obtain ⟨C, rfl⟩ := Int.eq_ofNat_of_zero_le hC0
      have hBcut : Sl w6 (.slice ab T capb) T ((textB O).map bv) := by rw [HT.out] at hBb6 ⊢; exact hBb6
      go_wp2_with (refine wpList_slice_sl (o := ⟨some 55, _, _, _, _, _⟩) rfl (.tmp 50) none (some (.tmp 54)) 24 5 (.int .u8 0) 1 rfl Try.underlying24 Try.info5 ab T capb _ rfl hBcut 0 C _ _ rfl rfl (.inl ⟨rfl, rfl⟩) (.inr ⟨.i64, rfl⟩) (Nat.zero_le _) (by omega) ?_)
      intro ac capc hslc
      have hBc : Bs w6 (.slice ac (C - 0) capc) ((textB O).take C) := by
        have e : ((textB O).take C).length = C - 0 := by rw [List.length_take, ← HT.out]; omega
        unfold Bs
        rw [e, List.map_take]
        exact hslc
      clear hslc hBcut hBb6
      go_wp2_with fail
      refine (read_any _ _ _ hBc (by rw [List.length_take, ← HT.out]; omega)).mono ?_
      rintro e w7 ⟨gq, sq, rfl, hgq, hgqb, hsq, hb7, hsqo⟩
      have hRq : Rd w7 gq 0 ((textB O).take C) := ⟨sq, hgqb, hsq⟩
      have hRr := hRd.below hb7
      have hgq2 : w.heap.size ≤ gq := Nat.le_trans hbW6.size hgq
      have hgrq : gr < w6.heap.size := by obtain ⟨s', h', -⟩ := hRd; exact (Array.getElem?_eq_some_iff.1 h').1
      have hbW7 := Below.thenB hbW6 hb7
      clear hgqb hsq hsqo hRd hb7 hBc hbW6
      go_wp2_with fail
      have hT1 := rdText_any gr 60 0 _ w7 hRr (by rw [List.length_set, ← HT.out]; omega)
      rw [textF_odd O 60 (4 + m + A) _ (by rw [HOM.out]; omega) (by rw [HOM.out]; omega) (by rw [HOM.out]; omega) (by rw [← HT.out]; omega) (by decide)] at hT1
      refine hT1.mono ?_
      rintro e w8 ⟨x8, rfl, hx8, hR8, hk8⟩
      clear hT1
      have hRq8 := hRq.keep hk8 (by omega) hRr.noByte
      have hbW8 := hbW7.grown hk8 hbW7.size (fun k hk => by obtain rfl := Option.some.inj hk; omega)
      obtain ⟨ax, capx, rfl, -, -, -, -⟩ := hx8
      go_wp2_with fail
      have hT2 := rdText_any gq 60 0 _ w8 hRq8 (by rw [List.length_take, ← HT.out]; omega)
      rw [textF_cut O 60 C (by rw [HOM.out]; omega) (by rw [HOM.out]; omega) (by rw [← HT.out]; omega)] at hT2
      refine hT2.mono ?_
      rintro e w9 ⟨x9, rfl, hx9, hRq9, hk9⟩
      clear hT2
      have hRr9 := hR8.keep hk9 (by omega) hRq8.noByte
      have hbW9 := hbW8.grown hk9 hbW8.size (fun k hk => by obtain rfl := Option.some.inj hk; omega)
      obtain ⟨ay, capy, rfl, -, -, -, -⟩ := hx9
      clear hRr hRq hR8 hRq8 hbW7 hbW8 hk8 hk9
      go_wp2_with fail
      refine (rdErrno_any gr _ _ w9 hRr9).mono ?_
      rintro e w9' ⟨rfl, rfl⟩
      go_wp2_with fail
      refine (rdU32_any gr _ _ w9 hRr9).mono ?_
      rintro e w10 ⟨rfl, hRr10, hk10⟩
      have hRq10 := hRq9.keep hk10 (by omega) hRr9.noByte
      have hbW10 := hbW9.grown hk10 hbW9.size (fun k hk => by obtain rfl := Option.some.inj hk; omega)
      go_wp2_with fail
      refine (rdErrno_any gr _ _ w10 hRr10).mono ?_
      rintro e w10' ⟨rfl, rfl⟩
      go_wp2_with fail
      refine (rdErrno_any gq _ _ w10 hRq10).mono ?_
      rintro e w10' ⟨rfl, rfl⟩
      go_wp2_with fail
      refine (rdLeft_any gq _ _ w10 hRq10).mono ?_
      rintro e w10' ⟨rfl, rfl⟩
      go_wp2_with fail
      refine (lives_any _).mono ?_
      rintro e w11 ⟨rfl, hbl⟩
      go_wp2
      go_ret
      exact ⟨rfl, hbW10.trans (hbl.mono hbW10.size)⟩
    · go_enter Try.func6, Try.ntmps6
      go_wp2_with fail
      refine (few_any v0 l0 29 _ h0 (by decide)).mono ?_
      rintro e w1 ⟨v1, rfl, hown1, hb1⟩
      clear h0
      obtain ⟨ao, cap, hs1⟩ := own_shape hown1
      subst hs1
      obtain ⟨m, hOm⟩ : ∃ m, (l0.take 29).length = m := ⟨_, rfl⟩
      generalize l0.take 29 = O at *
      rw [hOm] at hown1 hL h4 ⊢
      have hm30 : m ≤ 30 := by omega
      have hm4 := h4
      obtain ⟨W2, hW2⟩ : ∃ W, W = w1 := ⟨_, rfl⟩
      rw [← hW2] at hown1 hb1 ⊢
      clear hW2
      have hown := hown1
      have hbX := hb1
      have h4' : ((m : Int) % 4 == 0) = false := by simp; omega
      clear hown1 hb1 h4 hL
      go_wp2_with fail
      have hp13 : 1 ≤ padN m ∧ padN m ≤ 3 := by unfold padN; omega
      have hB : Bs W2 (.slice ao m cap) O := by rw [← hOm] at hown ⊢; exact Bs.of_own hown
      refine (rtext_any _ O W2 hB (by omega)).mono ?_
      rintro e w3 ⟨b, rfl, hownb, hb3⟩
      obtain ⟨T, hT⟩ : ∃ T, T = (textB O).length := ⟨_, rfl⟩
      have hTm : T = 4 + m + padN m := by rw [hT, textB_length, hOm]
      rw [← hT] at hownb
      have hT1 : 5 + m ≤ T := by omega
      have hT2 : T ≤ 7 + m := by omega
      clear hTm hp13
      obtain ⟨ab, capb, hsb⟩ := own_shape hownb
      subst hsb
      have hbW3 := Below.thenB hbX hb3
      have HT := Lib.hid hT
      have hBb : Bs w3 (.slice ab T capb) (textB O) := by rw [hT] at hownb ⊢; exact Bs.of_own hownb
      have hltb : ∀ k, (Value.slice ab T capb).ownBlock = some k → k < w3.heap.size := fun k hk => (hownb.lt k hk).2
      have HLB := Lib.hid hltb; clear hltb
      clear hown hB hownb hT hbX hb3
      have HOM := Lib.hid hOm; clear hOm
      go_wp2_with fail
      refine (around_any a _ w3 ha0 ha1 (by omega) (by omega)).mono ?_
      rintro e w3' ⟨rfl, rfl⟩
      have hA := aroundF_bd a ((T : Int) - 4 - m) (by omega)
      generalize aroundF a ((T : Int) - 4 - m) = A at hA ⊢
      obtain ⟨hA0, hA1⟩ := hA
      obtain ⟨A, rfl⟩ := Int.eq_ofNat_of_zero_le hA0
      have hA2 : 4 + m + A < T := by omega
      clear hA0 hA1
      go_wp2_with fail
      refine (few_any _ _ 60 w3 hBb (by decide)).mono ?_
      rintro e w4 ⟨o, rfl, hown4, hb4⟩
      rw [List.take_of_length_le (by rw [← HT.out]; omega), ← HT.out] at hown4
      have hlt4 : ∀ k, o.ownBlock = some k → w3.heap.size ≤ k := fun k hk => (hown4.lt k hk).1
      obtain ⟨g, cap4, hso⟩ : ∃ g cap, o = .slice (some ⟨g, 0, none⟩) T cap := by
        rcases hown4.2 with ⟨h, h'⟩ | ⟨g, cap, cur, hv, _⟩
        · omega
        · exact ⟨g, cap, hv⟩
      subst hso
      have hg := hlt4 g rfl
      have hcell : w4.cell? ⟨g, 4 + m + A, none⟩ ≠ none := by
        rw [hown4.cellAt (4 + m + A) (by omega)]
        simp [← HT.out]
        omega
      obtain ⟨z, hcell⟩ := Option.ne_none_iff_exists'.1 hcell
      have hfz := hown4.frozenAt (4 + m + A)
      have hst := Bs.set_own (k := 4 + m + A) (c := 1) hown4 HT.out (by omega) (by omega)
      have HST := Lib.hid hst; clear hst hown4 hlt4
      have hBb4 := hBb.below hb4
      have hbW4 := Below.thenB hbW3 hb4
      have hs4 := hb4.size
      have hs3 := hbW3.size
      clear hBb hbW3 hb4
      go_wp2_with fail
      obtain ⟨hBo, hgo⟩ := HST.out
      clear HST
      have hBb5 := Bs.aside hBb4 hgo (fun k hk h => by obtain rfl := Option.some.inj hk; have := HLB.out _ h; omega)
      have hbW5 := hbW4.grown hgo hbW4.size (fun k hk => by obtain rfl := Option.some.inj hk; omega)
      refine (read_any _ _ _ hBo (by rw [List.length_set, ← HT.out]; omega)).mono ?_
      rintro e w6 ⟨gr, sv, rfl, hgr, hgrb, hsv, hb6, hsvo⟩
      have hRd : Rd w6 gr 0 ((textB O).set (4 + m + A) (UInt8.ofNat (1 : Int).toNat)) := ⟨sv, hgrb, hsv⟩
      have hgr2 : w.heap.size ≤ gr := Nat.le_trans hbW5.size hgr
      have hBb6 := hBb5.below hb6
      have hbW6 := Below.thenB hbW5 hb6
      clear hgrb hsv hb6 hsvo hBb5 hbW5 hBo hgo hbW4 hBb4
      go_wp2_with fail
      refine (around_any x (T : Int) w6 hx0 hx1 (by omega) (by omega)).mono ?_
      rintro e w6' ⟨rfl, rfl⟩
      have hC := aroundF_bd x (T : Int) (by omega)
      generalize aroundF x (T : Int) = C at hC ⊢
      obtain ⟨hC0, hC1⟩ := hC
      obtain ⟨C, rfl⟩ := Int.eq_ofNat_of_zero_le hC0
      have hBcut : Sl w6 (.slice ab T capb) T ((textB O).map bv) := by rw [HT.out] at hBb6 ⊢; exact hBb6
      go_wp2_with (refine wpList_slice_sl (o := ⟨some 55, _, _, _, _, _⟩) rfl (.tmp 50) none (some (.tmp 54)) 24 5 (.int .u8 0) 1 rfl Try.underlying24 Try.info5 ab T capb _ rfl hBcut 0 C _ _ rfl rfl (.inl ⟨rfl, rfl⟩) (.inr ⟨.i64, rfl⟩) (Nat.zero_le _) (by omega) ?_)
      intro ac capc hslc
      have hBc : Bs w6 (.slice ac (C - 0) capc) ((textB O).take C) := by
        have e : ((textB O).take C).length = C - 0 := by rw [List.length_take, ← HT.out]; omega
        unfold Bs
        rw [e, List.map_take]
        exact hslc
      clear hslc hBcut hBb6
      go_wp2_with fail
      refine (read_any _ _ _ hBc (by rw [List.length_take, ← HT.out]; omega)).mono ?_
      rintro e w7 ⟨gq, sq, rfl, hgq, hgqb, hsq, hb7, hsqo⟩
      have hRq : Rd w7 gq 0 ((textB O).take C) := ⟨sq, hgqb, hsq⟩
      have hRr := hRd.below hb7
      have hgq2 : w.heap.size ≤ gq := Nat.le_trans hbW6.size hgq
      have hgrq : gr < w6.heap.size := by obtain ⟨s', h', -⟩ := hRd; exact (Array.getElem?_eq_some_iff.1 h').1
      have hbW7 := Below.thenB hbW6 hb7
      clear hgqb hsq hsqo hRd hb7 hBc hbW6
      go_wp2_with fail
      have hT1 := rdText_any gr 60 0 _ w7 hRr (by rw [List.length_set, ← HT.out]; omega)
      rw [textF_odd O 60 (4 + m + A) _ (by rw [HOM.out]; omega) (by rw [HOM.out]; omega) (by rw [HOM.out]; omega) (by rw [← HT.out]; omega) (by decide)] at hT1
      refine hT1.mono ?_
      rintro e w8 ⟨x8, rfl, hx8, hR8, hk8⟩
      clear hT1
      have hRq8 := hRq.keep hk8 (by omega) hRr.noByte
      have hbW8 := hbW7.grown hk8 hbW7.size (fun k hk => by obtain rfl := Option.some.inj hk; omega)
      obtain ⟨ax, capx, rfl, -, -, -, -⟩ := hx8
      go_wp2_with fail
      have hT2 := rdText_any gq 60 0 _ w8 hRq8 (by rw [List.length_take, ← HT.out]; omega)
      rw [textF_cut O 60 C (by rw [HOM.out]; omega) (by rw [HOM.out]; omega) (by rw [← HT.out]; omega)] at hT2
      refine hT2.mono ?_
      rintro e w9 ⟨x9, rfl, hx9, hRq9, hk9⟩
      clear hT2
      have hRr9 := hR8.keep hk9 (by omega) hRq8.noByte
      have hbW9 := hbW8.grown hk9 hbW8.size (fun k hk => by obtain rfl := Option.some.inj hk; omega)
      obtain ⟨ay, capy, rfl, -, -, -, -⟩ := hx9
      clear hRr hRq hR8 hRq8 hbW7 hbW8 hk8 hk9
      go_wp2_with fail
      refine (rdErrno_any gr _ _ w9 hRr9).mono ?_
      rintro e w9' ⟨rfl, rfl⟩
      go_wp2_with fail
      refine (rdU32_any gr _ _ w9 hRr9).mono ?_
      rintro e w10 ⟨rfl, hRr10, hk10⟩
      have hRq10 := hRq9.keep hk10 (by omega) hRr9.noByte
      have hbW10 := hbW9.grown hk10 hbW9.size (fun k hk => by obtain rfl := Option.some.inj hk; omega)
      go_wp2_with fail
      refine (rdErrno_any gr _ _ w10 hRr10).mono ?_
      rintro e w10' ⟨rfl, rfl⟩
      go_wp2_with fail
      refine (rdErrno_any gq _ _ w10 hRq10).mono ?_
      rintro e w10' ⟨rfl, rfl⟩
      go_wp2_with fail
      refine (rdLeft_any gq _ _ w10 hRq10).mono ?_
      rintro e w10' ⟨rfl, rfl⟩
      go_wp2_with fail
      refine (lives_any _).mono ?_
      rintro e w11 ⟨rfl, hbl⟩
      go_wp2
      go_ret
      exact ⟨rfl, hbW10.trans (hbl.mono hbW10.size)⟩
  · have hcz' : (c == 0) = false := by simpa using hcz
    have hcn : UInt8.ofNat c.toNat ≠ 0 := by
      intro h
      have := congrArg UInt8.toNat h
      simp only [UInt8.toNat_ofNat', UInt8.toNat_ofNat] at this
      omega
    have HCN := Lib.hid hcn; clear hcn hcz
    by_cases h4 : (l0.take 29).length % 4 = 0
    · go_enter Try.func6, Try.ntmps6
      go_wp2_with fail
      refine (few_any v0 l0 29 _ h0 (by decide)).mono ?_
      rintro e w1 ⟨v1, rfl, hown1, hb1⟩
      clear h0
      obtain ⟨ao, cap, hs1⟩ := own_shape hown1
      subst hs1
      obtain ⟨n, hn⟩ : ∃ n, n = (l0.take 29).length := ⟨_, rfl⟩
      generalize l0.take 29 = O0 at *
      rw [← hn] at hown1 hL h4 ⊢
      have HN := Lib.hid hn; clear hn
      have h4' : ((n : Int) % 4 == 0) = true := by simp; omega
      have hs1 := hb1.size
      go_wp2_with (at_builtin; refine wpList_append_sl rfl (.tmp 23) (.tmp 24) 24 rfl w.heap.size 5 (.int .u8 0) 1 1 Try.underlying24 Try.info5 rfl (by decide) _ n _ rfl (hown1.alloc _) _ 1 [bv 1] rfl ?c0 (by simp) (by simp [bv, Value.oneCell']) ?c1 ?c2 ?c3 ?_)
      case c0 => exact Sl.lit w1 [bv 1] 5 (by decide)
      case c1 => omega
      case c2 => simp; omega
      case c3 => unfold maxLen; omega
      intro v2 W2 hown2 hg2
      have hbX : Below w.heap.size w W2 := (hb1.alloc hb1.size _).grown hg2 (by simp; omega) (fun k hk => (hown1.lt k hk).1)
      obtain ⟨O, hO⟩ : ∃ O, O = O0 ++ [1] := ⟨_, rfl⟩
      obtain ⟨m, hm⟩ : ∃ m, m = n + 1 := ⟨_, rfl⟩
      have hown : W2.ownsRow w.heap.size 5 1 v2 m (O.map bv) := by rw [hm, hO]; simpa using hown2
      have hOm : O.length = m := by rw [hO, hm, HN.out]; simp
      have hm4 : m % 4 ≠ 0 := by omega
      have hm30 : m ≤ 30 := by omega
      obtain ⟨ao, cap, hsv2⟩ := own_shape hown
      subst hsv2
      clear hown2 hg2 hown1 hb1 hO h4 h4' hL hm
      go_wp2_with fail
      have hp13 : 1 ≤ padN m ∧ padN m ≤ 3 := by unfold padN; omega
      have hB : Bs W2 (.slice ao m cap) O := by rw [← hOm] at hown ⊢; exact Bs.of_own hown
      refine (rtext_any _ O W2 hB (by omega)).mono ?_
      rintro e w3 ⟨b, rfl, hownb, hb3⟩
      obtain ⟨T, hT⟩ : ∃ T, T = (textB O).length := ⟨_, rfl⟩
      have hTm : T = 4 + m + padN m := by rw [hT, textB_length, hOm]
      rw [← hT] at hownb
      have hT1 : 5 + m ≤ T := by omega
      have hT2 : T ≤ 7 + m := by omega
      clear hTm hp13
      obtain ⟨ab, capb, hsb⟩ := own_shape hownb
      subst hsb
      have hbW3 := Below.thenB hbX hb3
      have HT := Lib.hid hT
      have hBb : Bs w3 (.slice ab T capb) (textB O) := by rw [hT] at hownb ⊢; exact Bs.of_own hownb
      have hltb : ∀ k, (Value.slice ab T capb).ownBlock = some k → k < w3.heap.size := fun k hk => (hownb.lt k hk).2
      have HLB := Lib.hid hltb; clear hltb
      clear hown hB hownb hT hbX hb3
      have HOM := Lib.hid hOm; clear hOm
      go_wp2_with fail
      refine (around_any a _ w3 ha0 ha1 (by omega) (by omega)).mono ?_
      rintro e w3' ⟨rfl, rfl⟩
      have hA := aroundF_bd a ((T : Int) - 4 - m) (by omega)
      generalize aroundF a ((T : Int) - 4 - m) = A at hA ⊢
      obtain ⟨hA0, hA1⟩ := hA
      obtain ⟨A, rfl⟩ := Int.eq_ofNat_of_zero_le hA0
      have hA2 : 4 + m + A < T := by omega
      clear hA0 hA1
      go_wp2_with fail
      refine (few_any _ _ 60 w3 hBb (by decide)).mono ?_
      rintro e w4 ⟨o, rfl, hown4, hb4⟩
      rw [List.take_of_length_le (by rw [← HT.out]; omega), ← HT.out] at hown4
      have hlt4 : ∀ k, o.ownBlock = some k → w3.heap.size ≤ k := fun k hk => (hown4.lt k hk).1
      obtain ⟨g, cap4, hso⟩ : ∃ g cap, o = .slice (some ⟨g, 0, none⟩) T cap := by
        rcases hown4.2 with ⟨h, h'⟩ | ⟨g, cap, cur, hv, _⟩
        · omega
        · exact ⟨g, cap, hv⟩
      subst hso
      have hg := hlt4 g rfl
      have hcell : w4.cell? ⟨g, 4 + m + A, none⟩ ≠ none := by
        rw [hown4.cellAt (4 + m + A) (by omega)]
        simp [← HT.out]
        omega
      obtain ⟨z, hcell⟩ := Option.ne_none_iff_exists'.1 hcell
      have hfz := hown4.frozenAt (4 + m + A)
      have hst := Bs.set_own (k := 4 + m + A) (c := c) hown4 HT.out (by omega) (by omega)
      have HST := Lib.hid hst; clear hst hown4 hlt4
      have hBb4 := hBb.below hb4
      have hbW4 := Below.thenB hbW3 hb4
      have hs4 := hb4.size
      have hs3 := hbW3.size
      clear hBb hbW3 hb4
      go_wp2_with fail
      obtain ⟨hBo, hgo⟩ := HST.out
      clear HST
      have hBb5 := Bs.aside hBb4 hgo (fun k hk h => by obtain rfl := Option.some.inj hk; have := HLB.out _ h; omega)
      have hbW5 := hbW4.grown hgo hbW4.size (fun k hk => by obtain rfl := Option.some.inj hk; omega)
      refine (read_any _ _ _ hBo (by rw [List.length_set, ← HT.out]; omega)).mono ?_
      rintro e w6 ⟨gr, sv, rfl, hgr, hgrb, hsv, hb6, hsvo⟩
      have hRd : Rd w6 gr 0 ((textB O).set (4 + m + A) (UInt8.ofNat (c : Int).toNat)) := ⟨sv, hgrb, hsv⟩
      have hgr2 : w.heap.size ≤ gr := Nat.le_trans hbW5.size hgr
      have hBb6 := hBb5.below hb6
      have hbW6 := Below.thenB hbW5 hb6
      clear hgrb hsv hb6 hsvo hBb5 hbW5 hBo hgo hbW4 hBb4
      go_wp2_with fail
      refine (around_any x (T : Int) w6 hx0 hx1 (by omega) (by omega)).mono ?_
      rintro e w6' ⟨rfl, rfl⟩
      have hC := aroundF_bd x (T : Int) (by omega)
      generalize aroundF x (T : Int) = C at hC ⊢
      obtain ⟨hC0, hC1⟩ := hC
      obtain ⟨C, rfl⟩ := Int.eq_ofNat_of_zero_le hC0
      have hBcut : Sl w6 (.slice ab T capb) T ((textB O).map bv) := by rw [HT.out] at hBb6 ⊢; exact hBb6
      go_wp2_with (refine wpList_slice_sl (o := ⟨some 55, _, _, _, _, _⟩) rfl (.tmp 50) none (some (.tmp 54)) 24 5 (.int .u8 0) 1 rfl Try.underlying24 Try.info5 ab T capb _ rfl hBcut 0 C _ _ rfl rfl (.inl ⟨rfl, rfl⟩) (.inr ⟨.i64, rfl⟩) (Nat.zero_le _) (by omega) ?_)
      intro ac capc hslc
      have hBc : Bs w6 (.slice ac (C - 0) capc) ((textB O).take C) := by
        have e : ((textB O).take C).length = C - 0 := by rw [List.length_take, ← HT.out]; omega
        unfold Bs
        rw [e, List.map_take]
        exact hslc
      clear hslc hBcut hBb6
      go_wp2_with fail
      refine (read_any _ _ _ hBc (by rw [List.length_take, ← HT.out]; omega)).mono ?_
      rintro e w7 ⟨gq, sq, rfl, hgq, hgqb, hsq, hb7, hsqo⟩
      have hRq : Rd w7 gq 0 ((textB O).take C) := ⟨sq, hgqb, hsq⟩
      have hRr := hRd.below hb7
      have hgq2 : w.heap.size ≤ gq := Nat.le_trans hbW6.size hgq
      have hgrq : gr < w6.heap.size := by obtain ⟨s', h', -⟩ := hRd; exact (Array.getElem?_eq_some_iff.1 h').1
      have hbW7 := Below.thenB hbW6 hb7
      clear hgqb hsq hsqo hRd hb7 hBc hbW6
      go_wp2_with fail
      have hT1 := rdText_any gr 60 0 _ w7 hRr (by rw [List.length_set, ← HT.out]; omega)
      rw [textF_odd O 60 (4 + m + A) _ (by rw [HOM.out]; omega) (by rw [HOM.out]; omega) (by rw [HOM.out]; omega) (by rw [← HT.out]; omega) HCN.out] at hT1
      refine hT1.mono ?_
      rintro e w8 ⟨x8, rfl, hx8, hR8, hk8⟩
      clear hT1
      have hRq8 := hRq.keep hk8 (by omega) hRr.noByte
      have hbW8 := hbW7.grown hk8 hbW7.size (fun k hk => by obtain rfl := Option.some.inj hk; omega)
      obtain ⟨ax, capx, rfl, -, -, -, -⟩ := hx8
      go_wp2_with fail
      have hT2 := rdText_any gq 60 0 _ w8 hRq8 (by rw [List.length_take, ← HT.out]; omega)
      rw [textF_cut O 60 C (by rw [HOM.out]; omega) (by rw [HOM.out]; omega) (by rw [← HT.out]; omega)] at hT2
      refine hT2.mono ?_
      rintro e w9 ⟨x9, rfl, hx9, hRq9, hk9⟩
      clear hT2
      have hRr9 := hR8.keep hk9 (by omega) hRq8.noByte
      have hbW9 := hbW8.grown hk9 hbW8.size (fun k hk => by obtain rfl := Option.some.inj hk; omega)
      obtain ⟨ay, capy, rfl, -, -, -, -⟩ := hx9
      clear hRr hRq hR8 hRq8 hbW7 hbW8 hk8 hk9
      go_wp2_with fail
      refine (rdErrno_any gr _ _ w9 hRr9).mono ?_
      rintro e w9' ⟨rfl, rfl⟩
      go_wp2_with fail
      refine (rdU32_any gr _ _ w9 hRr9).mono ?_
      rintro e w10 ⟨rfl, hRr10, hk10⟩
      have hRq10 := hRq9.keep hk10 (by omega) hRr9.noByte
      have hbW10 := hbW9.grown hk10 hbW9.size (fun k hk => by obtain rfl := Option.some.inj hk; omega)
      go_wp2_with fail
      refine (rdErrno_any gr _ _ w10 hRr10).mono ?_
      rintro e w10' ⟨rfl, rfl⟩
      go_wp2_with fail
      refine (rdErrno_any gq _ _ w10 hRq10).mono ?_
      rintro e w10' ⟨rfl, rfl⟩
      go_wp2_with fail
      refine (rdLeft_any gq _ _ w10 hRq10).mono ?_
      rintro e w10' ⟨rfl, rfl⟩
      go_wp2_with fail
      refine (lives_any _).mono ?_
      rintro e w11 ⟨rfl, hbl⟩
      go_wp2
      go_ret
      exact ⟨rfl, hbW10.trans (hbl.mono hbW10.size)⟩
    · go_enter Try.func6, Try.ntmps6
      go_wp2_with fail
      refine (few_any v0 l0 29 _ h0 (by decide)).mono ?_
      rintro e w1 ⟨v1, rfl, hown1, hb1⟩
      clear h0
      obtain ⟨ao, cap, hs1⟩ := own_shape hown1
      subst hs1
      obtain ⟨m, hOm⟩ : ∃ m, (l0.take 29).length = m := ⟨_, rfl⟩
      generalize l0.take 29 = O at *
      rw [hOm] at hown1 hL h4 ⊢
      have hm30 : m ≤ 30 := by omega
      have hm4 := h4
      obtain ⟨W2, hW2⟩ : ∃ W, W = w1 := ⟨_, rfl⟩
      rw [← hW2] at hown1 hb1 ⊢
      clear hW2
      have hown := hown1
      have hbX := hb1
      have h4' : ((m : Int) % 4 == 0) = false := by simp; omega
      clear hown1 hb1 h4 hL
      go_wp2_with fail
      have hp13 : 1 ≤ padN m ∧ padN m ≤ 3 := by unfold padN; omega
      have hB : Bs W2 (.slice ao m cap) O := by rw [← hOm] at hown ⊢; exact Bs.of_own hown
      refine (rtext_any _ O W2 hB (by omega)).mono ?_
      rintro e w3 ⟨b, rfl, hownb, hb3⟩
      obtain ⟨T, hT⟩ : ∃ T, T = (textB O).length := ⟨_, rfl⟩
      have hTm : T = 4 + m + padN m := by rw [hT, textB_length, hOm]
      rw [← hT] at hownb
      have hT1 : 5 + m ≤ T := by omega
      have hT2 : T ≤ 7 + m := by omega
      clear hTm hp13
      obtain ⟨ab, capb, hsb⟩ := own_shape hownb
      subst hsb
      have hbW3 := Below.thenB hbX hb3
      have HT := Lib.hid hT
      have hBb : Bs w3 (.slice ab T capb) (textB O) := by rw [hT] at hownb ⊢; exact Bs.of_own hownb
      have hltb : ∀ k, (Value.slice ab T capb).ownBlock = some k → k < w3.heap.size := fun k hk => (hownb.lt k hk).2
      have HLB := Lib.hid hltb; clear hltb
      clear hown hB hownb hT hbX hb3
      have HOM := Lib.hid hOm; clear hOm
      go_wp2_with fail
      refine (around_any a _ w3 ha0 ha1 (by omega) (by omega)).mono ?_
      rintro e w3' ⟨rfl, rfl⟩
      have hA := aroundF_bd a ((T : Int) - 4 - m) (by omega)
      generalize aroundF a ((T : Int) - 4 - m) = A at hA ⊢
      obtain ⟨hA0, hA1⟩ := hA
      obtain ⟨A, rfl⟩ := Int.eq_ofNat_of_zero_le hA0
      have hA2 : 4 + m + A < T := by omega
      clear hA0 hA1
      go_wp2_with fail
      refine (few_any _ _ 60 w3 hBb (by decide)).mono ?_
      rintro e w4 ⟨o, rfl, hown4, hb4⟩
      rw [List.take_of_length_le (by rw [← HT.out]; omega), ← HT.out] at hown4
      have hlt4 : ∀ k, o.ownBlock = some k → w3.heap.size ≤ k := fun k hk => (hown4.lt k hk).1
      obtain ⟨g, cap4, hso⟩ : ∃ g cap, o = .slice (some ⟨g, 0, none⟩) T cap := by
        rcases hown4.2 with ⟨h, h'⟩ | ⟨g, cap, cur, hv, _⟩
        · omega
        · exact ⟨g, cap, hv⟩
      subst hso
      have hg := hlt4 g rfl
      have hcell : w4.cell? ⟨g, 4 + m + A, none⟩ ≠ none := by
        rw [hown4.cellAt (4 + m + A) (by omega)]
        simp [← HT.out]
        omega
      obtain ⟨z, hcell⟩ := Option.ne_none_iff_exists'.1 hcell
      have hfz := hown4.frozenAt (4 + m + A)
      have hst := Bs.set_own (k := 4 + m + A) (c := c) hown4 HT.out (by omega) (by omega)
      have HST := Lib.hid hst; clear hst hown4 hlt4
      have hBb4 := hBb.below hb4
      have hbW4 := Below.thenB hbW3 hb4
      have hs4 := hb4.size
      have hs3 := hbW3.size
      clear hBb hbW3 hb4
      go_wp2_with fail
      obtain ⟨hBo, hgo⟩ := HST.out
      clear HST
      have hBb5 := Bs.aside hBb4 hgo (fun k hk h => by obtain rfl := Option.some.inj hk; have := HLB.out _ h; omega)
      have hbW5 := hbW4.grown hgo hbW4.size (fun k hk => by obtain rfl := Option.some.inj hk; omega)
      refine (read_any _ _ _ hBo (by rw [List.length_set, ← HT.out]; omega)).mono ?_
      rintro e w6 ⟨gr, sv, rfl, hgr, hgrb, hsv, hb6, hsvo⟩
      have hRd : Rd w6 gr 0 ((textB O).set (4 + m + A) (UInt8.ofNat (c : Int).toNat)) := ⟨sv, hgrb, hsv⟩
      have hgr2 : w.heap.size ≤ gr := Nat.le_trans hbW5.size hgr
      have hBb6 := hBb5.below hb6
      have hbW6 := Below.thenB hbW5 hb6
      clear hgrb hsv hb6 hsvo hBb5 hbW5 hBo hgo hbW4 hBb4
      go_wp2_with fail
      refine (around_any x (T : Int) w6 hx0 hx1 (by omega) (by omega)).mono ?_
      rintro e w6' ⟨rfl, rfl⟩
      have hC := aroundF_bd x (T : Int) (by omega)
      generalize aroundF x (T : Int) = C at hC ⊢
      obtain ⟨hC0, hC1⟩ := hC
      obtain ⟨C, rfl⟩ := Int.eq_ofNat_of_zero_le hC0
      have hBcut : Sl w6 (.slice ab T capb) T ((textB O).map bv) := by rw [HT.out] at hBb6 ⊢; exact hBb6
      go_wp2_with (refine wpList_slice_sl (o := ⟨some 55, _, _, _, _, _⟩) rfl (.tmp 50) none (some (.tmp 54)) 24 5 (.int .u8 0) 1 rfl Try.underlying24 Try.info5 ab T capb _ rfl hBcut 0 C _ _ rfl rfl (.inl ⟨rfl, rfl⟩) (.inr ⟨.i64, rfl⟩) (Nat.zero_le _) (by omega) ?_)
      intro ac capc hslc
      have hBc : Bs w6 (.slice ac (C - 0) capc) ((textB O).take C) := by
        have e : ((textB O).take C).length = C - 0 := by rw [List.length_take, ← HT.out]; omega
        unfold Bs
        rw [e, List.map_take]
        exact hslc
      clear hslc hBcut hBb6
      go_wp2_with fail
      refine (read_any _ _ _ hBc (by rw [List.length_take, ← HT.out]; omega)).mono ?_
      rintro e w7 ⟨gq, sq, rfl, hgq, hgqb, hsq, hb7, hsqo⟩
      have hRq : Rd w7 gq 0 ((textB O).take C) := ⟨sq, hgqb, hsq⟩
      have hRr := hRd.below hb7
      have hgq2 : w.heap.size ≤ gq := Nat.le_trans hbW6.size hgq
      have hgrq : gr < w6.heap.size := by obtain ⟨s', h', -⟩ := hRd; exact (Array.getElem?_eq_some_iff.1 h').1
      have hbW7 := Below.thenB hbW6 hb7
      clear hgqb hsq hsqo hRd hb7 hBc hbW6
      go_wp2_with fail
      have hT1 := rdText_any gr 60 0 _ w7 hRr (by rw [List.length_set, ← HT.out]; omega)
      rw [textF_odd O 60 (4 + m + A) _ (by rw [HOM.out]; omega) (by rw [HOM.out]; omega) (by rw [HOM.out]; omega) (by rw [← HT.out]; omega) HCN.out] at hT1
      refine hT1.mono ?_
      rintro e w8 ⟨x8, rfl, hx8, hR8, hk8⟩
      clear hT1
      have hRq8 := hRq.keep hk8 (by omega) hRr.noByte
      have hbW8 := hbW7.grown hk8 hbW7.size (fun k hk => by obtain rfl := Option.some.inj hk; omega)
      obtain ⟨ax, capx, rfl, -, -, -, -⟩ := hx8
      go_wp2_with fail
      have hT2 := rdText_any gq 60 0 _ w8 hRq8 (by rw [List.length_take, ← HT.out]; omega)
      rw [textF_cut O 60 C (by rw [HOM.out]; omega) (by rw [HOM.out]; omega) (by rw [← HT.out]; omega)] at hT2
      refine hT2.mono ?_
      rintro e w9 ⟨x9, rfl, hx9, hRq9, hk9⟩
      clear hT2
      have hRr9 := hR8.keep hk9 (by omega) hRq8.noByte
      have hbW9 := hbW8.grown hk9 hbW8.size (fun k hk => by obtain rfl := Option.some.inj hk; omega)
      obtain ⟨ay, capy, rfl, -, -, -, -⟩ := hx9
      clear hRr hRq hR8 hRq8 hbW7 hbW8 hk8 hk9
      go_wp2_with fail
      refine (rdErrno_any gr _ _ w9 hRr9).mono ?_
      rintro e w9' ⟨rfl, rfl⟩
      go_wp2_with fail
      refine (rdU32_any gr _ _ w9 hRr9).mono ?_
      rintro e w10 ⟨rfl, hRr10, hk10⟩
      have hRq10 := hRq9.keep hk10 (by omega) hRr9.noByte
      have hbW10 := hbW9.grown hk10 hbW9.size (fun k hk => by obtain rfl := Option.some.inj hk; omega)
      go_wp2_with fail
      refine (rdErrno_any gr _ _ w10 hRr10).mono ?_
      rintro e w10' ⟨rfl, rfl⟩
      go_wp2_with fail
      refine (rdErrno_any gq _ _ w10 hRq10).mono ?_
      rintro e w10' ⟨rfl, rfl⟩
      go_wp2_with fail
      refine (rdLeft_any gq _ _ w10 hRq10).mono ?_
      rintro e w10' ⟨rfl, rfl⟩
      go_wp2_with fail
      refine (lives_any _).mono ?_
      rintro e w11 ⟨rfl, hbl⟩
      go_wp2
      go_ret
      exact ⟨rfl, hbW10.trans (hbl.mono hbW10.size)⟩
end Go.Proofs.Ytolcjgogalenhaa
