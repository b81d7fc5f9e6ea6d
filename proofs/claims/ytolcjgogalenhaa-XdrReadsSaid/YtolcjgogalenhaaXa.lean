/-
  What the layers' functions that lay bytes hand back, each once: numbers, texts, a yes or no, of the program and of the reference.
-/
import Derived.Test.YtolcjgogalenhaaBase
namespace Go.Proofs.Ytolcjgogalenhaa
open Go.RowKit

theorem u32_any (v : Value) (l : List UInt8) (n : Int) (w : World) (hv : Bs w v l) (hl : l.length ≤ 1073741824) (hn0 : 0 ≤ n) (hn1 : n ≤ 4294967295) :
    Calls Try.prog 11 #[v, .int .u32 n] w (Fresh w (l ++ be32 n)) := by
  obtain ⟨ao, cap, rfl, hlc, hcm, hnone, hcells⟩ := hv
  have hc4 := be32_cells n hn0 hn1
  have HS : Hid (∀ w', Below w.heap.size w w' → Sl w' (.slice ao l.length l.length) l.length (l.map bv)) := fun w' hb =>
    Sl.below ⟨ao, l.length, rfl, Nat.le_refl _, by unfold maxLen; omega, (fun h => by have := hnone h; omega), hcells⟩ hb
  generalize hm : l.length = k at *
  have HM := Lib.hid hm; clear hm
  have HC := Lib.hid hc4; clear hc4
  clear hcells hnone
  go_enter Try.func11, Try.ntmps11
  go_wp2_with (at_builtin; refine wpList_append_full rfl _ _ 24 rfl 5 (.int .u8 0) 1 1 Try.underlying24 Try.info5 rfl (by decide) ao k (l.map bv) rfl (HS.out _ ?b1) ?b2 ⟨w.heap.size, 0, none⟩ 4 4 ((be32 n).map bv) rfl rfl ?b3 (bv_one _) (by decide) ?b4 ?b5 ?_)
  case b1 => exact (Below.refl _ _).alloc (Nat.le_refl _) _
  case b2 => simp [HM.out]
  case b3 =>
    rw [HC.out]
    intro j u hj
    match j, hj with
    | 0, hj => simp at hj; subst hj; simp [Addr.add]
    | 1, hj => simp at hj; subst hj; simp [Addr.add]
    | 2, hj => simp at hj; subst hj; simp [Addr.add]
    | 3, hj => simp at hj; subst hj; simp [Addr.add]
  case b4 => omega
  case b5 => unfold maxLen; omega
  intro v' w' hown hg
  clear HC
  go_wp2
  go_ret
  exact Fresh.mk hown (by simp) (by simp [HM.out, be32_length]) (by simp) (((Below.refl _ _).alloc (Nat.le_refl _) _).grown hg (by simp) (by intro k hk; cases hk))

/-- A number's eight bytes. -/
def be64 (n : Int) : List UInt8 := be32 (n / 4294967296) ++ be32 (n % 4294967296)

theorem u64_any (v : Value) (l : List UInt8) (n : Int) (w : World) (hv : Bs w v l) (hl : l.length ≤ 1073741816) (hn0 : 0 ≤ n) (hn1 : n < 18446744073709551616) :
    Calls Try.prog 15 #[v, .int .u64 n] w (Fresh w (l ++ be64 n)) := by
  go_enter Try.func15, Try.ntmps15
  go_wp2_with fail
  refine (u32_any v l (n / 4294967296) _ hv (by omega) (by omega) (by omega)).mono ?_
  rintro e w1 ⟨v1, rfl, hown1, hb1⟩
  go_wp2_with fail
  refine (u32_any v1 _ (n % 4294967296) _ (Bs.of_own hown1) (by simp [be32_length]; omega) (by omega) (by omega)).mono ?_
  rintro e w2 ⟨v2, rfl, hown2, hb2⟩
  go_wp2
  go_ret
  exact Fresh.mk hown2 hb1.size (by simp [be64, be32_length]) (by simp [be64]) (Below.thenB hb1 hb2)

theorem bool_any (v : Value) (l : List UInt8) (b : Bool) (w : World) (hv : Bs w v l) (hl : l.length ≤ 1073741824) :
    Calls Try.prog 16 #[v, .bool b] w (Fresh w (l ++ be32 (if b then 1 else 0))) := by
  cases b
  all_goals
    go_enter Try.func16, Try.ntmps16
    go_wp2_with fail
    refine (u32_any v l _ _ hv hl (by decide) (by decide)).mono ?_
    rintro e w1 ⟨v1, rfl, hown1, hb1⟩
    go_wp2
    go_ret
    exact Fresh.mk hown1 (Nat.le_refl _) rfl rfl hb1

theorem pad_any (n : Int) (w : World) (h0 : 0 ≤ n) (h1 : n ≤ 4294967296) :
    Calls Try.prog 46 #[.int .i64 n] w fun e w' => e = .returned (.int .i64 ((4 - n % 4) % 4)) ∧ w = w' := by
  go_enter Try.func46, Try.ntmps46
  go_wp2
  go_ret
  exact ⟨rfl, rfl⟩


/-- How many bytes 0 stand behind a text of n bytes. -/
def padN (n : Nat) : Nat := (4 - n % 4) % 4
/-- A text's bytes. -/
def textB (t : List UInt8) : List UInt8 := be32 t.length ++ t ++ List.replicate (padN t.length) 0
theorem textB_length (t : List UInt8) : (textB t).length = 4 + t.length + padN t.length := by simp [textB, be32_length]; omega

set_option maxHeartbeats 400000 in
theorem text_any (v s : Value) (l t : List UInt8) (w : World) (hv : Bs w v l) (hs : Bs w s t) (hl : l.length ≤ 1073741824) (ht : t.length ≤ 1073741824) :
    Calls Try.prog 13 #[v, s] w (Fresh w (l ++ textB t)) := by
  have hs0 := hs
  obtain ⟨ao, cap, rfl, hlc, hcm, _, _⟩ := hs0
  obtain ⟨p, hp⟩ : ∃ p : Nat, p = padN t.length := ⟨_, rfl⟩
  have hp3 : p ≤ 3 := by subst hp; unfold padN; omega
  have hpi : (4 - (t.length : Int) % 4) % 4 = (p : Int) := by subst hp; unfold padN; omega
  have HPI := Lib.hid hpi; clear hpi
  have HP := Lib.hid hp; clear hp
  go_enter Try.func13, Try.ntmps13
  go_wp2_with fail
  refine (u32_any v l (t.length : Int) _ hv (by omega) (by omega) (by omega)).mono ?_
  rintro e w1 ⟨v1, rfl, hown1, hb1⟩
  go_wp2_with (at_builtin; refine wpList_append_sl rfl (.tmp 9) (.tmp 10) 24 rfl w.heap.size 5 (.int .u8 0) 1 1 Try.underlying24 Try.info5 rfl (by decide) v1 _ _ rfl hown1 _ _ _ rfl (hs.below hb1) (by simp) (bv_one _) ?b1 ?b2 ?b3 ?_)
  case b1 => simp [be32_length]; omega
  case b2 => exact hb1.size
  case b3 => simp [be32_length]; unfold maxLen; omega
  intro v2 w2 hown2 hg2
  have hb2 : Below w.heap.size w w2 := hb1.grown hg2 hb1.size (fun k hk => (hown1.lt k hk).1)
  clear hown1 hg2 hb1
  go_wp2_with fail
  refine (pad_any _ _ (by omega) (by omega)).mono ?_
  rintro e w3 ⟨rfl, rfl⟩
  rw [HPI.out]
  go_wp2_with fail
  go_loopw [0, 15] (fun x i wr => ∃ k : Nat, k ≤ p ∧ i = .int .i64 k ∧ wr.ownsRow w.heap.size 5 1 x ((l ++ be32 t.length ++ t ++ List.replicate k 0).length) ((l ++ be32 t.length ++ t ++ List.replicate k 0).map bv) ∧ Below w.heap.size w wr)
    (fun _ i _ => p - (intOf i).toNat)
  case atStart => exact ⟨0, Nat.zero_le _, rfl, by simpa [be32_length, Nat.add_assoc] using hown2, hb2⟩
  case round =>
    obtain ⟨k, hk, rfl, hown, hb⟩ := hrel
    by_cases hlt : k < p
    · go_wp2_with (at_builtin; refine wpList_append_sl rfl (.tmp 17) (.tmp 18) 24 rfl w.heap.size 5 (.int .u8 0) 1 1 Try.underlying24 Try.info5 rfl (by decide) _ _ _ rfl (hown.alloc _) _ 1 [bv 0] rfl ?c0 (by simp) (by simp [bv, Value.oneCell']) ?c1 ?c2 ?c3 ?_)
      case c0 => exact Sl.lit wr [bv 0] 5 (by decide)
      case c1 => simp [be32_length]; omega
      case c2 => have := hb.size; simp; omega
      case c3 => simp [be32_length]; unfold maxLen; omega
      intro v3 w3 hown3 hg3
      have hb3 : Below w.heap.size w w3 := (hb.alloc hb.size _).grown hg3 (by have := hb.size; simp; omega) (fun k hk => (hown.lt k hk).1)
      clear hown hb hg3
      go_wp2
      go_roundw
      case rel => exact ⟨k + 1, by omega, by go_num, by simpa [List.replicate_succ', Nat.add_assoc] using hown3, hb3⟩
      case measure => simp [intOf]; omega
    · obtain rfl : k = p := by omega
      go_wp2
      go_ret
      exact Fresh.mk hown (Nat.le_refl _) (by simp [textB, HP.out]) (by simp [textB, HP.out]) hb


/-! ### The reference -/
theorem few_any (v : Value) (l : List UInt8) (k : Nat) (w : World) (hv : Bs w v l) (hk : k ≤ 1000000) :
    Calls Try.prog 12 #[v, .int .i64 (k : Int)] w (Fresh w (l.take k)) := by
  obtain ⟨ao, cap, rfl, hlc, hcm, hnone, hcells⟩ := hv
  unfold maxLen at hcm
  have HS : Hid (∀ m : Nat, m ≤ k → m ≤ l.length → m = min l.length k → Sl w (.slice ao m cap) m ((l.take k).map bv)) := fun m hm hml he => by
    refine ⟨ao, cap, rfl, by omega, by unfold maxLen; omega, hnone, ?_⟩
    rcases hcells with h0 | ⟨b, o, ha, hc⟩
    · have : l = [] := by simpa using h0
      subst this; left; simp
    · right
      refine ⟨b, o, ha, fun i u hu => hc i u ?_⟩
      rw [List.map_take, List.getElem?_take] at hu
      split at hu
      · exact hu
      · cases hu
  clear hcells hnone
  obtain ⟨n, hn⟩ : ∃ n, n = l.length := ⟨_, rfl⟩
  rw [← hn] at hlc ⊢
  have HN := Lib.hid hn; clear hn
  by_cases hnk : n ≤ k
  · go_enter Try.func12, Try.ntmps12
    go_wp2_with (at_builtin; refine wpList_append_sl rfl (.tmp 6) (.tmp 12) 24 rfl w.heap.size 5 (.int .u8 0) 1 1 Try.underlying24 Try.info5 rfl (by decide) _ _ _ rfl (World.ownsRow_nil _ _ _ _) _ n _ rfl (HS.out n (by omega) (by rw [HN.out]; exact Nat.le_refl _) (by rw [← HN.out]; omega)) (by rw [HN.out] at hnk ⊢; simp; omega) (bv_one _) ?b1 ?b2 ?b3 ?_)
    case b1 => omega
    case b2 => exact Nat.le_refl _
    case b3 => unfold maxLen; omega
    intro v2 w2 hown2 hg2
    go_wp2
    go_ret
    exact Fresh.mk hown2 (Nat.le_refl _) (by rw [HN.out] at hnk ⊢; simp; omega) (by simp) ((Below.refl _ _).grown hg2 (Nat.le_refl _) (by intro k hk; cases hk))
  · go_enter Try.func12, Try.ntmps12
    go_wp2_with (at_builtin; refine wpList_append_sl rfl (.tmp 6) (.tmp 12) 24 rfl w.heap.size 5 (.int .u8 0) 1 1 Try.underlying24 Try.info5 rfl (by decide) _ _ _ rfl (World.ownsRow_nil _ _ _ _) _ k _ rfl (HS.out k (by omega) (by rw [← HN.out]; omega) (by rw [← HN.out]; omega)) (by rw [HN.out] at hnk; simp; omega) (bv_one _) ?b1 ?b2 ?b3 ?_)
    case b1 => omega
    case b2 => exact Nat.le_refl _
    case b3 => unfold maxLen; omega
    intro v2 w2 hown2 hg2
    go_wp2
    go_ret
    exact Fresh.mk hown2 (Nat.le_refl _) (by rw [HN.out] at hnk; simp; omega) (by simp) ((Below.refl _ _).grown hg2 (Nat.le_refl _) (by intro k hk; cases hk))

theorem few_int (v : Value) (l : List UInt8) (k : Int) (w : World) (hv : Bs w v l) (h0 : 0 ≤ k) (hk : k ≤ 1000000) :
    Calls Try.prog 12 #[v, .int .i64 k] w (Fresh w (l.take k.toNat)) := by
  obtain ⟨m, rfl⟩ := Int.eq_ofNat_of_zero_le h0
  exact few_any v l m w hv (by omega)

theorem ru32_any (n : Int) (w : World) (hn0 : 0 ≤ n) (hn1 : n ≤ 4294967295) : Calls Try.prog 17 #[.int .u32 n] w (Fresh w (be32 n)) := by
  have HC := Lib.hid (be32_cells n hn0 hn1)
  go_enter Try.func17, Try.ntmps17
  go_wp2
  go_ret
  exact Fresh.mk (own_lit w [.int .u8 (n / 16777216), .int .u8 (n / 65536 % 256), .int .u8 (n / 256 % 256), .int .u8 (n % 256)] 5 w.heap.size (Nat.le_refl _) (by simp)) (Nat.le_refl _) rfl HC.out.symm ((Below.refl _ _).alloc (Nat.le_refl _) _)

theorem ru64_any (n : Int) (w : World) (hn0 : 0 ≤ n) (hn1 : n < 18446744073709551616) : Calls Try.prog 18 #[.int .u64 n] w (Fresh w (be64 n)) := by
  go_enter Try.func18, Try.ntmps18
  go_wp2_with fail
  refine (ru32_any (n / 4294967296) _ (by omega) (by omega)).mono ?_
  rintro e w1 ⟨v1, rfl, hown1, hb1⟩
  go_wp2_with fail
  refine (ru32_any (n % 4294967296) _ (by omega) (by omega)).mono ?_
  rintro e w2 ⟨v2, rfl, hown2, hb2⟩
  have hown1' := hown1.kept (w' := w2) (row := none) ⟨hb2.os, hb2.tape, hb2.output, hb2.size, fun k hk _ => hb2.block k hk⟩ (by cases v1.ownBlock <;> simp)
  go_wp2_with (at_builtin; refine wpList_append_sl rfl (.tmp 6) (.tmp 10) 24 rfl w.heap.size 5 (.int .u8 0) 1 1 Try.underlying24 Try.info5 rfl (by decide) _ _ _ rfl hown1' _ _ _ rfl (Bs.of_own hown2) (by simp) (bv_one _) ?b1 ?b2 ?b3 ?_)
  case b1 => simp [be32_length]
  case b2 => exact Nat.le_trans hb1.size hb2.size
  case b3 => simp [be32_length, maxLen]
  intro v3 w3 hown3 hg3
  go_wp2
  go_ret
  exact Fresh.mk hown3 (Nat.le_refl _) (by simp [be64]) (by simp [be64]) ((Below.thenB hb1 hb2).grown hg3 (Nat.le_trans hb1.size hb2.size) (fun k hk => (hown1.lt k hk).1))

theorem rbool_any (b : Bool) (w : World) : Calls Try.prog 20 #[.bool b] w (Fresh w (be32 (if b then 1 else 0))) := by
  cases b
  all_goals
    go_enter Try.func20, Try.ntmps20
    go_wp2_with fail
    refine (ru32_any _ _ (by decide) (by decide)).mono ?_
    rintro e w1 ⟨v1, rfl, hown1, hb1⟩
    go_wp2
    go_ret
    exact Fresh.mk hown1 (Nat.le_refl _) rfl rfl hb1


set_option maxHeartbeats 400000 in
theorem rtext_any (s : Value) (t : List UInt8) (w : World) (hs : Bs w s t) (ht : t.length ≤ 1073741824) :
    Calls Try.prog 19 #[s] w (Fresh w (textB t)) := by
  have hs0 := hs
  obtain ⟨ao, cap, rfl, hlc, hcm, _, _⟩ := hs0
  obtain ⟨p, hp⟩ : ∃ p : Nat, p = padN t.length := ⟨_, rfl⟩
  have hp3 : p ≤ 3 := by subst hp; unfold padN; omega
  have hmod : (4 + t.length + p) % 4 = 0 := by subst hp; unfold padN; omega
  have HMOD := Lib.hid hmod; clear hmod
  have HP := Lib.hid hp; clear hp
  go_enter Try.func19, Try.ntmps19
  go_wp2_with fail
  refine (ru32_any (t.length : Int) _ (by omega) (by omega)).mono ?_
  rintro e w1 ⟨v1, rfl, hown1, hb1⟩
  go_wp2_with (at_builtin; refine wpList_append_sl rfl (.tmp 7) (.tmp 8) 24 rfl w.heap.size 5 (.int .u8 0) 1 1 Try.underlying24 Try.info5 rfl (by decide) v1 _ _ rfl hown1 _ _ _ rfl (hs.below hb1) (by simp) (bv_one _) ?b1 ?b2 ?b3 ?_)
  case b1 => simp [be32_length]; omega
  case b2 => exact hb1.size
  case b3 => simp [be32_length]; unfold maxLen; omega
  intro v2 w2 hown2 hg2
  have hb2 : Below w.heap.size w w2 := hb1.grown hg2 hb1.size (fun k hk => (hown1.lt k hk).1)
  clear hown1 hg2 hb1
  go_wp2_with fail
  go_loopw [3] (fun x wr => ∃ k : Nat, k ≤ p ∧ wr.ownsRow w.heap.size 5 1 x (4 + t.length + k) ((be32 t.length ++ t ++ List.replicate k 0).map bv) ∧ Below w.heap.size w wr)
    (fun x _ => 4 + t.length + p - slen x)
  case atStart => exact ⟨0, Nat.zero_le _, by simpa [be32_length] using hown2, hb2⟩
  case round =>
    obtain ⟨k, hk, hown, hb⟩ := hrel
    obtain ⟨ao2, cap2, hx⟩ := own_shape hown
    subst hx
    by_cases hlt : k < p
    · have hne : (4 + (t.length : Int) + k) % 4 ≠ 0 := by have := HMOD.out; omega
      have hne2 : (((4 + t.length + k : Nat) : Int) % 4 != 0) = true := by simp only [bne_iff_ne]; omega
      go_wp2_with (at_builtin; refine wpList_append_sl rfl (.tmp 14) (.tmp 15) 24 rfl w.heap.size 5 (.int .u8 0) 1 1 Try.underlying24 Try.info5 rfl (by decide) _ _ _ rfl (hown.alloc _) _ 1 [bv 0] rfl ?c0 (by simp) (by simp [bv, Value.oneCell']) ?c1 ?c2 ?c3 ?_)
      case c0 => exact Sl.lit wr [bv 0] 5 (by decide)
      case c1 => omega
      case c2 => have := hb.size; simp; omega
      case c3 => unfold maxLen; omega
      intro v3 w3 hown3 hg3
      have hb3 : Below w.heap.size w w3 := (hb.alloc hb.size _).grown hg3 (by have := hb.size; simp; omega) (fun k hk => (hown.lt k hk).1)
      obtain ⟨ao3, cap3, hx3⟩ := own_shape hown3
      subst hx3
      clear hown hb hg3
      go_wp2
      go_roundw
      case rel => exact ⟨k + 1, by omega, by simpa [List.replicate_succ', Nat.add_assoc] using hown3, hb3⟩
      case measure => simp [slen]; omega
    · obtain rfl : k = p := by omega
      have hne2 : (((4 + t.length + k : Nat) : Int) % 4 != 0) = false := by have := HMOD.out; simp; omega
      go_wp2
      go_ret
      exact Fresh.mk hown (Nat.le_refl _) (by simp [textB, HP.out, be32_length, Nat.add_assoc]) (by simp [textB, HP.out]) hb

theorem lives_any (w : World) : Calls Try.prog 14 #[] w fun e w' => e = .returned (.bool true) ∧ Below w.heap.size w w' := by
  have hlv : (textB [97, 98] == [0, 0, 0, 2, 97, 98, 0, 0]) = true := by decide
  have kc := fun (w : World) (C : Array Value) (n c : Nat) => Lib.run_convert_bytes_const (P := Try.prog) w 24 5 C n c Try.underlying24 Try.underlying5
  go_enter Try.func14, Try.ntmps14
  go_wp2_with fail
  clear kc
  refine (text_any (.slice none 0 0) _ [] [97, 98] _ (Bs.nil _) (Bs.marked _ _ _ _ _ rfl _ rfl (by decide)) (by decide) (by decide)).mono ?_
  rintro e w1 ⟨v1, rfl, hown1, hb1⟩
  go_wp2_with (refine wpList_bytes_string rfl (.tmp 3) 24 9 5 rfl Try.underlying24 Try.underlying5 Try.underlying9 v1 _ rfl (Bs.of_own hown1) ?_)
  go_wp2
  go_ret
  exact ⟨rfl, ((Below.refl _ _).alloc (Nat.le_refl _) _).trans (hb1.mono (by simp))⟩

end Go.Proofs.Ytolcjgogalenhaa
