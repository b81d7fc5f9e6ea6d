/-
  The reader of layer 1: what each of its calls reads, and that it writes nothing but its own two cells.
-/
import Derived.Test.YtolcjgogalenhaaXa
import Derived.Test.YtolcjgogalenhaaSched
import Derived.Maps.AppendAt
namespace Go.Proofs.Ytolcjgogalenhaa
open Go.RowKit

/-- Of what was there block g alone may have turned. -/
abbrev Keep (g : Nat) (w w' : World) : Prop := w.grownBy w' (some g)
theorem Keep.refl (g : Nat) (w : World) : Keep g w w := World.grownBy.refl _ _
theorem Keep.trans {g : Nat} {a b c : World} (h : Keep g a b) (k : Keep g b c) : Keep g a c := World.grownBy.trans h k
theorem Keep.of_below {g : Nat} {w w' : World} (h : Below w.heap.size w w') : Keep g w w' := ⟨h.os, h.tape, h.output, h.size, fun k hk _ => h.block k hk⟩
theorem Keep.setCell (g i : Nat) (w : World) (v : Value) : Keep g w (w.setCell ⟨g, i, none⟩ v) :=
  ⟨rfl, rfl, rfl, by simp [World.setCell], fun k _ hk => heap_setCell_other _ _ _ _ (fun h => hk (by simp [h]))⟩
theorem Keep.below {g : Nat} {w0 w w' : World} (h : Keep g w w') (h0 : Below w0.heap.size w0 w) (hg : w0.heap.size ≤ g) : Below w0.heap.size w0 w' :=
  h0.grown h h0.size (fun k hk => by obtain rfl := Option.some.inj hk; exact hg)
theorem Keep.block {g : Nat} {w w' : World} (h : Keep g w w') {k : Nat} {o : Obj} (hk : w.heap[k]? = some o) (hne : k ≠ g) : w'.heap[k]? = some o := by
  rw [World.grownBy.block h k (Array.getElem?_eq_some_iff.1 hk).1 (by simpa using hne)]; exact hk

/-- No cell of block g is a byte. -/
def NoByte (w : World) (g : Nat) : Prop := ∀ i n, w.cell? ⟨g, i, none⟩ ≠ some (.int .u8 n)
theorem Bs.keep {g : Nat} {w w' : World} {v : Value} {l : List UInt8} (h : Bs w v l) (hk : Keep g w w') (hn : NoByte w g) : Bs w' v l := by
  obtain ⟨ao, cap, hv, h1, h2, h3, h4⟩ := h
  refine ⟨ao, cap, hv, h1, h2, h3, ?_⟩
  rcases h4 with h4 | ⟨b, o, ha, hc⟩
  · exact .inl h4
  · refine .inr ⟨b, o, ha, fun i u hu => ?_⟩
    have hcu := hc i u hu
    have hne : b ≠ g := by
      rintro rfl
      rw [List.getElem?_map] at hu
      cases hl : l[i]? with
      | none => simp [hl] at hu
      | some c =>
        simp only [hl, Option.map_some, Option.some.injEq] at hu
        subst hu
        exact hn _ _ hcu
    exact World.grownBy.cell hk hcu (by simpa using hne)

/-- The reader at block g: its error, the bytes that are left. -/
def Rd (w : World) (g : Nat) (e : Int) (l : List UInt8) : Prop := ∃ sv, w.heap[g]? = some (.cells #[.int .i64 e, sv] 51 (0, 0)) ∧ Bs w sv l
theorem cell_at {w : World} {g : Nat} {cs : Array Value} {t : TypeId} (h : w.heap[g]? = some (.cells cs t (0, 0))) (i : Nat) : w.cell? ⟨g, i, none⟩ = cs[i]? := by
  simp [World.cell?, h]
theorem free_at {w : World} {g : Nat} {cs : Array Value} {t : TypeId} (h : w.heap[g]? = some (.cells cs t (0, 0))) (i : Nat) : w.frozen? ⟨g, i, none⟩ = false := by
  simp [World.frozen?, h]
theorem Bs.noU8 {w : World} {v : Value} {l : List UInt8} (h : Bs w v l) (n : Int) : v ≠ .int .u8 n := by
  obtain ⟨ao, cap, rfl, _⟩ := h
  intro h; cases h
theorem Rd.noByte {w : World} {g : Nat} {e : Int} {l : List UInt8} (h : Rd w g e l) : NoByte w g := by
  obtain ⟨sv, hg, hb⟩ := h
  intro i n
  rw [cell_at hg]
  match i with
  | 0 => simp
  | 1 => simpa using hb.noU8 n
  | i + 2 => simp
theorem Rd.keep {g k : Nat} {w w' : World} {e : Int} {l : List UInt8} (h : Rd w g e l) (hk : Keep k w w') (hne : g ≠ k) (hn : NoByte w k) : Rd w' g e l := by
  obtain ⟨sv, hg, hb⟩ := h
  exact ⟨sv, hk.block hg hne, hb.keep hk hn⟩
theorem Rd.below {g : Nat} {w w' : World} {e : Int} {l : List UInt8} (h : Rd w g e l) (hb : Below w.heap.size w w') : Rd w' g e l := by
  obtain ⟨sv, hg, hbs⟩ := h
  exact ⟨sv, by rw [hb.block g (Array.getElem?_eq_some_iff.1 hg).1]; exact hg, hbs.below hb⟩

def valB (l : List UInt8) : Int := l.foldl (fun n c => n * 256 + (c.toNat : Int)) 0
theorem valB_snoc (l : List UInt8) (c : UInt8) : valB (l ++ [c]) = valB l * 256 + c.toNat := by simp [valB]
theorem valB_bd' (l : List UInt8) : ∀ n : Int, 0 ≤ n → 0 ≤ l.foldl (fun n c => n * 256 + (c.toNat : Int)) n ∧ l.foldl (fun n c => n * 256 + (c.toNat : Int)) n < (n + 1) * 256 ^ l.length := by
  induction l with
  | nil => intro n h; simp; omega
  | cons c l ih =>
    intro n h
    have hc := c.toNat_lt
    have := ih (n * 256 + c.toNat) (by omega)
    refine ⟨this.1, Int.lt_of_lt_of_le this.2 ?_⟩
    rw [List.length_cons, Int.pow_succ, Int.mul_comm ((256 : Int) ^ l.length) 256, ← Int.mul_assoc]
    exact Int.mul_le_mul_of_nonneg_right (by omega) (Int.le_of_lt (Int.pow_pos (by decide)))
theorem valB_bd (l : List UInt8) : 0 ≤ valB l ∧ valB l < 256 ^ l.length := by
  have := valB_bd' l 0 (by decide)
  simpa [valB] using this

theorem pow256_7 (n : Nat) (h : n ≤ 7) : (256 : Int) ^ n ≤ 72057594037927936 := by
  have h1 : 256 ^ n ≤ 256 ^ 7 := Nat.pow_le_pow_right (by decide) h
  have h2 : ((256 ^ n : Nat) : Int) ≤ ((256 ^ 7 : Nat) : Int) := Int.ofNat_le.2 h1
  have h3 : ((256 ^ n : Nat) : Int) = (256 : Int) ^ n := by rw [Int.natCast_pow]; rfl
  rw [h3] at h2
  exact h2
theorem or_byte (n c : Int) (h0 : 0 ≤ n) (h1 : n < 72057594037927936) (c0 : 0 ≤ c) (c1 : c < 256) : bits .or .u64 (n * 256) c = n * 256 + c := by
  have hw : ∀ m : Int, 0 ≤ m → m < 2 ^ 64 → IntKind.u64.wrap m = m := fun m a b => by rw [IntKind.wrap_u64]; omega
  exact bits_join .u64 64 (by decide) hw 8 _ _ (by omega) (by omega) (by omega) c0 (by omega) (by omega)

theorem fail_any (g : Nat) (e e' : Int) (l : List UInt8) (w : World) (h : Rd w g e l) :
    Calls Try.prog 51 #[.pointer (some ⟨g, 0, none⟩), .int .i64 e'] w fun en w' => en = .returned (.tuple #[]) ∧ Rd w' g e' [] ∧ Keep g w w' := by
  obtain ⟨sv, hg, hb⟩ := h
  have hc0 : w.cell? ⟨g, 0, none⟩ = some (.int .i64 e) := cell_at hg 0
  have hc1 : w.cell? ⟨g, 1, none⟩ = some sv := cell_at hg 1
  have hf0 := free_at hg 0
  have hf1 := free_at hg 1
  have HG := Lib.hid hg; clear hg hb
  go_enter Try.func51, Try.ntmps51
  go_wp2
  go_end0
  exact ⟨rfl, ⟨_, heap_setCell_same _ g 1 _ 51 _ (heap_setCell_same w g 0 _ 51 _ HG.out), Bs.nil _⟩, (Keep.setCell g 0 w _).trans (Keep.setCell g 1 _ _)⟩

/-- The next number of so many bytes, or 0: it, the error behind it, what is left. -/
def numF (s : Nat) (e : Int) (l : List UInt8) : Int × Int × List UInt8 :=
  if e ≠ 0 then (0, e, l) else if l.length < s then (0, 3, []) else (valB (l.take s), 0, l.drop s)

set_option maxHeartbeats 800000 in
theorem number_any (g : Nat) (e : Int) (s : Nat) (l : List UInt8) (w : World) (h : Rd w g e l) (hs1 : 1 ≤ s) (hs8 : s ≤ 8) :
    Calls Try.prog 48 #[.pointer (some ⟨g, 0, none⟩), .int .i64 (s : Int)] w fun en w' => en = .returned (.int .u64 (numF s e l).1) ∧ Rd w' g (numF s e l).2.1 (numF s e l).2.2 ∧ Keep g w w' := by
  have hR := h
  obtain ⟨sv, hg, hb⟩ := h
  have hb0 := hb
  obtain ⟨ao, cap, rfl, hlc, hcm, -, -⟩ := hb0
  unfold maxLen at hcm
  have hc0 : w.cell? ⟨g, 0, none⟩ = some (.int .i64 e) := cell_at hg 0
  have hc1 : w.cell? ⟨g, 1, none⟩ = some (.slice ao l.length cap) := cell_at hg 1
  have hf1 := free_at hg 1
  by_cases he : e = 0
  · subst he
    by_cases hl : l.length < s
    · go_enter Try.func48, Try.ntmps48
      go_wp2_with fail
      refine (fail_any g 0 3 l _ hR).mono ?_
      rintro en w1 ⟨rfl, hR1, hk1⟩
      go_wp2
      go_ret
      simp only [numF, hl]
      exact ⟨rfl, hR1, hk1⟩
    · obtain ⟨b, o, rfl, hcell0⟩ := Sl.at hb (i := 0) (u := bv (l[0]'(by omega))) (by rw [List.getElem?_map, List.getElem?_eq_getElem (by omega)]; rfl)
      have hcell : ∀ k (hk : k < l.length), w.cell? ⟨b, o + k, none⟩ = some (.int .u8 (l[k].toNat : Int)) := fun k hk => by
        obtain ⟨b', o', hbo, hc⟩ := Sl.at hb (i := k) (u := bv l[k]) (by simp [hk])
        simp only [Option.some.injEq, Addr.mk.injEq, and_true] at hbo
        obtain ⟨rfl, rfl⟩ := hbo
        exact hc
      have HC := Lib.hid hcell; clear hcell hcell0
      have HG := Lib.hid hg; clear hg
      have HB := Lib.hid hb; clear hb hR
      obtain ⟨n, hn⟩ : ∃ n, n = l.length := ⟨_, rfl⟩
      rw [← hn] at hl hlc hc1
      have HN := Lib.hid hn; clear hn
      go_enter Try.func48, Try.ntmps48
      go_wp2_with fail
      go_loop [5, 7, 30] (fun x _ i => ∃ k : Nat, k ≤ s ∧ i = .int .i64 k ∧ x = .int .u64 (valB (l.take k))) (fun _ _ i => s - (intOf i).toNat)
      case atStart => exact ⟨0, Nat.zero_le _, rfl, rfl⟩
      case round =>
        obtain ⟨k, hk, rfl, rfl⟩ := hrel
        by_cases hlt : k < s
        · have hkl : k < l.length := by rw [← HN.out]; omega
          have hck := HC.out k hkl
          have hv := valB_bd (l.take k)
          have hsn : valB (l.take (k + 1)) = valB (l.take k) * 256 + l[k].toNat := by rw [List.take_succ_eq_append_getElem hkl, valB_snoc]
          have hcb := l[k].toNat_lt
          generalize l[k].toNat = c at hck hsn hcb
          have HSN := Lib.hid hsn; clear hsn
          have hlim : valB (l.take k) < 72057594037927936 := by
            have h7 : (l.take k).length ≤ 7 := by have := List.length_take_le k l; omega
            exact Int.lt_of_lt_of_le hv.2 (pow256_7 _ h7)
          obtain ⟨hv0, -⟩ := hv
          generalize valB (l.take k) = x at hv0 hlim HSN
          go_wp2
          go_round
          case rel => exact ⟨k + 1, by omega, by go_num, by rw [HSN.out, or_byte x c hv0 hlim (by omega) (by omega)]⟩
          case measure => simp [intOf]; omega
        · obtain rfl : k = s := by omega
          have hsl : l.length - k = (l.drop k).length := by simp
          have hfin : ∀ ao', (¬ cap = k → ao' = some ⟨b, o + k, none⟩) → ao' ≠ none → Bs w (.slice ao' (n - k) (cap - k)) (l.drop k) := fun ao' ha hnn => by
            refine ⟨ao', cap - k, by simp [HN.out], by simp [HN.out] at hlc ⊢; omega, by unfold maxLen; omega, (fun h => absurd h hnn), ?_⟩
            by_cases hck : cap = k
            · left
              have : l.length = k := by rw [← HN.out]; omega
              simp [this]
            · right
              refine ⟨b, o + k, ha hck, fun i u hu => ?_⟩
              rw [List.getElem?_map, List.getElem?_drop] at hu
              by_cases hi : k + i < l.length
              · simp only [List.getElem?_eq_getElem hi, Option.map_some, Option.some.injEq] at hu
                subst hu
                rw [Nat.add_assoc]
                exact HC.out (k + i) hi
              · simp [List.getElem?_eq_none (Nat.le_of_not_lt hi)] at hu
          have HF := Lib.hid hfin; clear hfin
          have HE : Hid (numF k 0 l = (valB (l.take k), 0, l.drop k)) := by
            show numF k 0 l = _
            unfold numF
            rw [if_neg (by decide), if_neg (by rw [← HN.out]; omega)]
          generalize valB (l.take k) = x at HE
          by_cases hck : cap = k
          · go_wp2
            go_ret
            rw [HE.out]
            refine ⟨rfl, ⟨_, heap_setCell_same w g 1 _ 51 _ HG.out, ?_⟩, Keep.setCell g 1 w _⟩
            have h := HF.out (some ⟨b, o, none⟩) (fun h => absurd hck h) (by simp)
            rw [show cap - k = 0 by omega] at h
            exact h.keep (Keep.setCell g 1 w _) (Rd.noByte ⟨_, HG.out, HB.out⟩)
          · go_wp2
            go_ret
            rw [HE.out]
            refine ⟨rfl, ⟨_, heap_setCell_same w g 1 _ 51 _ HG.out, ?_⟩, Keep.setCell g 1 w _⟩
            exact (HF.out (some ⟨b, o + k, none⟩) (fun h => rfl) (by simp)).keep (Keep.setCell g 1 w _) (Rd.noByte ⟨_, HG.out, HB.out⟩)
  · have hne : (e != 0) = true := by simpa using he
    go_enter Try.func48, Try.ntmps48
    go_wp2
    go_ret
    simp only [numF, if_pos he]
    exact ⟨rfl, hR, Keep.refl _ _⟩

theorem numF_bd (s : Nat) (e : Int) (l : List UInt8) : 0 ≤ (numF s e l).1 ∧ (numF s e l).1 < 256 ^ s := by
  have hp : (0 : Int) < 256 ^ s := Int.pow_pos (by decide)
  unfold numF
  split
  · exact ⟨Int.le_refl _, hp⟩
  · split
    · exact ⟨Int.le_refl _, hp⟩
    · have := valB_bd (l.take s)
      rw [List.length_take, Nat.min_eq_left (by omega)] at this
      exact this

theorem rdU64_any (g : Nat) (e : Int) (l : List UInt8) (w : World) (h : Rd w g e l) :
    Calls Try.prog 22 #[.pointer (some ⟨g, 0, none⟩)] w fun en w' => en = .returned (.int .u64 (numF 8 e l).1) ∧ Rd w' g (numF 8 e l).2.1 (numF 8 e l).2.2 ∧ Keep g w w' := by
  go_enter Try.func22, Try.ntmps22
  go_wp2_with fail
  refine (number_any g e 8 l _ h (by decide) (by decide)).mono ?_
  rintro en w1 ⟨rfl, hR1, hk1⟩
  go_wp2
  go_ret
  exact ⟨rfl, hR1, hk1⟩

theorem rdU32_any (g : Nat) (e : Int) (l : List UInt8) (w : World) (h : Rd w g e l) :
    Calls Try.prog 29 #[.pointer (some ⟨g, 0, none⟩)] w fun en w' => en = .returned (.int .u32 (numF 4 e l).1) ∧ Rd w' g (numF 4 e l).2.1 (numF 4 e l).2.2 ∧ Keep g w w' := by
  have hb := numF_bd 4 e l
  have hb0 := hb.1
  have hb1 : (numF 4 e l).1 < 4294967296 := hb.2
  clear hb
  go_enter Try.func29, Try.ntmps29
  go_wp2_with fail
  refine (number_any g e 4 l _ h (by decide) (by decide)).mono ?_
  rintro en w1 ⟨rfl, hR1, hk1⟩
  go_wp2
  go_ret
  exact ⟨rfl, hR1, hk1⟩

theorem rdLeft_any (g : Nat) (e : Int) (l : List UInt8) (w : World) (h : Rd w g e l) :
    Calls Try.prog 24 #[.pointer (some ⟨g, 0, none⟩)] w fun en w' => en = .returned (.int .i64 (l.length : Int)) ∧ w = w' := by
  obtain ⟨sv, hg, hb⟩ := h
  obtain ⟨ao, cap, rfl, -, -, -, -⟩ := hb
  have hc1 : w.cell? ⟨g, 1, none⟩ = some (.slice ao l.length cap) := cell_at hg 1
  clear hg
  go_enter Try.func24, Try.ntmps24
  go_wp2
  go_ret
  exact ⟨rfl, rfl⟩

theorem rdErrno_any (g : Nat) (e : Int) (l : List UInt8) (w : World) (h : Rd w g e l) :
    Calls Try.prog 26 #[.pointer (some ⟨g, 0, none⟩)] w fun en w' => en = .returned (.int .i64 e) ∧ w = w' := by
  obtain ⟨sv, hg, hb⟩ := h
  have hc0 : w.cell? ⟨g, 0, none⟩ = some (.int .i64 e) := cell_at hg 0
  clear hg hb
  go_enter Try.func26, Try.ntmps26
  go_wp2
  go_ret
  exact ⟨rfl, rfl⟩

/-- The first error, or that bytes are left. -/
def endF (e : Int) (l : List UInt8) : Int := if e = 0 ∧ l ≠ [] then 2 else e
theorem rdEnd_any (g : Nat) (e : Int) (l : List UInt8) (w : World) (h : Rd w g e l) :
    Calls Try.prog 34 #[.pointer (some ⟨g, 0, none⟩)] w fun en w' => en = .returned (.int .i64 (endF e l)) ∧ w = w' := by
  obtain ⟨sv, hg, hb⟩ := h
  obtain ⟨ao, cap, rfl, -, -, -, -⟩ := hb
  have hc0 : w.cell? ⟨g, 0, none⟩ = some (.int .i64 e) := cell_at hg 0
  have hc1 : w.cell? ⟨g, 1, none⟩ = some (.slice ao l.length cap) := cell_at hg 1
  clear hg
  by_cases he : e = 0
  · subst he
    by_cases hl : l.length = 0
    · have hl0 : l = [] := List.eq_nil_of_length_eq_zero hl
      subst hl0
      go_enter Try.func34, Try.ntmps34
      go_wp2
      go_ret
      exact ⟨rfl, rfl⟩
    · have HE : Hid (endF 0 l = 2) := by
        show endF 0 l = 2
        unfold endF
        rw [if_pos ⟨rfl, fun h => hl (by simp [h])⟩]
      have hl1 : 0 < l.length := by omega
      clear hl
      go_enter Try.func34, Try.ntmps34
      go_wp2
      go_ret
      exact ⟨by rw [HE.out]; rfl, rfl⟩
  · have HE : Hid (endF e l = e) := by
      show endF e l = e
      unfold endF
      rw [if_neg (fun h => he h.1)]
    have hne : (e == 0) = false := by simpa using he
    go_enter Try.func34, Try.ntmps34
    go_wp2
    go_ret
    exact ⟨by rw [HE.out]; rfl, rfl⟩

/-- The next yes or no. -/
def boolF (e : Int) (l : List UInt8) : Bool × Int × List UInt8 :=
  let n := numF 4 e l
  if 1 < n.1 then (false, 2, []) else (n.1 == 1, n.2.1, n.2.2)
theorem rdBool_any (g : Nat) (e : Int) (l : List UInt8) (w : World) (h : Rd w g e l) :
    Calls Try.prog 31 #[.pointer (some ⟨g, 0, none⟩)] w fun en w' => en = .returned (.bool (boolF e l).1) ∧ Rd w' g (boolF e l).2.1 (boolF e l).2.2 ∧ Keep g w w' := by
  have hbf : boolF e l = if 1 < (numF 4 e l).1 then (false, 2, []) else ((numF 4 e l).1 == 1, (numF 4 e l).2.1, (numF 4 e l).2.2) := rfl
  have hu := rdU32_any g e l w h
  generalize numF 4 e l = x at hbf hu
  obtain ⟨n, e1, l1⟩ := x
  simp only at hbf hu
  have HB := Lib.hid hbf; clear hbf
  by_cases hn : 1 < n
  · go_enter Try.func31, Try.ntmps31
    go_wp2_with fail
    refine hu.mono ?_
    rintro en w1 ⟨rfl, hR1, hk1⟩
    go_wp2_with fail
    refine (fail_any g _ 2 _ _ hR1).mono ?_
    rintro en w2 ⟨rfl, hR2, hk2⟩
    go_wp2
    go_ret
    rw [HB.out, if_pos hn]
    exact ⟨rfl, hR2, hk1.trans hk2⟩
  · go_enter Try.func31, Try.ntmps31
    go_wp2_with fail
    refine hu.mono ?_
    rintro en w1 ⟨rfl, hR1, hk1⟩
    go_wp2
    go_ret
    rw [HB.out, if_neg (by omega)]
    exact ⟨rfl, hR1, hk1⟩

/-- The call hands back a slice that reads as the bytes l: nil, or of new memory. -/
theorem clone_any (v : Value) (l : List UInt8) (w : World) (hv : Bs w v l) (hl : l.length ≤ 1073741824) :
    Calls Try.prog 47 #[v] w fun en w' => ∃ v', en = .returned v' ∧ Bs w' v' l ∧ Below w.heap.size w w' ∧ ∀ k, v'.ownBlock = some k → w.heap.size ≤ k ∧ k < w'.heap.size := by
  have hv0 := hv
  have q24 : ∀ (w : World) (a : Option Addr) (n c : Nat), (binOp .eql 24 (.slice a n c) (.slice none 0 0)).run Try.prog w = .ok (.bool a.isNone) w := fun w a n c => Lib.run_eql_slice_nil w 24 5 a n c 0 0 Try.underlying24
  obtain ⟨ao, cap, rfl, hlc, hcm, hnone, -⟩ := hv0
  cases ao with
  | none =>
    have h0 : cap = 0 := hnone rfl
    subst h0
    obtain rfl : l = [] := List.eq_nil_of_length_eq_zero (by omega)
    clear hnone
    go_enter Try.func47, Try.ntmps47
    go_wp2
    go_ret
    exact ⟨_, rfl, Bs.nil _, Below.refl _ _, fun k hk => by cases hk⟩
  | some ad =>
    clear hnone
    go_enter Try.func47, Try.ntmps47
    go_wp2_with (at_builtin; refine wpList_append_sl rfl (.tmp 5) (.tmp 6) 24 rfl w.heap.size 5 (.int .u8 0) 1 1 Try.underlying24 Try.info5 rfl (by decide) _ _ _ rfl (own_lit w [] 5 w.heap.size (Nat.le_refl _) (by decide)) _ _ _ rfl (hv.below ((Below.refl _ _).alloc (Nat.le_refl _) _)) (by simp) (bv_one _) ?b1 ?b2 ?b3 ?_)
    case b1 => simp; omega
    case b2 => simp
    case b3 => simp [maxLen]; omega
    intro v2 w2 hown2 hg2
    go_wp2
    go_ret
    refine ⟨v2, rfl, ?_, ((Below.refl _ _).alloc (Nat.le_refl _) _).grown hg2 (by simp) (fun k hk => by simp [Value.ownBlock] at hk; omega), fun k hk => hown2.lt k hk⟩
    have h := Sl.of_own hown2
    simpa [Bs] using h

theorem read_any (v : Value) (l : List UInt8) (w : World) (hv : Bs w v l) (hl : l.length ≤ 1073741824) :
    Calls Try.prog 21 #[v] w fun en w' => ∃ g sv, en = .returned (.pointer (some ⟨g, 0, none⟩)) ∧ w.heap.size ≤ g ∧ w'.heap[g]? = some (.cells #[.int .i64 0, sv] 51 (0, 0)) ∧ Bs w' sv l ∧ Below w.heap.size w w' ∧ ∀ k, sv.ownBlock = some k → w.heap.size ≤ k ∧ k ≠ g := by
  go_enter Try.func21, Try.ntmps21
  go_wp2_with fail
  refine (clone_any v l _ hv hl).mono ?_
  rintro en w1 ⟨v1, rfl, hb1, hbel, hown⟩
  have hs := hb1
  obtain ⟨ao, cap, rfl, -, -, -, hc⟩ := hs
  have HO := Lib.hid hown; clear hown
  have HC := Lib.hid hc; clear hc
  go_wp2
  go_ret
  refine ⟨w1.heap.size, _, rfl, hbel.size, heap_alloc_new w1 _, hb1.below ((Below.refl _ _).alloc (Nat.le_refl _) _), hbel.alloc hbel.size _, fun k hk => ⟨(HO.out k hk).1, by have := (HO.out k hk).2; omega⟩⟩
end Go.Proofs.Ytolcjgogalenhaa
