/-
  'truchmanlaw01.XdrPuts' returns true at every input, and leaves all that was there as it was.
-/
import Derived.Test.YtolcjgogalenhaaXa
import Derived.Test.YtolcjgogalenhaaSched
namespace Go.Proofs.Ytolcjgogalenhaa
open Go.RowKit

/-- A slice of bytes becomes this string, in this world. -/
abbrev Cv (w : World) (v : Value) (l : List UInt8) : Prop := (convert 24 9 v).run Try.prog w = .ok (.string ⟨l.toArray⟩) w
theorem Bs.cv {w : World} {v : Value} {l : List UInt8} (h : Bs w v l) : Cv w v l := h.convert Try.underlying24 Try.underlying5 Try.underlying9

set_option maxHeartbeats 4000000 in
theorem xdrPuts_walk (v0 : Value) (n m : Int) (v3 : Value) (b : Bool) (l0 l3 : List UInt8) (w : World) (h0 : Bs w v0 l0) (hn : (Lit.int .u32 n).wf = true) (hm : (Lit.int .u64 m).wf = true) (h3 : Bs w v3 l3) :
    Calls Try.prog 4 #[v0, .int .u32 n, .int .u64 m, v3, .bool b] w fun e w' => e = .returned (.bool true) ∧ Below w.heap.size w w' := by
  have hn0 : 0 ≤ n ∧ n ≤ 4294967295 := by have := bounds_u32 hn; omega
  have hm0 : 0 ≤ m ∧ m < 18446744073709551616 := by have := bounds_u64 hm; omega
  obtain ⟨hn0, hn1⟩ := hn0
  obtain ⟨hm0, hm1⟩ := hm0
  clear hn hm
  go_enter Try.func4, Try.ntmps4
  go_wp2_with fail
  refine (few_any v0 l0 8 _ h0 (by decide)).mono ?_
  rintro e w1 ⟨x1, rfl, hown1, hb1⟩
  go_wp2_with fail
  refine (few_any v3 l3 40 _ (h3.below hb1) (by decide)).mono ?_
  rintro e w2 ⟨x2, rfl, hown2, hb2⟩
  have hh : (l0.take 8).length ≤ 8 := List.length_take_le _ _
  have ht : (l3.take 40).length ≤ 40 := List.length_take_le _ _
  have B1 := (Bs.of_own hown1).below hb2
  have B2 := Bs.of_own hown2
  have hb12 := Below.thenB hb1 hb2
  clear hown1 hown2 hb1 hb2 h0 h3
  generalize l0.take 8 = L at B1 hh
  generalize l3.take 40 = T at B2 ht
  have C1 := Lib.hid B1.cv
  go_wp2_with (refine wpList_bytes_string rfl (.tmp 22) 24 9 5 rfl Try.underlying24 Try.underlying5 Try.underlying9 x1 L rfl B1 ?_)
  refine (u32_any x1 L n _ B1 (by omega) hn0 hn1).mono ?_
  rintro e w3 ⟨y1, rfl, hown3, hb3⟩
  go_wp2_with fail
  refine (u64_any x1 L m _ (B1.below hb3) (by omega) hm0 hm1).mono ?_
  rintro e w4 ⟨y2, rfl, hown4, hb4⟩
  go_wp2_with fail
  refine (text_any x1 x2 L T _ ((B1.below hb3).below hb4) ((B2.below hb3).below hb4) (by omega) (by omega)).mono ?_
  rintro e w5 ⟨y3, rfl, hown5, hb5⟩
  go_wp2_with fail
  refine (bool_any x1 L b _ (((B1.below hb3).below hb4).below hb5) (by omega)).mono ?_
  rintro e w6 ⟨y4, rfl, hown6, hb6⟩
  have D1 := ((B1.below hb3).below hb4).below hb5 |>.below hb6
  have D2 := ((B2.below hb3).below hb4).below hb5 |>.below hb6
  have E1 := (((Bs.of_own hown3).below hb4).below hb5).below hb6
  have E2 := ((Bs.of_own hown4).below hb5).below hb6
  have E3 := (Bs.of_own hown5).below hb6
  have E4 := Bs.of_own hown6
  have hb36 := Below.thenB hb12 (Below.thenB (Below.thenB (Below.thenB hb3 hb4) hb5) hb6)
  clear hown3 hown4 hown5 hown6 hb3 hb4 hb5 hb6 hb12 B1 B2 C1
  obtain ⟨W0, hW0⟩ : ∃ W0, W0 = w6.drew := ⟨_, rfl⟩
  have h60 : Below w6.heap.size w6 W0 := by rw [hW0]; exact (Below.refl w6.heap.size w6).drew
  have F1 := fun W' (h : Below W0.heap.size W0 W') => ((E1.below h60).below h).cv
  have F2 := fun W' (h : Below W0.heap.size W0 W') => ((E2.below h60).below h).cv
  have F3 := fun W' (h : Below W0.heap.size W0 W') => ((E3.below h60).below h).cv
  have F4 := fun W' (h : Below W0.heap.size W0 W') => ((E4.below h60).below h).cv
  have F5 := fun W' (h : Below W0.heap.size W0 W') => ((D1.below h60).below h).cv
  have D2' := D2.below h60
  have HB := Lib.hid (Below.thenB hb36 h60); clear hb36 h60 D1 D2 E1 E2 E3 E4
  unfold Cv at F1 F2 F3 F4 F5
  have g2 : (be64 m).length ≤ 8 := by simp [be64, be32_length]
  have g3 : (textB T).length ≤ 47 := by rw [textB_length]; unfold padN; omega
  have c1 : ¬ 9223372036854775807 < L.length + (be32 n).length := by rw [be32_length]; omega
  have c2 : ¬ 9223372036854775807 < L.length + (be64 m).length := by omega
  have c3 : ¬ 9223372036854775807 < L.length + (textB T).length := by omega
  have c4 : ¬ 9223372036854775807 < L.length + (be32 (if b = true then 1 else 0)).length := by rw [be32_length]; omega
  go_wp2_with fail
  refine Sched.wp_region_sched (fun a b => Below a.heap.size a b) ((0, true) :: (1, true) :: (2, true) :: (3, true) :: (4, false) :: (5, true) :: (6, true) :: (7, true) :: (8, true) :: (9, true) :: (10, true) :: (11, true) :: (12, true) :: (13, false) :: (14, true) :: (15, true) :: (16, true) :: (17, true) :: (18, true) :: (19, true) :: (20, true) :: (21, true) :: (22, true) :: (23, false) :: (24, true) :: (25, true) :: (26, true) :: (27, true) :: (28, true) :: (29, true) :: (30, true) :: (31, true) :: (32, true) :: (33, false) :: (34, true) :: (35, true) :: (36, true) :: (37, true) :: (38, true) :: (39, true) :: (40, true) :: (41, true) :: (42, true) :: (43, true) :: (44, true) :: (45, false) :: (46, true) :: (47, true) :: []) (by kernel_rfl) (fun _ => Below.refl _ _) (fun _ _ _ => Below.thenB) (by kernel_rfl) (by kernel_rfl) (by kernel_rfl) (fun _ _ _ _ _ h => h) ?_
  rw [← hW0]
  clear hW0
  repeat (refine Sched.wpSched_take (by simp only [List.getElem?_toArray, List.getElem?_cons_succ, List.getElem?_cons_zero]; rfl) (by rfl) _ (fun wx hC => by (try dsimp only at hC); go_simp; (try simp only [str_app]); (try rfl)) ?_; simp only [Act.put, List.setIfInBounds_toArray, List.set_cons_zero, List.set_cons_succ])
  refine Sched.wpSched_run (by simp only [List.getElem?_toArray, List.getElem?_cons_succ, List.getElem?_cons_zero]; rfl) (by rfl) (fun K hK => ?_)
  go_simp
  refine (ru32_any n _ hn0 hn1).mono ?_
  rintro e W1 ⟨z1, rfl, hown, hb⟩
  have FZ := fun W' (h : Below W1.heap.size W1 W') => ((Bs.of_own hown).below h).cv
  unfold Cv at FZ
  have HB1 := Lib.hid hb
  refine hK _ _ hb ?_
  clear hK hown hb
  repeat (refine Sched.wpSched_take (by simp only [List.getElem?_toArray, List.getElem?_cons_succ, List.getElem?_cons_zero]; rfl) (by rfl) _ (fun wx hC => by (try dsimp only at hC); go_simp; (try simp only [str_app]); (try rfl)) ?_; simp only [Act.put, List.setIfInBounds_toArray, List.set_cons_zero, List.set_cons_succ])
  refine Sched.wpSched_run (by simp only [List.getElem?_toArray, List.getElem?_cons_succ, List.getElem?_cons_zero]; rfl) (by rfl) (fun K hK => ?_)
  go_simp
  refine (ru64_any m _ hm0 hm1).mono ?_
  rintro e W2 ⟨z2, rfl, hown, hb⟩
  have FZ2 := fun W' (h : Below W2.heap.size W2 W') => ((Bs.of_own hown).below h).cv
  unfold Cv at FZ2
  have HB2 := Lib.hid hb
  refine hK _ _ hb ?_
  clear hK hown hb
  repeat (refine Sched.wpSched_take (by simp only [List.getElem?_toArray, List.getElem?_cons_succ, List.getElem?_cons_zero]; rfl) (by rfl) _ (fun wx hC => by (try dsimp only at hC); go_simp; (try simp only [str_app]); (try rfl)) ?_; simp only [Act.put, List.setIfInBounds_toArray, List.set_cons_zero, List.set_cons_succ])
  refine Sched.wpSched_run (by simp only [List.getElem?_toArray, List.getElem?_cons_succ, List.getElem?_cons_zero]; rfl) (by rfl) (fun K hK => ?_)
  go_simp
  refine (rtext_any x2 T _ ((D2'.below HB1.out).below HB2.out) (by omega)).mono ?_
  rintro e W3 ⟨z3, rfl, hown, hb⟩
  have FZ3 := fun W' (h : Below W3.heap.size W3 W') => ((Bs.of_own hown).below h).cv
  unfold Cv at FZ3
  have HB3 := Lib.hid hb
  refine hK _ _ hb ?_
  clear hK hown hb
  repeat (refine Sched.wpSched_take (by simp only [List.getElem?_toArray, List.getElem?_cons_succ, List.getElem?_cons_zero]; rfl) (by rfl) _ (fun wx hC => by (try dsimp only at hC); go_simp; (try simp only [str_app]); (try rfl)) ?_; simp only [Act.put, List.setIfInBounds_toArray, List.set_cons_zero, List.set_cons_succ])
  refine Sched.wpSched_run (by simp only [List.getElem?_toArray, List.getElem?_cons_succ, List.getElem?_cons_zero]; rfl) (by rfl) (fun K hK => ?_)
  go_simp
  refine (rbool_any b _).mono ?_
  rintro e W4 ⟨z4, rfl, hown, hb⟩
  have FZ4 := fun W' (h : Below W4.heap.size W4 W') => ((Bs.of_own hown).below h).cv
  unfold Cv at FZ4
  have HB4 := Lib.hid hb
  refine hK _ _ hb ?_
  clear hK hown hb
  repeat (refine Sched.wpSched_take (by simp only [List.getElem?_toArray, List.getElem?_cons_succ, List.getElem?_cons_zero]; rfl) (by rfl) _ (fun wx hC => by (try dsimp only at hC); go_simp; (try simp only [str_app]); (try rfl)) ?_; simp only [Act.put, List.setIfInBounds_toArray, List.set_cons_zero, List.set_cons_succ])
  refine Sched.wpSched_run (by simp only [List.getElem?_toArray, List.getElem?_cons_succ, List.getElem?_cons_zero]; rfl) (by rfl) (fun K hK => ?_)
  go_simp
  refine (lives_any _).mono ?_
  rintro e W5 ⟨rfl, hb⟩
  have HB5 := Lib.hid hb
  refine hK _ _ hb ?_
  clear hK hb
  repeat (refine Sched.wpSched_take (by simp only [List.getElem?_toArray, List.getElem?_cons_succ, List.getElem?_cons_zero]; rfl) (by rfl) _ (fun wx hC => by (try dsimp only at hC); go_simp; (try simp only [str_app]); (try rfl)) ?_; simp only [Act.put, List.setIfInBounds_toArray, List.set_cons_zero, List.set_cons_succ])
  refine Sched.wpSched_nil ?_
  go_wp2
  all_goals
    go_ret
    exact ⟨rfl, Below.thenB (Below.thenB (Below.thenB (Below.thenB (Below.thenB HB.out HB1.out) HB2.out) HB3.out) HB4.out) HB5.out⟩
end Go.Proofs.Ytolcjgogalenhaa
