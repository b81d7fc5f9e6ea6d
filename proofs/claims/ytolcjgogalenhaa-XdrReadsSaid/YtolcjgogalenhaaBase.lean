/-
  Plain facts on slices in memory: what a slice value reads as ('Sl'), that it goes on reading so while old memory stands, and one law for append onto a slice of the call's own from any source.
-/
import Derived.Test.YtolcjgogalenhaaRows
import Derived.WalkKit
import Derived.WalkSpells
import Derived.WalkLawsBesides
import Derived.Laws.AppendOwnNone
import Derived.Lib.Hide
import Derived.Lib.SlBytesConst
import Derived.OpenShut
namespace Go.Proofs.Ytolcjgogalenhaa
open Go.RowKit

/-- A byte as a cell. -/
def bv (b : UInt8) : Value := .int .u8 (b.toNat : Int)

/-- The slice value v, of n elements, reads as the cells cs. -/
def Sl (w : World) (v : Value) (n : Nat) (cs : List Value) : Prop :=
  ∃ ao cap, v = .slice ao n cap ∧ n ≤ cap ∧ cap ≤ maxLen ∧ (ao = none → cap = 0) ∧
    (cs = [] ∨ ∃ b o, ao = some ⟨b, o, none⟩ ∧ ∀ i u, cs[i]? = some u → w.cell? ⟨b, o + i, none⟩ = some u)

theorem add_eq (b o i : Nat) : (⟨b, o, none⟩ : Addr).add i = ⟨b, o + i, none⟩ := Addr.add_lit b o i

theorem Sl.below {w w' : World} {v : Value} {n : Nat} {cs : List Value} (h : Sl w v n cs) (hb : Below w.heap.size w w') : Sl w' v n cs := by
  obtain ⟨ao, cap, hv, h1, h2, h3, h4⟩ := h
  refine ⟨ao, cap, hv, h1, h2, h3, ?_⟩
  rcases h4 with h4 | ⟨b, o, ha, hc⟩
  · exact .inl h4
  · refine .inr ⟨b, o, ha, fun i u hu => ?_⟩
    have := hc i u hu
    rw [hb.cell (World.block_lt_of_cell? w _ this)]
    exact this

theorem Sl.of_own {w : World} {B e : Nat} {size : Nat} {v : Value} {n : Nat} {cs : List Value} (h : w.ownsRow B e size v n cs) : Sl w v n cs := by
  obtain ⟨hl, h2⟩ := h
  rcases h2 with ⟨rfl, rfl⟩ | ⟨g, cap, cur, rfl, hb, hg, hn, hm, hs, ht⟩
  · have : cs = [] := List.eq_nil_of_length_eq_zero (by simpa using hl)
    subst this
    exact ⟨none, 0, rfl, Nat.le_refl _, Nat.zero_le _, fun _ => rfl, .inl rfl⟩
  · have ho : w.ownsRow B e size (.slice (some ⟨g, 0, none⟩) n cap) n cs := ⟨hl, .inr ⟨g, cap, cur, rfl, hb, hg, hn, hm, hs, ht⟩⟩
    refine ⟨_, cap, rfl, hn, hm, (by intro h; cases h), .inr ⟨g, 0, rfl, fun i u hu => ?_⟩⟩
    have := ho.cells (g := g) rfl i u hu
    rw [add_eq] at this
    exact this

/-- append onto a slice of the call's own, from any source that reads as cells. -/
theorem wpList_append_sl {P : Program} {w : World} {ops : Array Oper} {rest : List Oper} {o : Oper} {a : Act} {Q : Exit → Act → World → Prop} (hgd : o.guard = none) (s x : Operand) (t : TypeId)
    (ho : o.op = .call { callee := .builtin .append, args := #[s, x], argTypes := #[t, t] })
    (base : Nat) (e : TypeId) (z : Value) (size bytes : Nat) (ht : P.underlying t = some (.slice e)) (hi : (P.info? e).map (fun i => (i.zero, i.size, i.bytes)) = some (some z, size, bytes))
    (hzs : z.cells.size = size) (hsz : 0 < size)
    (v : Value) (n : Nat) (xs : List Value) (hs : a.eval s = v) (hown : w.ownsRow base e size v n xs)
    (u : Value) (m : Nat) (news : List Value) (hx : a.eval x = u) (hu : Sl w u m news) (hl : news.length = m * size) (h1 : ∀ u ∈ news, u.oneCell' = true)
    (hbytes : (n + m) * bytes ≤ 140737488355328) (hbase : base ≤ w.heap.size) (h63 : n + m ≤ maxLen)
    (h : ∀ v' w', w'.ownsRow base e size v' (n + m) (xs ++ news) → w.grownBy w' v.ownBlock → wpList P ops Q rest (a.put o.dst v') w') : wpList P ops Q (o :: rest) a w := by
  obtain ⟨i, hi1, hz, hs1, hb1⟩ := info_parts hi
  obtain ⟨ao, cap, rfl, hmc, hcm, hnone, hcells⟩ := hu
  cases ao with
  | some ad =>
    refine wpList_append_own w hgd s x t ho base e i z size bytes ht hi1 hz hs1 hb1 hzs hsz v n xs hs hown ad m cap news hx hl ?_ h1 h63 hbytes hbase (fun v' w' h2 h3 _ => h v' w' h2 h3)
    intro j c hj
    rcases hcells with rfl | ⟨b, o', had, hc⟩
    · simp at hj
    · obtain rfl := Option.some.inj had
      rw [add_eq]; exact hc j c hj
  | none =>
    have hcap := hnone rfl
    subst hcap
    obtain rfl : m = 0 := by omega
    obtain rfl : news = [] := List.eq_nil_of_length_eq_zero (by simpa using hl)
    exact wpList_append_own_none hgd s x t ho base e i size ht hi1 v n xs hs hown hx (by simpa using h v w (by simpa using hown) (World.grownBy.refl _ _))

/-- append onto a slice without spare room (its capacity cut to its length): a new row of the call's own. -/
theorem wpList_append_full {P : Program} {w : World} {ops : Array Oper} {rest : List Oper} {o : Oper} {a : Act} {Q : Exit → Act → World → Prop} (hgd : o.guard = none) (s x : Operand) (t : TypeId)
    (ho : o.op = .call { callee := .builtin .append, args := #[s, x], argTypes := #[t, t] })
    (e : TypeId) (z : Value) (size bytes : Nat) (ht : P.underlying t = some (.slice e)) (hi : (P.info? e).map (fun i => (i.zero, i.size, i.bytes)) = some (some z, size, bytes))
    (hzs : z.cells.size = size) (hsz : 0 < size)
    (ao : Option Addr) (n : Nat) (xs : List Value) (hs : a.eval s = .slice ao n n) (hv : Sl w (.slice ao n n) n xs) (hxl : xs.length = n * size)
    (ad : Addr) (m c : Nat) (news : List Value) (hx : a.eval x = .slice (some ad) m c) (hl : news.length = m * size) (hc : ∀ j u, news[j]? = some u → w.cell? (ad.add j) = some u) (h1 : ∀ u ∈ news, u.oneCell' = true) (hm : 0 < m)
    (hbytes : (n + m) * bytes ≤ 140737488355328) (h63 : n + m ≤ maxLen)
    (h : ∀ v' w', w'.ownsRow w.heap.size e size v' (n + m) (xs ++ news) → w.grownBy w' none → wpList P ops Q rest (a.put o.dst v') w') : wpList P ops Q (o :: rest) a w := by
  obtain ⟨i, hi1, hz, hs1, hb1⟩ := info_parts hi
  obtain ⟨ao', cap', hv', hmc, hcm, hnone, hcells⟩ := hv
  simp only [Value.slice.injEq, true_and] at hv'
  obtain ⟨rfl, rfl⟩ := hv'
  refine wpList_append_grows w hgd s x t ho e i z size bytes ht hi1 hz hs1 hb1 hzs hsz ao n n xs hs (fun h => ⟨hnone h, hnone h⟩) hxl ?_ ad m c news hx hl hc h1 (by omega) h63 hbytes h
  intro b hb j u hu
  rcases hcells with rfl | ⟨b', o', had, hc⟩
  · simp at hu
  · rw [had] at hb
    obtain rfl := Option.some.inj hb
    rw [add_eq]; exact hc j u hu

/-! ### Bytes -/
theorem bv_inj {a b : UInt8} (h : bv a = bv b) : a = b := by
  simp only [bv, Value.int.injEq, true_and, Int.natCast_inj] at h
  exact UInt8.toNat_inj.1 h
theorem bv_one (l : List UInt8) : ∀ u ∈ l.map bv, u.oneCell' = true := by
  intro u hu
  obtain ⟨_, _, rfl⟩ := List.mem_map.1 hu
  rfl
/-- A number's four bytes, the greatest first. -/
def be32 (n : Int) : List UInt8 := [UInt8.ofNat (n / 16777216).toNat, UInt8.ofNat (n / 65536 % 256).toNat, UInt8.ofNat (n / 256 % 256).toNat, UInt8.ofNat (n % 256).toNat]
theorem bv_ofInt (k : Int) (h0 : 0 ≤ k) (h1 : k < 256) : bv (UInt8.ofNat k.toNat) = .int .u8 k := by
  simp only [bv, Value.int.injEq, true_and, UInt8.toNat_ofNat']
  omega
theorem be32_cells (n : Int) (h0 : 0 ≤ n) (h1 : n ≤ 4294967295) : (be32 n).map bv = [.int .u8 (n / 16777216), .int .u8 (n / 65536 % 256), .int .u8 (n / 256 % 256), .int .u8 (n % 256)] := by
  simp only [be32, List.map_cons, List.map_nil]
  rw [bv_ofInt _ (by omega) (by omega), bv_ofInt _ (by omega) (by omega), bv_ofInt _ (by omega) (by omega), bv_ofInt _ (by omega) (by omega)]
theorem be32_length (n : Int) : (be32 n).length = 4 := rfl

theorem Try.info5 : (Try.prog.info? 5).map (fun i => (i.zero, i.size, i.bytes)) = some (some (.int .u8 0), 1, 1) := by kernel_rfl

/-- The call hands back a slice of new memory that reads as the bytes l, and nothing that was there has turned. -/
def Fresh (w : World) (l : List UInt8) (e : Ending) (w' : World) : Prop :=
  ∃ v, e = .returned v ∧ w'.ownsRow w.heap.size 5 1 v l.length (l.map bv) ∧ Below w.heap.size w w'
/-- The bytes of a slice value. -/
def Bs (w : World) (v : Value) (l : List UInt8) : Prop := Sl w v l.length (l.map bv)
theorem Bs.below {w w' : World} {v : Value} {l : List UInt8} (h : Bs w v l) (hb : Below w.heap.size w w') : Bs w' v l := Sl.below h hb
theorem Bs.of_own {w : World} {B : Nat} {v : Value} {l : List UInt8} (h : w.ownsRow B 5 1 v l.length (l.map bv)) : Bs w v l := Sl.of_own h
theorem Bs.nil (w : World) : Bs w (.slice none 0 0) [] := ⟨none, 0, rfl, Nat.le_refl _, Nat.zero_le _, fun _ => rfl, .inl rfl⟩

theorem own_base {w : World} {B B' e size : Nat} {v : Value} {n : Nat} {xs : List Value} (h : w.ownsRow B e size v n xs) (hB : B' ≤ B) : w.ownsRow B' e size v n xs := by
  obtain ⟨h1, h2⟩ := h
  refine ⟨h1, ?_⟩
  rcases h2 with h2 | ⟨g, cap, cur, hv, hb, r⟩
  · exact .inl h2
  · exact .inr ⟨g, cap, cur, hv, Nat.le_trans hB hb, r⟩
theorem Fresh.mk {w w1 : World} {l : List UInt8} {B n : Nat} {v : Value} {xs : List Value} (hown : w1.ownsRow B 5 1 v n xs) (hB : w.heap.size ≤ B) (hn : n = l.length) (hx : xs = l.map bv) (hb : Below w.heap.size w w1) : Fresh w l (.returned v) w1 := by
  subst hn; subst hx
  exact ⟨v, rfl, own_base hown hB, hb⟩
theorem Below.thenB {w w1 w2 : World} (h : Below w.heap.size w w1) (k : Below w1.heap.size w1 w2) : Below w.heap.size w w2 := h.trans (k.mono h.size)

/-- A slice literal that was just laid. -/
theorem Sl.lit (w : World) (us : List Value) (e : TypeId) (hm : us.length ≤ 1073741824) : Sl (w.alloc (.cells us.toArray e)) (.slice (some ⟨w.heap.size, 0, none⟩) us.length us.length) us.length us := by
  refine ⟨_, _, rfl, Nat.le_refl _, by unfold maxLen; omega, (by intro h; cases h), .inr ⟨w.heap.size, 0, rfl, fun i u hu => ?_⟩⟩
  have h : (w.alloc (.cells us.toArray e)).heap[w.heap.size]? = some (.cells us.toArray e) := heap_alloc_new w _
  simp only [World.cell?, h]
  simpa using hu

theorem cell_lit (w : World) (us : List Value) (e : TypeId) : ∀ i u, us[i]? = some u → (w.alloc (.cells us.toArray e)).cell? ⟨w.heap.size, i, none⟩ = some u := by
  intro i u hu
  have h : (w.alloc (.cells us.toArray e)).heap[w.heap.size]? = some (.cells us.toArray e) := heap_alloc_new w _
  simp only [World.cell?, h]
  simpa using hu
/-- A slice literal is the call's own. -/
theorem own_lit (w : World) (us : List Value) (e B : Nat) (hB : B ≤ w.heap.size) (hm : us.length ≤ 1073741824) :
    (w.alloc (.cells us.toArray e)).ownsRow B e 1 (.slice (some ⟨w.heap.size, 0, none⟩) us.length us.length) us.length us :=
  ⟨by simp, .inr ⟨w.heap.size, us.length, us.toArray, rfl, hB, heap_alloc_new w _, Nat.le_refl _, by unfold maxLen; omega, by simp, by simp⟩⟩

/-- A slice of bytes as a string. -/
theorem Bs.convert {P : Program} {w : World} {v : Value} {l : List UInt8} (h : Bs w v l) {src dst e : TypeId} (hs : P.underlying src = some (.slice e)) (he : P.underlying e = some (.int .u8)) (hd : P.underlying dst = some .string) :
    (convert src dst v).run P w = .ok (.string ⟨l.toArray⟩) w := by
  obtain ⟨ao, cap, rfl, hlc, hcm, hnone, hcells⟩ := h
  cases ao with
  | none =>
    have := hnone rfl
    have hl : l = [] := List.eq_nil_of_length_eq_zero (by omega)
    subst hl
    rw [run_convert_bytes_string w src dst e none _ cap hs he hd]
    rfl
  | some ad =>
    refine run_convert_bytes_back w src dst e ad cap l hs he hd ?_
    intro j hj
    rcases hcells with h0 | ⟨b, o, had, hc⟩
    · have : l = [] := by simpa using h0
      subst this; simp at hj
    · obtain rfl := Option.some.inj had
      rw [add_eq]
      have := hc j (bv l[j]) (by simp [hj])
      exact this

theorem wpList_bytes_string {P : Program} {w : World} {ops : Array Oper} {rest : List Oper} {o : Oper} {a : Act} {Q : Exit → Act → World → Prop} (hw : Region.wanted o (yielded ops a.tmps) = true) (x : Operand) (src dst e : TypeId)
    (ho : o.op = .convert src dst x) (hs : P.underlying src = some (.slice e)) (he : P.underlying e = some (.int .u8)) (hd : P.underlying dst = some .string)
    (v : Value) (l : List UInt8) (hx : a.eval x = v) (hb : Bs w v l) (h : wpList P ops Q rest (a.put o.dst (.string ⟨l.toArray⟩)) w) : wpList P ops Q (o :: rest) a w := by
  refine BigFrame.wpList_want hw fun K hK => ?_
  have hrun := hb.convert (P := P) hs he hd
  unfold Oper.wp
  simp [execOp, ho, hx, hrun, Result.andThen]
  exact hK _ _ h

/-- How many elements a slice value has: for a loop's measure. -/
def slen : Value → Nat | .slice _ n _ => n | _ => 0
theorem own_shape {w : World} {B e size : Nat} {v : Value} {n : Nat} {xs : List Value} (h : w.ownsRow B e size v n xs) : ∃ ao cap, v = .slice ao n cap := by
  rcases h.2 with ⟨rfl, rfl⟩ | ⟨g, cap, cur, rfl, r⟩
  · exact ⟨_, _, rfl⟩
  · exact ⟨_, _, rfl⟩
/-- A slice of bytes that is written out, marked as a string's. -/
theorem Bs.marked (w : World) (l : List UInt8) (e : TypeId) (fr : Nat × Nat) (n : Nat) (hn : n = l.length) (us : Array Value) (hu : us = (l.map bv).toArray) (hm : l.length ≤ 1073741824) : Bs (w.alloc (.cells us e fr)) (.slice (some ⟨w.heap.size, 0, none⟩) n n) l := by
  subst hn hu
  refine ⟨_, _, rfl, Nat.le_refl _, by unfold maxLen; omega, (by intro h; cases h), .inr ⟨w.heap.size, 0, rfl, fun i u hu => ?_⟩⟩
  have h : (w.alloc (.cells (l.map bv).toArray e fr)).heap[w.heap.size]? = some (.cells (l.map bv).toArray e fr) := heap_alloc_new w _
  simp only [World.cell?, h]
  simpa using hu

/-- Element i of a slice: where it lies. -/
theorem Sl.at {w : World} {ao : Option Addr} {n cap : Nat} {cs : List Value} (h : Sl w (.slice ao n cap) n cs) {i : Nat} {u : Value} (hi : cs[i]? = some u) : ∃ b o, ao = some ⟨b, o, none⟩ ∧ w.cell? ⟨b, o + i, none⟩ = some u := by
  obtain ⟨ao', cap', hv, _, _, _, hc⟩ := h
  simp only [Value.slice.injEq, true_and] at hv
  obtain ⟨rfl, rfl⟩ := hv
  rcases hc with rfl | ⟨b, o, rfl, hc⟩
  · simp at hi
  · exact ⟨b, o, rfl, hc i u hi⟩

theorem str_app (a b : List UInt8) : (⟨a.toArray⟩ : ByteArray) ++ ⟨b.toArray⟩ = ⟨(a ++ b).toArray⟩ := by
  apply ByteArray.ext
  simp

theorem sl_cut {w : World} {ao : Option Addr} {n cap : Nat} {cs : List Value} (hs : Sl w (.slice ao n cap) n cs) (L H : Nat) (hLH : L ≤ H) (hHn : H ≤ n) :
    Sl w (.slice (if cap = L then ao else ao.map (·.add (L * 1))) (H - L) (cap - L)) (H - L) ((cs.drop L).take (H - L)) := by
  obtain ⟨ao', cap', hv, hnc, hcm, hnone, hcells⟩ := hs
  simp only [Value.slice.injEq, true_and] at hv
  obtain ⟨rfl, rfl⟩ := hv
  refine ⟨_, cap - L, rfl, by omega, by omega, ?_, ?_⟩
  · intro h
    split at h
    · omega
    · have : ao = none := by simpa using h
      have := hnone this
      omega
  · by_cases hc : cap = L
    · left
      have : H - L = 0 := by omega
      simp [this]
    · rcases hcells with rfl | ⟨b, o, rfl, hcell⟩
      · left; simp
      · right
        refine ⟨b, o + L, by simp [hc, add_eq], fun i u hu => ?_⟩
        rw [List.getElem?_take] at hu
        split at hu
        · rw [List.getElem?_drop] at hu
          rw [Nat.add_assoc]
          exact hcell _ _ hu
        · cases hu

/-- x[lo:hi] of a slice, within its length: what it reads as; its address is not told. -/
theorem wpList_slice_sl {P : Program} {w : World} {ops : Array Oper} {rest : List Oper} {o : Oper} {a : Act} {Q : Exit → Act → World → Prop} (hw : Region.wanted o (yielded ops a.tmps) = true) (x : Operand) (lo hi : Option Operand) (t e : TypeId) (z : Value) (bytes : Nat)
    (ho : o.op = .slice t x lo hi none) (ht : P.underlying t = some (.slice e)) (hie : (P.info? e).map (fun i => (i.zero, i.size, i.bytes)) = some (some z, 1, bytes))
    (ao : Option Addr) (n cap : Nat) (cs : List Value) (hx : a.eval x = .slice ao n cap) (hs : Sl w (.slice ao n cap) n cs)
    (L H : Nat) (lov hiv : Option Value) (hlov : lo.map a.eval = lov) (hhiv : hi.map a.eval = hiv) (hlo : (lov = none ∧ L = 0) ∨ ∃ k, lov = some (.int k L)) (hhi : (hiv = none ∧ H = n) ∨ ∃ k, hiv = some (.int k H)) (hLH : L ≤ H) (hHn : H ≤ n)
    (h : ∀ ao' cap', Sl w (.slice ao' (H - L) cap') (H - L) ((cs.drop L).take (H - L)) → wpList P ops Q rest (a.put o.dst (.slice ao' (H - L) cap')) w) : wpList P ops Q (o :: rest) a w := by
  refine BigFrame.wpList_want hw fun K hK => ?_
  have hncap : n ≤ cap := by
    obtain ⟨ao', cap', hv, hnc, _⟩ := hs
    simp only [Value.slice.injEq, true_and] at hv
    obtain ⟨rfl, rfl⟩ := hv
    exact hnc
  obtain ⟨i, hi1, hz, hs1, hb1⟩ := info_parts hie
  have hsz : (sizeOf e).run P w = .ok 1 w := by simp [sizeOf, typeInfo, hi1, hs1]
  have hrun : (Instr.sliceAt t (.slice ao n cap) lov hiv none).run P w = .ok (.slice (if cap = L then ao else ao.map (·.add (L * 1))) (H - L) (cap - L)) w := by
    have hel : P.underlying t = some (.slice (P.elem t)) := by rw [ht]; simp [Program.elem, ht]
    have hee : P.elem t = e := by simp [Program.elem, ht]
    rw [run_sliceAt_slice w t _ _ _ _ hel]
    have hb : (Instr.sliceBounds true n cap lov hiv none).run P w = .ok (L, H, cap) w := by
      rcases hlo with ⟨rfl, rfl⟩ | ⟨kl, rfl⟩ <;> rcases hhi with ⟨rfl, rfl⟩ | ⟨kh, rfl⟩
      · simp [Instr.sliceBounds]
      · have e1 := run_sliceBound (P := P) w kh (H : Int) cap .sliceAcap (by omega) (by omega)
        simp [Instr.sliceBounds, e1]
      · have e1 := run_sliceBound (P := P) w kl (L : Int) H .sliceB (by omega) (by omega)
        simp [Instr.sliceBounds, e1]
      · have e1 := run_sliceBound (P := P) w kh (H : Int) cap .sliceAcap (by omega) (by omega)
        have e2 := run_sliceBound (P := P) w kl (L : Int) H .sliceB (by omega) (by omega)
        simp [Instr.sliceBounds, e1, e2]
    rw [run_slice_any w t ao n cap hel, hb, hee]
    simp [Result.andThen, hsz, sliced]
  have hcut := h _ _ (sl_cut hs L H hLH hHn)
  unfold Oper.wp
  simp only [execOp, ho, hx, hlov, hhiv, Option.map_none, Sem.run_bind, hrun, Result.andThen, Sem.run_pure, Oper.upon]
  exact hK _ _ hcut

#print axioms wpList_append_sl
#print axioms wpList_append_full
#print axioms wpList_bytes_string
end Go.Proofs.Ytolcjgogalenhaa
