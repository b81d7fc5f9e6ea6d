/-
  A region that draws its order, walked once along one schedule, the class of worlds chosen anew behind each operation that is run: an operation that yields one value in every world of the class is taken as soon as it may come up; any other is run where it alone may come up.
-/
import Derived.OrdersHeld
import Derived.WalkKit
namespace Go.SchedB
variable {P : Program} {ops : Array Oper} {Q : Exit → Act → World → Prop}

/-- The schedule may be followed: what is marked 'true' is taken first; what is marked 'false' comes up alone. -/
def schedOk (ops : Array Oper) : List (Nat × Bool) → Array Bool → Bool
  | [], listed => (Region.ready .any ops listed).isEmpty
  | (i, true) :: r, listed => Region.free .any ops listed i && (Region.ready .any ops listed).contains i && schedOk ops r (listed.setIfInBounds i true)
  | (i, false) :: r, listed => (Region.ready .any ops listed == [i]) && schedOk ops r (listed.setIfInBounds i true)

/-- The walk along a schedule. -/
def wpSched (P : Program) (ops : Array Oper) (Q : Exit → Act → World → Prop) : List (Nat × Bool) → (World → Prop) → Act → World → Prop
  | [], _, a, w => Q .normal a w
  | (i, true) :: r, C, a, w => ∃ o v, ops[i]? = some o ∧ YieldsIf P ops C o v a ∧ wpSched P ops Q r C (a.put o.dst v) w
  | (i, false) :: r, C, a, w => wpOp P ops Q i (fun a' w' => ∃ C' : World → Prop, C' w' ∧ (∀ x, C' x → C x) ∧ wpSched P ops Q r C' a' w') a w

theorem wpAnyH_mono {S S' : World → Prop} (h : ∀ w, S w → S' w) : ∀ (fuel : Nat) (listed : Array Bool) (a : Act) (w : World), wpAnyH P .any ops Q S fuel listed a w → wpAnyH P .any ops Q S' fuel listed a w
  | 0, _, _, _, hh => hh
  | fuel + 1, _, _, _, hh => ⟨hh.1, fun i hi => wpOp_mono (fun a' w' h' => ⟨h _ h'.1, wpAnyH_mono h fuel _ a' w' h'.2⟩) (hh.2 i hi)⟩

theorem sched_sound (hns : Region.noSelect ops = true) (hQ : ∀ c a t v w, Q (.panic c) (Act.put a (some t) v) w → Q (.panic c) a w) :
    ∀ (s : List (Nat × Bool)) (listed : Array Bool) (C : World → Prop) (a : Act) (w : World), C w → schedOk ops s listed = true → wpSched P ops Q s C a w → wpAnyH P .any ops Q C s.length listed a w
  | [], listed, C, a, w, _, hok, h => by
    simp only [schedOk, List.isEmpty_iff] at hok
    exact ⟨hok, h⟩
  | (i, true) :: r, listed, C, a, w, hC, hok, h => by
    simp only [schedOk, Bool.and_eq_true] at hok
    obtain ⟨⟨hf, hr⟩, hrest⟩ := hok
    obtain ⟨o, v, ho, hy, h⟩ := h
    exact wpAnyH_take ho hns hf hr (fun c a w hh => by cases hd : o.dst with | none => rw [hd] at hh; exact hh | some t => rw [hd] at hh; exact hQ c a t v w hh) hy hC (sched_sound hns hQ r _ C _ w hC hrest h)
  | (i, false) :: r, listed, C, a, w, hC, hok, h => by
    simp only [schedOk, Bool.and_eq_true, beq_iff_eq] at hok
    obtain ⟨hr, hrest⟩ := hok
    refine wpAnyH_all hr (by simp) (fun j hj => ?_)
    obtain rfl : j = i := by simpa using hj
    refine wpOp_mono (fun a' w' hh => ?_) h
    obtain ⟨C', hC', hsub, hh⟩ := hh
    exact ⟨hsub _ hC', wpAnyH_mono hsub _ _ _ _ (sched_sound hns hQ r (listed.setIfInBounds j true) C' a' w' hC' hrest hh)⟩

theorem wp_region_sched (C : World → Prop) (s : List (Nat × Bool)) {id : Nat} {a : Act} {w : World} (hm : P.follows .mixedOrders = true)
    (hns : Region.noSelect ops = true) (hok : schedOk ops s (Array.replicate ops.size false) = true) (hlen : (s.length == ops.size) = true) (hQ : ∀ c a t v w, Q (.panic c) (Act.put a (some t) v) w → Q (.panic c) a w)
    (hC : C w.drew) (h : wpSched P ops Q s C a w.drew) : (Code.region id ops true).wp P Q a w := by
  refine wp_region_held hm (S := C) ?_
  have := sched_sound hns hQ s (Array.replicate ops.size false) C a w.drew hC hok h
  have e : s.length = ops.size := by simpa using hlen
  rw [e] at this
  exact this

theorem wpSched_nil {C : World → Prop} {a : Act} {w : World} (h : Q .normal a w) : wpSched P ops Q [] C a w := h
/-- An operation that yields v in every world of the class. -/
theorem wpSched_take {i : Nat} {r : List (Nat × Bool)} {C : World → Prop} {a : Act} {w : World} {o : Oper} (ho : ops[i]? = some o) (hw : Region.wanted o (yielded ops a.tmps) = true) (v : Value)
    (hy : ∀ w', C w' → (execOp a.eval o).run P w' = .ok (.value v) w') (h : wpSched P ops Q r C (a.put o.dst v) w) : wpSched P ops Q ((i, true) :: r) C a w :=
  ⟨o, v, ho, .inl ⟨hw, hy⟩, h⟩
/-- An operation whose guard says no. -/
theorem wpSched_skip {i : Nat} {r : List (Nat × Bool)} {C : World → Prop} {a : Act} {w : World} {o : Oper} (ho : ops[i]? = some o) (hw : Region.wanted o (yielded ops a.tmps) = false)
    (h : wpSched P ops Q r C (a.put o.dst undef) w) : wpSched P ops Q ((i, true) :: r) C a w :=
  ⟨o, undef, ho, .inr ⟨hw, rfl⟩, h⟩
theorem wpSched_skip' {i : Nat} {r : List (Nat × Bool)} {C : World → Prop} {a : Act} {w : World} {o : Oper} (hC : C w) (ho : ops[i]? = some o) (hw : Region.wanted o (yielded ops a.tmps) = false)
    (h : wpSched P ops Q r C (a.put o.dst undef) w) : wpSched P ops Q ((i, false) :: r) C a w := by
  unfold wpSched wpOp
  simp only [ho, hw]
  exact ⟨C, hC, fun _ h => h, h⟩
/-- An operation that is run. -/
theorem wpSched_run {i : Nat} {r : List (Nat × Bool)} {C : World → Prop} {a : Act} {w : World} {o : Oper} (ho : ops[i]? = some o) (hw : Region.wanted o (yielded ops a.tmps) = true)
    (h : ∀ K : Act → World → Prop, (∀ a' w' (C' : World → Prop), C' w' → (∀ x, C' x → C x) → wpSched P ops Q r C' a' w' → K a' w') → o.wp P a w K Q) : wpSched P ops Q ((i, false) :: r) C a w := by
  unfold wpSched wpOp
  simp only [ho, hw, if_true]
  exact .inl (h _ fun a' w' C' h1 h2 h3 => ⟨C', h1, h2, h3⟩)
end Go.SchedB
