/-
  A region that draws its order and holds calls that make memory or turn one block: one walk, by a plan (as Grow, with one row that may turn).
-/
import Derived.Test.YtfacdoemgalodaaWords
import Derived.Test.YtfacdoemgalodaaStage
namespace Go.Proofs.Ytfacdoemgalodaa
open Go.RowKit
set_option linter.unusedSimpArgs false
set_option linter.unusedVariables false

/-- A later world: all but the row r is as it was. -/
structure ExtG (r : Option Nat) (w : World) where
  val : World
  ok : w.grownBy val r
instance (r : Option Nat) (w : World) : Nonempty (ExtG r w) := ⟨⟨w, World.grownBy.refl _ _⟩⟩
theorem ExtG.cell {r : Option Nat} {w : World} (x : ExtG r w) {b j : Nat} {o : Obj} (h : w.heap[b]? = some o) (hne : some b ≠ r) : x.val.heap[b]? = some o := blk_grown h x.ok hne

section
variable {P : Program} {ops : Array Oper} {Q : Exit → Act → World → Prop} {md : Region.Mode} {r : Option Nat}

theorem held_takesG {l : List Oper} {w : World} {fuel : Nat} (hs : Region.noSelect l.toArray = true) (hQ : ∀ c a d v w, Q (.panic c) (Act.put a d v) w → Q (.panic c) a w) :
    ∀ (is : List Nat) (listed : Array Bool) (a : Act), takesB md l.toArray is listed = true →
      wpQuiet P l.toArray (fun w' => ∃ x : ExtG r w, w' = x.val) (fun a' => wpAnyH P md l.toArray Q (fun w' => w.grownBy w' r) fuel (setAll is listed) a' w) (pick l is) a →
      wpAnyH P md l.toArray Q (fun w' => w.grownBy w' r) (fuel + is.length) listed a w
  | [], _, _, _, h => h
  | i :: is, listed, a, hB, h => by
    simp only [takesB, Bool.and_eq_true] at hB
    obtain ⟨⟨⟨hr, hf⟩, hp⟩, hB'⟩ := hB
    obtain ⟨o, ho, hpo⟩ : ∃ o, l.toArray[i]? = some o ∧ plainOp o = true := by
      cases hoi : l.toArray[i]? with
      | none => rw [hoi] at hp; simp at hp
      | some o => rw [hoi] at hp; exact ⟨o, rfl, by simpa using hp⟩
    have he : pick l (i :: is) = o :: pick l is := by simp only [pick, List.map_cons, getD_of ho]
    rw [he] at h
    have hC : ∀ {w' : World}, w.grownBy w' r → ∃ x : ExtG r w, w' = x.val := fun {w'} hb => ⟨⟨w', hb⟩, rfl⟩
    simp only [wpQuiet] at h
    show wpAnyH P md l.toArray Q (fun w' => w.grownBy w' r) ((fuel + is.length) + 1) listed a w
    by_cases hw : Region.wanted o (yielded l.toArray a.tmps) = true
    · simp only [hw, if_true] at h
      obtain ⟨v, h1, h2⟩ := h
      refine wpAnyH_take ho hs hf hr (fun c a w h => hQ c a _ _ w h) (.inl ⟨hw, fun w' hw' => ?_⟩) (World.grownBy.refl _ _) (held_takesG hs hQ is _ _ hB' h2)
      have h3 := h1 w' (hC hw')
      unfold Oper.quietAt at h3
      cases hrun : (execOp a.eval o).run P w' with
      | ok n w1 =>
        obtain ⟨x, rfl⟩ := plain_val hpo hrun
        rw [hrun] at h3
        obtain ⟨e1, e2⟩ := h3
        rw [e1, e2]
      | halt x w1 => rw [hrun] at h3; exact h3.elim
    · simp only [hw] at h
      exact wpAnyH_take ho hs hf hr (fun c a w h => hQ c a _ _ w h) (.inr ⟨by simpa using hw, rfl⟩) (World.grownBy.refl _ _) (held_takesG hs hQ is _ _ hB' h)

/-- What stands behind a stretch: nothing, or a call. -/
def planNextG (r : Option Nat) (P : Program) (ops : Array Oper) (Q : Exit → Act → World → Prop) (next : Act → World → Prop) (w : World) (a : Act) : Option Oper → Prop
  | none => next a w
  | some o => if Region.wanted o (yielded ops a.tmps) = true then o.wp P a w (fun a'' w'' => w.grownBy w'' r ∧ next a'' w'') Q else next (a.put o.dst undef) w
/-- The walk by a plan. -/
def wpPlanG (r : Option Nat) (P : Program) (ops : Array Oper) (Q : Exit → Act → World → Prop) : List (List Oper × Option Oper) → Act → World → Prop
  | [], a, w => Q .normal a w
  | (qs, m) :: rest, a, w => wpQuiet P ops (fun w' => ∃ x : ExtG r w, w' = x.val) (fun a' => planNextG r P ops Q (wpPlanG r P ops Q rest) w a' m) qs a




theorem held_planG {l : List Oper} (hs : Region.noSelect l.toArray = true) (hQ : ∀ c a d v w, Q (.panic c) (Act.put a d v) w → Q (.panic c) a w) :
    ∀ (plan : List (List Nat × Option Nat)) (listed : Array Bool) (a : Act) (w : World), planB md l.toArray plan listed = true → wpPlanG r P l.toArray Q (pickP l plan) a w →
      wpAnyH P md l.toArray Q (fun w' => w.grownBy w' r) (planN plan) listed a w
  | [], _, _, _, hB, h => wpAnyH_done (by simpa [planB] using hB) h _
  | (is, none) :: rest, listed, a, w, hB, h => by
    simp only [planB, Bool.and_eq_true] at hB
    exact held_takesG hs hQ is listed a hB.1 (wpQuiet_mono' (fun a' h' => held_planG hs hQ rest _ _ _ hB.2 h') h)
  | (is, some i) :: rest, listed, a, w, hB, h => by
    simp only [planB, Bool.and_eq_true] at hB
    obtain ⟨h1, ⟨h2, h3⟩, h4⟩ := hB
    obtain ⟨o, ho⟩ := Option.isSome_iff_exists.1 h3
    refine held_takesG hs hQ is listed a h1 (wpQuiet_mono' (fun a' h' => ?_) h)
    refine wpAnyH_all (rs := [i]) (by simpa using h2) (by simp) fun j hj => ?_
    obtain rfl : j = i := by simpa using hj
    simp only [Option.map_some, getD_of ho, planNextG] at h'
    unfold wpOp
    simp only [ho]
    split
    · rename_i hw
      simp only [hw, if_true] at h'
      exact .inl (Oper.wp_mono (fun a'' w'' ⟨hb, hk⟩ => ⟨hb, held_imp (fun w3 hb3 => grown_trans hb hb3) _ _ _ _ (held_planG hs hQ rest _ _ _ h4 hk)⟩) h')
    · rename_i hw
      simp only [hw] at h'
      exact ⟨World.grownBy.refl _ _, held_planG hs hQ rest _ _ _ h4 h'⟩
where
  wpQuiet_mono' {C : World → Prop} {K K' : Act → Prop} (hk : ∀ a, K a → K' a) : ∀ {qs : List Oper} {a : Act}, wpQuiet P l.toArray C K qs a → wpQuiet P l.toArray C K' qs a
    | [], _, h => hk _ h
    | o :: qs, a, h => by
      simp only [wpQuiet] at h ⊢
      split
      · rename_i hw; simp only [hw, if_true] at h; exact Oper.quiet_mono (fun a' h' => wpQuiet_mono' hk h') h
      · rename_i hw; simp only [hw] at h; exact wpQuiet_mono' hk h



theorem wp_region_planG {l : List Oper} {id : Nat} {a : Act} {w : World} (r : Option Nat) (plan : List (List Nat × Option Nat)) (hm : P.follows .mixedOrders = true) (hB : planOk l plan = true)
    (h : ∀ w' : World, w'.heap.size = w.heap.size → Below w.heap.size w w' → wpPlanG r P l.toArray (NormalOnly Q) (pickP l plan) a w') : (Code.region id l.toArray true).wp P Q a w := by
  simp only [planOk, Bool.and_eq_true] at hB
  obtain ⟨⟨h1, h2⟩, h3⟩ := hB
  have h3 : planN plan = l.length := by simpa using h3
  refine Code.wp_mono (Q := NormalOnly Q) (fun e a w h => ?_) ?_
  · cases e <;> first | exact h | exact h.elim
  refine wp_region_held (S := fun w' => w.drew.grownBy w' r) hm ?_
  have := held_planG (P := P) (Q := NormalOnly Q) (md := .any) h1 (fun _ _ _ _ _ h => h) plan (Array.replicate l.length false) a w.drew h2 (h _ rfl ((Below.refl _ _).drew))
  rw [h3] at this
  simpa using this

theorem plang_cons {l : List Oper} {qs : List Oper} {m : Option Oper} {rest : List (List Oper × Option Oper)} {a : Act} {w : World}
    (h : wpQuiet P l.toArray (fun w' => ∃ x : ExtG r w, w' = x.val) (fun a' => planNextG r P l.toArray Q (wpPlanG r P l.toArray Q rest) w a' m) qs a) :
    wpPlanG r P l.toArray Q ((qs, m) :: rest) a w := h
theorem plang_nil {C : World → Prop} {m : Option Oper} {next : Act → World → Prop} {a : Act} {w : World} (h : planNextG r P ops Q next w a m) : wpQuiet P ops C (fun a' => planNextG r P ops Q next w a' m) [] a := h
/-- The call between two stretches. -/
theorem plang_call {o : Oper} {next : Act → World → Prop} {a : Act} {w : World} (hw : Region.wanted o (yielded ops a.tmps) = true)
    (h : ∀ K : Act → World → Prop, Hid (∀ a' w', w.grownBy w' r → next a' w' → K a' w') → o.wp P a w K Q) : planNextG r P ops Q next w a (some o) := by
  simp only [planNextG]; rw [if_pos hw]; exact h _ (Lib.hid fun _ _ h1 h2 => ⟨h1, h2⟩)
theorem plang_pass {o : Oper} {next : Act → World → Prop} {a : Act} {w : World} (hw : Region.wanted o (yielded ops a.tmps) = false)
    (h : next (a.put o.dst undef) w) : planNextG r P ops Q next w a (some o) := by
  simp only [planNextG]; rw [if_neg (by rw [hw]; simp)]; exact h
theorem plang_end {l : List Oper} {a : Act} {w : World} (h : Q .normal a w) : planNextG r P l.toArray (NormalOnly Q) (wpPlanG r P l.toArray (NormalOnly Q) []) w a none := h
end
end Go.Proofs.Ytfacdoemgalodaa
