/-
  A region that draws its order and holds calls that make memory: one walk, by a plan: stretches of plain operations (whose value is the same in every later world), and between them one call at a time, where nothing else is ready.
-/
import Derived.Test.YtfacdoemgalodaaExt
import Derived.OrdersHeld
namespace Go.Proofs.Ytfacdoemgalodaa
open Go.RowKit

/-- An operation that hands on a value and enters no function. -/
def plainOp (o : Oper) : Bool :=
  match o.op with
  | .move _ | .assign _ | .pick .. | .build .. | .load .. | .binOp .. | .unOp .. | .convert .. | .slice .. | .fieldAddr .. | .field .. | .indexAddr .. | .index .. | .lookup .. | .extract .. | .makeInterface .. => true
  | .call c => match c.callee with | .builtin .len | .builtin .cap | .builtin .min | .builtin .max => true | _ => false
  | _ => false

theorem val_of {P : Program} {s : Sem Value} {w w' : World} {n : Next} (h : (do pure (Next.value (← s)) : Sem Next).run P w = .ok n w') : ∃ x, n = .value x := by
  simp only [Sem.run_bind, Sem.run_pure] at h
  cases hs : s.run P w with
  | ok v w1 => rw [hs] at h; simp only [Result.andThen_ok] at h; injection h with h _; exact ⟨v, h.symm⟩
  | halt x w1 => rw [hs] at h; simp [Result.andThen] at h

theorem plain_val {P : Program} {ρ : Operand → Value} {o : Oper} {w w' : World} {n : Next} (hp : plainOp o = true) (h : (execOp ρ o).run P w = .ok n w') : ∃ x, n = .value x := by
  obtain ⟨dst, op, type, pos, after, guard⟩ := o
  cases op <;> simp only [plainOp, Bool.false_eq_true] at hp <;> simp only [execOp] at h
  case move x => simp only [Sem.run_pure] at h; injection h with h _; exact ⟨_, h.symm⟩
  case assign x => simp only [Sem.run_pure] at h; injection h with h _; exact ⟨_, h.symm⟩
  case pick c a b =>
    simp only [Sem.run_bind, Sem.run_pure] at h
    cases hs : (asBool (ρ c)).run P w with
    | ok v w1 => rw [hs] at h; simp only [Result.andThen_ok] at h; injection h with h _; exact ⟨_, h.symm⟩
    | halt x w1 => rw [hs] at h; simp [Result.andThen] at h
  case call c =>
    obtain ⟨callee, args, argTypes⟩ := c
    cases callee with
    | value f => simp at hp
    | invoke r m => simp at hp
    | builtin b =>
      simp only [resolve, Sem.run_bind, Sem.run_pure, Result.andThen_ok, invoke] at h
      cases b <;> simp at hp <;> exact val_of h
  all_goals exact val_of h

section
variable {P : Program} {ops : Array Oper} {Q : Exit → Act → World → Prop} {md : Region.Mode}

theorem held_imp {S S' : World → Prop} (hS : ∀ w, S' w → S w) :
    ∀ (fuel : Nat) (listed : Array Bool) (a : Act) (w : World), wpAnyH P md ops Q S' fuel listed a w → wpAnyH P md ops Q S fuel listed a w
  | 0, _, _, _, h => h
  | fuel + 1, _, _, _, h => ⟨h.1, fun i hi => wpOp_mono (fun a' w' h' => ⟨hS _ h'.1, held_imp hS fuel _ a' w' h'.2⟩) (h.2 i hi)⟩

def setAll : List Nat → Array Bool → Array Bool
  | [], listed => listed
  | i :: is, listed => setAll is (listed.setIfInBounds i true)

def takesB (md : Region.Mode) (ops : Array Oper) : List Nat → Array Bool → Bool
  | [], _ => true
  | i :: is, listed => (Region.ready md ops listed).contains i && Region.free md ops listed i && ((ops[i]?).map plainOp).getD false && takesB md ops is (listed.setIfInBounds i true)

def pick (l : List Oper) (is : List Nat) : List Oper := is.map fun i => l.getD i default

theorem getD_of {l : List Oper} {i : Nat} {o : Oper} (h : l.toArray[i]? = some o) : l.getD i default = o := by
  simp at h; simp [List.getD, h]

theorem held_takes {l : List Oper} {w : World} {fuel : Nat} (hs : Region.noSelect l.toArray = true) (hQ : ∀ c a d v w, Q (.panic c) (Act.put a d v) w → Q (.panic c) a w) :
    ∀ (is : List Nat) (listed : Array Bool) (a : Act), takesB md l.toArray is listed = true →
      wpQuiet P l.toArray (fun w' => ∃ x : Ext w.heap.size w, w' = x.val) (fun a' => wpAnyH P md l.toArray Q (Below w.heap.size w) fuel (setAll is listed) a' w) (pick l is) a →
      wpAnyH P md l.toArray Q (Below w.heap.size w) (fuel + is.length) listed a w
  | [], _, _, _, h => h
  | i :: is, listed, a, hB, h => by
    simp only [takesB, Bool.and_eq_true] at hB
    obtain ⟨⟨⟨hr, hf⟩, hp⟩, hB'⟩ := hB
    obtain ⟨o, ho, hpo⟩ : ∃ o, l.toArray[i]? = some o ∧ plainOp o = true := by
      cases hoi : l.toArray[i]? with
      | none => rw [hoi] at hp; simp at hp
      | some o => rw [hoi] at hp; exact ⟨o, rfl, by simpa using hp⟩
    have he : pick l (i :: is) = o :: pick l is := by simp only [pick, List.map_cons, getD_of ho]
    rw [he] at h
    have hC : ∀ {w' : World}, Below w.heap.size w w' → ∃ x : Ext w.heap.size w, w' = x.val := fun {w'} hb => ⟨⟨w', hb⟩, rfl⟩
    simp only [wpQuiet] at h
    show wpAnyH P md l.toArray Q (Below w.heap.size w) ((fuel + is.length) + 1) listed a w
    by_cases hw : Region.wanted o (yielded l.toArray a.tmps) = true
    · simp only [hw, if_true] at h
      obtain ⟨v, h1, h2⟩ := h
      refine wpAnyH_take ho hs hf hr (fun c a w h => hQ c a _ _ w h) (.inl ⟨hw, fun w' hw' => ?_⟩) (Below.refl _ _) (held_takes hs hQ is _ _ hB' h2)
      have h3 := h1 w' (hC hw')
      unfold Oper.quietAt at h3
      cases hrun : (execOp a.eval o).run P w' with
      | ok n w1 =>
        obtain ⟨x, rfl⟩ := plain_val hpo hrun
        rw [hrun] at h3
        obtain ⟨e1, e2⟩ := h3
        rw [e1, e2]
      | halt x w1 => rw [hrun] at h3; exact h3.elim
    · simp only [hw] at h
      exact wpAnyH_take ho hs hf hr (fun c a w h => hQ c a _ _ w h) (.inr ⟨by simpa using hw, rfl⟩) (Below.refl _ _) (held_takes hs hQ is _ _ hB' h)

/-- What stands behind a stretch: nothing, or a call. -/
def planNext (P : Program) (ops : Array Oper) (Q : Exit → Act → World → Prop) (next : Act → World → Prop) (w : World) (a : Act) : Option Oper → Prop
  | none => next a w
  | some o => if Region.wanted o (yielded ops a.tmps) = true then o.wp P a w (fun a'' w'' => Below w.heap.size w w'' ∧ next a'' w'') Q else next (a.put o.dst undef) w
/-- The walk by a plan. -/
def wpPlan (P : Program) (ops : Array Oper) (Q : Exit → Act → World → Prop) : List (List Oper × Option Oper) → Act → World → Prop
  | [], a, w => Q .normal a w
  | (qs, m) :: rest, a, w => wpQuiet P ops (fun w' => ∃ x : Ext w.heap.size w, w' = x.val) (fun a' => planNext P ops Q (wpPlan P ops Q rest) w a' m) qs a

def planB (md : Region.Mode) (ops : Array Oper) : List (List Nat × Option Nat) → Array Bool → Bool
  | [], listed => (Region.ready md ops listed).isEmpty
  | (is, m) :: rest, listed => takesB md ops is listed && (match m with
      | none => planB md ops rest (setAll is listed)
      | some i => (Region.ready md ops (setAll is listed) == [i]) && (ops[i]?).isSome && planB md ops rest ((setAll is listed).setIfInBounds i true))

def planN : List (List Nat × Option Nat) → Nat
  | [] => 0
  | (is, m) :: rest => (planN rest + match m with | none => 0 | some _ => 1) + is.length

def pickP (l : List Oper) (plan : List (List Nat × Option Nat)) : List (List Oper × Option Oper) := plan.map fun p => (pick l p.1, p.2.map fun i => l.getD i default)

theorem held_plan {l : List Oper} (hs : Region.noSelect l.toArray = true) (hQ : ∀ c a d v w, Q (.panic c) (Act.put a d v) w → Q (.panic c) a w) :
    ∀ (plan : List (List Nat × Option Nat)) (listed : Array Bool) (a : Act) (w : World), planB md l.toArray plan listed = true → wpPlan P l.toArray Q (pickP l plan) a w →
      wpAnyH P md l.toArray Q (Below w.heap.size w) (planN plan) listed a w
  | [], _, _, _, hB, h => wpAnyH_done (by simpa [planB] using hB) h _
  | (is, none) :: rest, listed, a, w, hB, h => by
    simp only [planB, Bool.and_eq_true] at hB
    exact held_takes hs hQ is listed a hB.1 (wpQuiet_mono' (fun a' h' => held_plan hs hQ rest _ _ _ hB.2 h') h)
  | (is, some i) :: rest, listed, a, w, hB, h => by
    simp only [planB, Bool.and_eq_true] at hB
    obtain ⟨h1, ⟨h2, h3⟩, h4⟩ := hB
    obtain ⟨o, ho⟩ := Option.isSome_iff_exists.1 h3
    refine held_takes hs hQ is listed a h1 (wpQuiet_mono' (fun a' h' => ?_) h)
    refine wpAnyH_all (rs := [i]) (by simpa using h2) (by simp) fun j hj => ?_
    obtain rfl : j = i := by simpa using hj
    simp only [Option.map_some, getD_of ho, planNext] at h'
    unfold wpOp
    simp only [ho]
    split
    · rename_i hw
      simp only [hw, if_true] at h'
      exact .inl (Oper.wp_mono (fun a'' w'' ⟨hb, hk⟩ => ⟨hb, held_imp (fun w3 hb3 => hb.trans (hb3.mono hb.size)) _ _ _ _ (held_plan hs hQ rest _ _ _ h4 hk)⟩) h')
    · rename_i hw
      simp only [hw] at h'
      exact ⟨Below.refl _ _, held_plan hs hQ rest _ _ _ h4 h'⟩
where
  wpQuiet_mono' {C : World → Prop} {K K' : Act → Prop} (hk : ∀ a, K a → K' a) : ∀ {qs : List Oper} {a : Act}, wpQuiet P l.toArray C K qs a → wpQuiet P l.toArray C K' qs a
    | [], _, h => hk _ h
    | o :: qs, a, h => by
      simp only [wpQuiet] at h ⊢
      split
      · rename_i hw; simp only [hw, if_true] at h; exact Oper.quiet_mono (fun a' h' => wpQuiet_mono' hk h') h
      · rename_i hw; simp only [hw] at h; exact wpQuiet_mono' hk h

def planOk (l : List Oper) (plan : List (List Nat × Option Nat)) : Bool := Region.noSelect l.toArray && planB .any l.toArray plan (Array.replicate l.length false) && planN plan == l.length

/-- The region ends as it should, and no other way. -/
def NormalOnly (Q : Exit → Act → World → Prop) : Exit → Act → World → Prop := fun x a w => match x with | .normal => Q .normal a w | _ => False

theorem wp_region_plan {l : List Oper} {id : Nat} {a : Act} {w : World} (plan : List (List Nat × Option Nat)) (hm : P.follows .mixedOrders = true) (hB : planOk l plan = true)
    (h : ∀ w' : World, w'.heap.size = w.heap.size → Below w.heap.size w w' → wpPlan P l.toArray (NormalOnly Q) (pickP l plan) a w') : (Code.region id l.toArray true).wp P Q a w := by
  simp only [planOk, Bool.and_eq_true] at hB
  obtain ⟨⟨h1, h2⟩, h3⟩ := hB
  have h3 : planN plan = l.length := by simpa using h3
  refine Code.wp_mono (Q := NormalOnly Q) (fun e a w h => ?_) ?_
  · cases e <;> first | exact h | exact h.elim
  refine wp_region_held (S := Below w.drew.heap.size w.drew) hm ?_
  have := held_plan (P := P) (Q := NormalOnly Q) (md := .any) h1 (fun _ _ _ _ _ h => h) plan (Array.replicate l.length false) a w.drew h2 (h _ rfl ((Below.refl _ _).drew))
  rw [h3] at this
  simpa using this

theorem plan_cons {l : List Oper} {qs : List Oper} {m : Option Oper} {rest : List (List Oper × Option Oper)} {a : Act} {w : World}
    (h : wpQuiet P l.toArray (fun w' => ∃ x : Ext w.heap.size w, w' = x.val) (fun a' => planNext P l.toArray Q (wpPlan P l.toArray Q rest) w a' m) qs a) :
    wpPlan P l.toArray Q ((qs, m) :: rest) a w := h
theorem plan_nil {C : World → Prop} {m : Option Oper} {next : Act → World → Prop} {a : Act} {w : World} (h : planNext P ops Q next w a m) : wpQuiet P ops C (fun a' => planNext P ops Q next w a' m) [] a := h
/-- The call between two stretches. -/
theorem plan_call {o : Oper} {next : Act → World → Prop} {a : Act} {w : World} (hw : Region.wanted o (yielded ops a.tmps) = true)
    (h : ∀ K : Act → World → Prop, Hid (∀ a' w', Below w.heap.size w w' → next a' w' → K a' w') → o.wp P a w K Q) : planNext P ops Q next w a (some o) := by
  simp only [planNext]; rw [if_pos hw]; exact h _ (Lib.hid fun _ _ h1 h2 => ⟨h1, h2⟩)
theorem plan_pass {o : Oper} {next : Act → World → Prop} {a : Act} {w : World} (hw : Region.wanted o (yielded ops a.tmps) = false)
    (h : next (a.put o.dst undef) w) : planNext P ops Q next w a (some o) := by
  simp only [planNext]; rw [if_neg (by rw [hw]; simp)]; exact h
theorem plan_end {l : List Oper} {a : Act} {w : World} (h : Q .normal a w) : planNext P l.toArray (NormalOnly Q) (wpPlan P l.toArray (NormalOnly Q) []) w a none := h
end
end Go.Proofs.Ytfacdoemgalodaa
