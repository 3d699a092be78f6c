/-
  Rows of the call's own under a turn of another row; lists of versions and of payloads that the call owns.
-/
import Derived.Test.YtfacdoemgalodaaVer
import Derived.Test.YtfacdoemgalodaaListW
namespace Go.Proofs.Ytfacdoemgalodaa
open Go.RowKit
set_option linter.unusedVariables false

/-- The row r, if there is one, is of type t. -/
def RowT (w : World) (r : Option Nat) (t : TypeId) : Prop := ∀ b, r = some b → ∃ cs fr, w.heap[b]? = some (.cells cs t fr)
section
variable {w w' : World} {B e size n : Nat} {v : Value} {xs : List Value} {r : Option Nat} {t : TypeId}
theorem RowT.own (h : w.ownsRow B e size v n xs) : RowT w v.ownBlock e := by
  intro b hb
  rcases h.2 with ⟨rfl, _⟩ | ⟨g, cap, cur, rfl, _, hg, _⟩
  · simp [Value.ownBlock] at hb
  · obtain rfl : g = b := by simpa [Value.ownBlock] using hb
    exact ⟨_, _, hg⟩
theorem RowT.blk {b : Nat} {cs : Array Value} {fr : Nat × Nat} (h : w.heap[b]? = some (.cells cs t fr)) : RowT w (some b) t := by
  intro b' hb
  injection hb with hb
  subst hb
  exact ⟨_, _, h⟩
theorem RowT.none : RowT w none t := fun b hb => by cases hb
theorem RowT.below (h : RowT w r t) (hb : Below w.heap.size w w') : RowT w' r t := fun b hr => by
  obtain ⟨cs, fr, hc⟩ := h b hr
  exact ⟨cs, fr, blk_below hc hb⟩
theorem own_kept (h : w.ownsRow B e size v n xs) (hg : w.grownBy w' r) (hr : RowT w r t) (hne : e ≠ t) : w'.ownsRow B e size v n xs :=
  own_grown' h hg fun g hv hgr => by
    obtain ⟨cs, fr, hc⟩ := hr g hgr.symm
    exact own_blk_ne h hc hne g hv rfl
theorem blk_kept {b : Nat} {cs : Array Value} {t' : TypeId} {fr : Nat × Nat} (h : w.heap[b]? = some (.cells cs t' fr)) (hg : w.grownBy w' r) (hr : RowT w r t) (hne : t' ≠ t) : w'.heap[b]? = some (.cells cs t' fr) :=
  blk_grown h hg fun e => by
    obtain ⟨cs', fr', hc⟩ := hr b e.symm
    rw [h] at hc
    injection hc with hc
    injection hc with _ h2 _
    exact hne h2
end

/-- The call owns a list of versions. -/
def OwnV (w : World) (B : Nat) (v : Value) (vs : List Ver) : Prop :=
  ∃ ss : List Value, ss.length = vs.length ∧ w.ownsRow B 42 4 v vs.length ((vs.zip ss).flatMap fun x => vcell x.1 x.2) ∧
    ∀ (i : Nat) (u : Ver) (s : Value), vs[i]? = some u → ss[i]? = some s → w.ownsRow B 76 2 s u.week.length (pv u.week) ∧ okPs u.week ∧ okI u.no ∧ okI u.cost
section
variable {w w' : World} {B B' : Nat} {v : Value} {vs : List Ver} {r : Option Nat} {t : TypeId}
theorem OwnV.nil (w : World) (B : Nat) : OwnV w B (.slice none 0 0) [] := ⟨[], rfl, World.ownsRow_nil _ _ _ _, by simp⟩
theorem OwnV.below (h : OwnV w B v vs) (hb : Below w.heap.size w w') : OwnV w' B v vs := by
  obtain ⟨ss, h1, h2, h3⟩ := h
  exact ⟨ss, h1, own_below h2 hb, fun i u s hi hs => ⟨own_below (h3 i u s hi hs).1 hb, (h3 i u s hi hs).2⟩⟩
theorem OwnV.mono (h : OwnV w B v vs) (hB : B' ≤ B) : OwnV w B' v vs := by
  obtain ⟨ss, h1, h2, h3⟩ := h
  exact ⟨ss, h1, own_mono h2 hB, fun i u s hi hs => ⟨own_mono (h3 i u s hi hs).1 hB, (h3 i u s hi hs).2⟩⟩
theorem OwnV.kept (h : OwnV w B v vs) (hg : w.grownBy w' r) (hr : RowT w r t) (h1 : 42 ≠ t) (h2 : 76 ≠ t) : OwnV w' B v vs := by
  obtain ⟨ss, e1, e2, e3⟩ := h
  exact ⟨ss, e1, own_kept e2 hg hr h1, fun i u s hi hs => ⟨own_kept (e3 i u s hi hs).1 hg hr h2, (e3 i u s hi hs).2⟩⟩
theorem OwnV.rd (h : OwnV w B v vs) : ∃ A c, v = .slice A vs.length c ∧ RdV w w.heap.size A vs.length c vs := by
  obtain ⟨ss, h1, h2, h3⟩ := h
  obtain ⟨A, c, e, hr⟩ := own_rdK h2
  refine ⟨A, c, e, ss, h1, hr, fun i u s hi hs => ?_⟩
  obtain ⟨ho, k1, k2, k3⟩ := h3 i u s hi hs
  obtain ⟨A', c', e', hr'⟩ := own_rdP ho k1
  exact ⟨A', c', e', hr', k2, k3⟩
/-- One more version. -/
theorem OwnV.snoc (h : OwnV w B v vs) {u : Ver} {s v2 : Value} (hg : w.grownBy w' v.ownBlock) (ho : w'.ownsRow B 42 4 v2 (vs.length + 1) ((Classical.choose h |> fun ss => (vs.zip ss).flatMap fun x => vcell x.1 x.2) ++ vcell u s))
    (hs : w.ownsRow B 76 2 s u.week.length (pv u.week)) (k1 : okPs u.week) (k2 : okI u.no) (k3 : okI u.cost) : OwnV w' B v2 (vs ++ [u]) := by
  have hsp := Classical.choose_spec h
  generalize hss : Classical.choose h = ss at *
  obtain ⟨h1, h2, h3⟩ := hsp
  have hr := RowT.own h2
  refine ⟨ss ++ [s], by simp [h1], ?_, fun i u' s' hi hs' => ?_⟩
  · rw [List.zip_append (by omega), List.flatMap_append, List.length_append]
    simpa using ho
  · rcases Nat.lt_or_ge i vs.length with hlt | hge
    · rw [List.getElem?_append_left hlt] at hi
      rw [List.getElem?_append_left (by omega)] at hs'
      obtain ⟨q1, q2⟩ := h3 i u' s' hi hs'
      exact ⟨own_kept q1 hg hr (by decide), q2⟩
    · rw [List.getElem?_append_right hge] at hi
      rw [List.getElem?_append_right (by omega)] at hs'
      have h0 : i - vs.length = 0 := by
        rcases Nat.eq_zero_or_pos (i - vs.length) with h0 | h0
        · exact h0
        · rw [List.getElem?_eq_none (by simp; omega)] at hi; cases hi
      rw [h0] at hi
      rw [h1, h0] at hs'
      simp at hi hs'
      subst hi hs'
      exact ⟨own_kept hs hg hr (by decide), k1, k2, k3⟩
noncomputable def OwnV.row {w : World} {B : Nat} {v : Value} {vs : List Ver} (h : OwnV w B v vs) : List Value := (vs.zip (Classical.choose h)).flatMap fun x => vcell x.1 x.2
theorem OwnV.own (h : OwnV w B v vs) : w.ownsRow B 42 4 v vs.length h.row := (Classical.choose_spec h).2.1
theorem OwnV.step (h : OwnV w B v vs) {u : Ver} {s v2 : Value} (hg : w.grownBy w' v.ownBlock) (ho : w'.ownsRow B 42 4 v2 (vs.length + 1) (h.row ++ vcell u s))
    (hs : w.ownsRow B 76 2 s u.week.length (pv u.week)) (k1 : okPs u.week) (k2 : okI u.no) (k3 : okI u.cost) : OwnV w' B v2 (vs ++ [u]) := h.snoc hg ho hs k1 k2 k3
end

/-- The call owns the payloads that a scan found. -/
def ScanOwn (w : World) (B : Nat) (v : Value) (ls : List (List UInt8)) : Prop :=
  ∃ vs, w.ownsRow B 22 1 v ls.length vs ∧ ∀ (i : Nat) (b : List UInt8), ls[i]? = some b → ∃ u, vs[i]? = some u ∧ w.ownsRow B 5 1 u b.length (bv b)
section
variable {w w' : World} {B B' : Nat} {v : Value} {ls : List (List UInt8)} {r : Option Nat} {t : TypeId}
theorem ScanOwn.below (h : ScanOwn w B v ls) (hb : Below w.heap.size w w') : ScanOwn w' B v ls := by
  obtain ⟨vs, h1, h2⟩ := h
  exact ⟨vs, own_below h1 hb, fun i b hi => by obtain ⟨u, hu, ho⟩ := h2 i b hi; exact ⟨u, hu, own_below ho hb⟩⟩
theorem ScanOwn.kept (h : ScanOwn w B v ls) (hg : w.grownBy w' r) (hr : RowT w r t) (h1 : 22 ≠ t) (h2 : 5 ≠ t) : ScanOwn w' B v ls := by
  obtain ⟨vs, e1, e2⟩ := h
  exact ⟨vs, own_kept e1 hg hr h1, fun i b hi => by obtain ⟨u, hu, ho⟩ := e2 i b hi; exact ⟨u, hu, own_kept ho hg hr h2⟩⟩
theorem ScanOwn.rd (h : ScanOwn w B v ls) : ∃ A c, v = .slice A ls.length c ∧ RdBB w w.heap.size A ls.length c ls := by
  obtain ⟨vs, h1, h2⟩ := h
  obtain ⟨A, c, rfl, hr⟩ := own_rd h1
  refine ⟨A, c, rfl, rfl, vs, hr, fun i l hi => ?_⟩
  obtain ⟨u, hu, ho⟩ := h2 i l hi
  obtain ⟨A', c', rfl, hr'⟩ := own_rdB ho
  exact ⟨A', c', hu, hr'⟩
end
end Go.Proofs.Ytfacdoemgalodaa
