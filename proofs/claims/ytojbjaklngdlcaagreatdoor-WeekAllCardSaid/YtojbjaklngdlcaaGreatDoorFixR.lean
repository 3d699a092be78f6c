/-
  A region that draws its order, whose movers touch nothing that lay when it began, but one block r: its plain operations first (none reads r), then the movers in whatever order, by a tree.
-/
import Derived.Test.YtojbjaklngdlcaaGreatDoorLotA
namespace Go.Proofs.YtojbjaklngdlcaaGreatDoor
open Go.RowKit
set_option linter.unusedSimpArgs false
set_option linter.unusedVariables false
/-- All that lay in w lies so in W, but for the block r. -/
def KeepR (r : Option Nat) (w W : World) : Prop := w.heap.size ≤ W.heap.size ∧ ∀ b, b < w.heap.size → some b ≠ r → W.heap[b]? = w.heap[b]?
structure ExtR (r : Option Nat) (w : World) where
  val : World
  ok : KeepR r w val
section
variable {r : Option Nat} {w W W' : World}
theorem KeepR.refl (r : Option Nat) (w : World) : KeepR r w w := ⟨Nat.le_refl _, fun _ _ _ => rfl⟩
instance (r : Option Nat) (w : World) : Nonempty (ExtR r w) := ⟨⟨w, KeepR.refl r w⟩⟩
theorem KeepR.below (h : KeepR r w W) (hb : Below W.heap.size W W') : KeepR r w W' := ⟨Nat.le_trans h.1 hb.size, fun b hb1 hb2 => (hb.block b (Nat.lt_of_lt_of_le hb1 h.1)).trans (h.2 b hb1 hb2)⟩
theorem KeepR.grown {q : Option Nat} (h : KeepR r w W) (hg : W.grownBy W' q) (hq : ∀ g, q = some g → w.heap.size ≤ g ∨ some g = r) : KeepR r w W' := by
  refine ⟨Nat.le_trans h.1 hg.size, fun b hb1 hb2 => (hg.block b (Nat.lt_of_lt_of_le hb1 h.1) (fun e => ?_)).trans (h.2 b hb1 hb2)⟩
  rcases hq b e.symm with h1 | h1
  · omega
  · exact hb2 h1
theorem KeepR.set (h : KeepR r w W) {p : Addr} {v : Value} (hp : w.heap.size ≤ p.block) : KeepR r w (W.setCell p v) := by
  refine ⟨by simpa using h.1, fun b hb1 hb2 => (heap_setCell_other W p b v (fun e => ?_)).trans (h.2 b hb1 hb2)⟩
  omega
theorem KeepR.drew (h : KeepR r w.drew W) : KeepR r w W := h
theorem ExtR.blk (x : ExtR r w) {b : Nat} {o : Obj} (h : w.heap[b]? = some o) (hr : some b ≠ r) : x.val.heap[b]? = some o := (x.ok.2 b (Array.getElem?_eq_some_iff.1 h).1 hr).trans h
end
section
variable {P : Program} {Q : Exit → Act → World → Prop} {md : Region.Mode}
theorem held_takesR {r : Option Nat} {l : List Oper} {w : World} {fuel : Nat} (hs : Region.noSelect l.toArray = true) (hQ : ∀ c a d v w, Q (.panic c) (Act.put a d v) w → Q (.panic c) a w) :
    ∀ (is : List Nat) (listed : Array Bool) (a : Act), takesB md l.toArray is listed = true →
      wpQuiet P l.toArray (fun w' => ∃ x : ExtR r w, w' = x.val) (fun a' => wpAnyH P md l.toArray Q (KeepR r w) fuel (setAll is listed) a' w) (pick l is) a →
      wpAnyH P md l.toArray Q (KeepR r w) (fuel + is.length) listed a w
  | [], _, _, _, h => h
  | i :: is, listed, a, hB, h => by
    simp only [takesB, Bool.and_eq_true] at hB
    obtain ⟨⟨⟨hr, hf⟩, hp⟩, hB'⟩ := hB
    obtain ⟨o, ho, hpo⟩ : ∃ o, l.toArray[i]? = some o ∧ plainOp o = true := by
      cases hoi : l.toArray[i]? with
      | none => rw [hoi] at hp; simp at hp
      | some o => rw [hoi] at hp; exact ⟨o, rfl, by simpa using hp⟩
    have he : pick l (i :: is) = o :: pick l is := by simp only [pick, List.map_cons, getD_of ho]
    rw [he] at h
    have hC : ∀ {w' : World}, KeepR r w w' → ∃ x : ExtR r w, w' = x.val := fun {w'} hb => ⟨⟨w', hb⟩, rfl⟩
    simp only [wpQuiet] at h
    show wpAnyH P md l.toArray Q (KeepR r w) ((fuel + is.length) + 1) listed a w
    by_cases hw : Region.wanted o (yielded l.toArray a.tmps) = true
    · simp only [hw, if_true] at h
      obtain ⟨v, h1, h2⟩ := h
      refine wpAnyH_take ho hs hf hr (fun c a w h => hQ c a _ _ w h) (.inl ⟨hw, fun w' hw' => ?_⟩) (KeepR.refl _ _) (held_takesR hs hQ is _ _ hB' h2)
      have h3 := h1 w' (hC hw')
      unfold Oper.quietAt at h3
      cases hrun : (execOp a.eval o).run P w' with
      | ok n w1 =>
        obtain ⟨x, rfl⟩ := plain_val hpo hrun
        rw [hrun] at h3
        obtain ⟨e1, e2⟩ := h3
        rw [e1, e2]
      | halt x w1 => rw [hrun] at h3; exact h3.elim
    · simp only [hw] at h
      exact wpAnyH_take ho hs hf hr (fun c a w h => hQ c a _ _ w h) (.inr ⟨by simpa using hw, rfl⟩) (KeepR.refl _ _) (held_takesR hs hQ is _ _ hB' h)
/-- A mover, and what comes behind it. -/
def movNextR (P : Program) (ops : Array Oper) (Q : Exit → Act → World → Prop) (r : Option Nat) (w0 : World) (next : Act → World → Prop) (w : World) (a : Act) (o : Oper) : Prop :=
  if Region.wanted o (yielded ops a.tmps) = true then o.wp P a w (fun a'' w'' => KeepR r w0 w'' ∧ next a'' w'') Q else next (a.put o.dst undef) w
def wpFixR (P : Program) (l : List Oper) (Q : Exit → Act → World → Prop) (r : Option Nat) (w0 : World) : PT → Act → World → Prop
  | .fin _, a, w => Q .normal a w
  | .sto _, _, _ => False
  | .one _ i n, a, w => movNextR P l.toArray Q r w0 (wpFixR P l Q r w0 n) w a (l.getD i default)
  | .two _ i n j n', a, w => movNextR P l.toArray Q r w0 (wpFixR P l Q r w0 n) w a (l.getD i default) ∧ movNextR P l.toArray Q r w0 (wpFixR P l Q r w0 n') w a (l.getD j default)
  | .three _ _ _ _ _ _ _, _, _ => False
def fixRB (md : Region.Mode) (ops : Array Oper) : PT → Array Bool → Bool
  | .fin _, listed => (Region.ready md ops listed).isEmpty
  | .sto _, _ => false
  | .one _ i n, listed => (Region.ready md ops listed == [i]) && (ops[i]?).isSome && fixRB md ops n (listed.setIfInBounds i true)
  | .two _ i n j n', listed => (n.movers == n'.movers) && (Region.ready md ops listed == [i, j]) && (ops[i]?).isSome && (ops[j]?).isSome && fixRB md ops n (listed.setIfInBounds i true) && fixRB md ops n' (listed.setIfInBounds j true)
  | .three _ _ _ _ _ _ _, _ => false
theorem held_moverR {r : Option Nat} {l : List Oper} {i : Nat} {o : Oper} {listed : Array Bool} {fuel : Nat} {a : Act} {w w0 : World} {next : Act → World → Prop} (ho : l.toArray[i]? = some o) (hw0 : KeepR r w0 w)
    (hgo : ∀ a'' w'', KeepR r w0 w'' → next a'' w'' → wpAnyH P md l.toArray Q (KeepR r w0) fuel (listed.setIfInBounds i true) a'' w'')
    (h : movNextR P l.toArray Q r w0 next w a (l.getD i default)) :
    wpOp P l.toArray Q i (fun a' w' => KeepR r w0 w' ∧ wpAnyH P md l.toArray Q (KeepR r w0) fuel (listed.setIfInBounds i true) a' w') a w := by
  simp only [getD_of ho, movNextR] at h
  unfold wpOp
  simp only [ho]
  split
  · rename_i hw
    simp only [hw, if_true] at h
    exact .inl (Oper.wp_mono (fun a'' w'' ⟨hb, hk⟩ => ⟨hb, hgo _ _ hb hk⟩) h)
  · rename_i hw
    simp only [hw] at h
    exact ⟨hw0, hgo _ _ hw0 h⟩
theorem held_fixR {r : Option Nat} {l : List Oper} {w0 : World} : ∀ (t : PT) (listed : Array Bool) (a : Act) (w : World), KeepR r w0 w → fixRB md l.toArray t listed = true → wpFixR P l Q r w0 t a w →
    wpAnyH P md l.toArray Q (KeepR r w0) t.movers listed a w
  | .fin _, _, _, _, _, hB, h => wpAnyH_done (by simpa [fixRB] using hB) h _
  | .sto _, _, _, _, _, hB, h => by simp [fixRB] at hB
  | .one _ i n, listed, a, w, hw, hB, h => by
    simp only [fixRB, Bool.and_eq_true] at hB
    obtain ⟨⟨h2, h3⟩, h4⟩ := hB
    obtain ⟨o, ho⟩ := Option.isSome_iff_exists.1 h3
    refine wpAnyH_all (rs := [i]) (by simpa using h2) (by simp) fun j hj => ?_
    obtain rfl : j = i := by simpa using hj
    exact held_moverR ho hw (fun a'' w'' hb hk => held_fixR n _ _ _ hb h4 hk) h
  | .two _ i n j n', listed, a, w, hw, hB, h => by
    simp only [fixRB, Bool.and_eq_true] at hB
    obtain ⟨⟨⟨⟨⟨hz, h2⟩, h3⟩, h3'⟩, h4⟩, h4'⟩ := hB
    have hz : n.movers = n'.movers := by simpa using hz
    obtain ⟨o, ho⟩ := Option.isSome_iff_exists.1 h3
    obtain ⟨o', ho'⟩ := Option.isSome_iff_exists.1 h3'
    refine wpAnyH_all (rs := [i, j]) (by simpa using h2) (by simp) fun q hq => ?_
    rcases List.mem_cons.1 hq with rfl | hq
    · exact held_moverR ho hw (fun a'' w'' hb hk => held_fixR n _ _ _ hb h4 hk) h.1
    · obtain rfl : q = j := by simpa using hq
      exact held_moverR ho' hw (fun a'' w'' hb hk => hz ▸ held_fixR n' _ _ _ hb h4' hk) h.2
  | .three _ _ _ _ _ _ _, _, _, _, _, hB, h => by simp [fixRB] at hB
def fixROk (l : List Oper) (is : List Nat) (t : PT) : Bool :=
  Region.noSelect l.toArray && takesB .any l.toArray is (Array.replicate l.length false) && fixRB .any l.toArray t (setAll is (Array.replicate l.length false)) && (t.movers + is.length == l.length)
theorem wp_region_fixR {l : List Oper} {id : Nat} {a : Act} {w : World} (r : Option Nat) (is : List Nat) (t : PT) (hm : P.follows .mixedOrders = true) (hB : fixROk l is t = true)
    (h : ∀ w' : World, w'.heap.size = w.heap.size → Below w.heap.size w w' → wpQuiet P l.toArray (fun x => ∃ y : ExtR r w', x = y.val) (fun a' => wpFixR P l (NormalOnly Q) r w' t a' w') (pick l is) a) : (Code.region id l.toArray true).wp P Q a w := by
  simp only [fixROk, Bool.and_eq_true] at hB
  obtain ⟨⟨⟨h1, h2⟩, h4⟩, h3⟩ := hB
  have h3 : t.movers + is.length = l.length := by simpa using h3
  refine Code.wp_mono (Q := NormalOnly Q) (fun e a w h => ?_) ?_
  · cases e <;> first | exact h | exact h.elim
  refine wp_region_held (S := KeepR r w.drew) hm ?_
  have := held_takesR (P := P) (Q := NormalOnly Q) (md := .any) (r := r) (w := w.drew) (fuel := t.movers) h1 (fun _ _ _ _ _ h => h) is (Array.replicate l.length false) a h2
    (mono_quiet (fun a' h' => held_fixR t _ _ _ (KeepR.refl _ _) h4 h') (h w.drew rfl ((Below.refl _ _).drew)))
  rw [h3] at this
  simpa using this
theorem movR_call {ops : Array Oper} {r : Option Nat} {w0 : World} {o : Oper} {next : Act → World → Prop} {a : Act} {w : World} (hw : Region.wanted o (yielded ops a.tmps) = true)
    (h : ∀ K : Act → World → Prop, Hid (∀ a' w', KeepR r w0 w' → next a' w' → K a' w') → o.wp P a w K Q) : movNextR P ops Q r w0 next w a o := by
  simp only [movNextR]; rw [if_pos hw]; exact h _ (Lib.hid fun _ _ h1 h2 => ⟨h1, h2⟩)
theorem fixR_fin {l : List Oper} {r : Option Nat} {w0 : World} {is : List Nat} {a : Act} {w : World} (h : Q .normal a w) : wpFixR P l (NormalOnly Q) r w0 (.fin is) a w := h
end
end Go.Proofs.YtojbjaklngdlcaaGreatDoor
