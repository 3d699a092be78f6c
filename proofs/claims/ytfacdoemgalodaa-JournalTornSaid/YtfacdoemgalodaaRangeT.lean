/-
  A range over a function whose rounds never stop it, at the wide fence: the iterator may read its own cells behind every yield.
-/
import Derived.Test.YtfacdoemgalodaaRange
namespace Go.Proofs.Ytfacdoemgalodaa
set_option linter.unusedVariables false
open Go.RowKit

/-- An iterator value (function g, captured lb), from the world w on: it calls yield m times, the i-th time with args that 'Y i' describes in the world of that call; yield always answers true. 'St': what its own steps do to the world. 'Kp': what a round must keep for it. -/
def IterT (P : Program) (g : Nat) (lb : Array Value) (St Kp : World → World → Prop) (m : Nat) (Y : Nat → Array Value → World → Prop) (w : World) : Prop :=
  ∀ (l : Nat) (J : Nat → World → Prop) (W : World), Kp w W →
    (∀ i A B, J i A → St A B → J i B) →
    (∀ i args W1, i < m → J i W1 → Y i args W1 → YieldAt Fence.wide 1 P l args W1 fun e W' => e = .returned (.bool true) ∧ J (i + 1) W' ∧ Kp W1 W') →
    J 0 W →
    CallsIn Fence.wide 2 P g (#[.func (.yield l) #[] #[]] ++ lb) W fun e W' => (∃ v, e = .returned v) ∧ J m W'

/-- How a round's body may be left. -/
def rangeRoundT (B : Nat) (Kp : World → World → Prop) (I : Nat → World → Prop) (i : Nat) (W : World) : Exit → Act → World → Prop
  | .normal, _, W' => KeepsFrom B W W' ∧ Kp W W' ∧ I i W'
  | _, _, _ => False

theorem wpIn_rangeT {P : Program} {g : Operand} {ps : Array Tmp} {assign body : Code} {Q : Exit → Act → World → Prop} {a : Act} {w : World}
    {gf : Nat} {lb : Array Value} (hg : a.eval g = .func (.func gf) #[] lb) (eg : ∀ args w, (callFunc gf args).run P w = .ok (.enter gf args) w)
    {St Kp : World → World → Prop} {m : Nat} {Y : Nat → Array Value → World → Prop} (hseq : IterT P gf lb St Kp m Y w)
    (hSa : ∀ A o, St A (A.alloc o)) (hSn : ∀ A B k o, St A B → w.heap.size ≤ k → A.heap[k]? = some o → o.isCells = false → B.heap[k]? = some o)
    (hKa : ∀ A o, w.heap.size ≤ A.heap.size → Kp A (A.alloc o)) (hKt : ∀ A B C, Kp A B → Kp B C → Kp A C) (hKb : ∀ A r o o', w.heap.size ≤ r → A.heap[r]? = some o → o.isCells = false → Kp A (A.putObj r o'))
    (hYb : ∀ i args, Puts w.heap.size (Y i args)) (hps : ∀ i args W, Y i args W → args.size = ps.size)
    (I : Nat → World → Prop) (hI : ∀ i A B, I i A → St A B → I i B) (hIb : ∀ i, Puts w.heap.size (I i)) (h0 : I 0 w) (a₁ : Array Value → Act)
    (hassign : ∀ (l i : Nat) (args : Array Value) (W : World) (K : Act → World → Prop), Y i args W → K (a₁ args) W →
      assign.wpIn (Fence.wide.inRound l) 1 P (Exit.then K (fun _ _ _ => False)) { tmps := (ps.zip args).foldl (fun t (p, v) => t.setIfInBounds p v) a.tmps, defers := [] } W)
    (hbody : ∀ (l i : Nat) (args : Array Value) (W : World), i < m → I i W → Y i args W → body.wpIn (Fence.wide.inRound l) 1 P (rangeRoundT w.heap.size Kp I (i + 1) W) (a₁ args) W)
    (hdone : ∀ W, I m W → W.heap[w.heap.size]? = some (.deferred (some [])) → Q .normal { a with defers := { target := .collected w.heap.size, args := #[] } :: a.defers } W) :
    (Code.rangeFunc g ps assign body).wpIn Fence.wide 3 P Q a w := by
  refine wpIn_rangeFunc ?_
  intro fn hfn
  obtain ⟨rec, hrec⟩ : ∃ rec : LoopState → Option Code → Loop, rec = fun st pe => { state := st, pending := pe, fn, tmps := a.tmps, params := ps, assign, body, defers := w.heap.size } := ⟨_, rfl⟩
  obtain ⟨W1, hW1⟩ : ∃ W1, (w.alloc (.deferred (some []))).alloc (.loop (rec .ready none)) = W1 := ⟨_, rfl⟩
  have hL1 : W1.heap[w.heap.size + 1]? = some (.loop (rec .ready none)) := by
    rw [← hW1]; have := World.alloc_heap_new (w.alloc (.deferred (some []))) (.loop (rec .ready none)); rwa [World.size_alloc] at this
  have hK1 : W1.heap[w.heap.size]? = some (.deferred (some [])) := by
    rw [← hW1]; exact (Below.heap_alloc _ _ _ (by simp)).trans (World.alloc_heap_new w _)
  have hI1 : I 0 W1 := by rw [← hW1]; exact hI _ _ _ (hI _ _ _ h0 (hSa _ _)) (hSa _ _)
  have hk1 : Kp w W1 := by rw [← hW1]; exact hKt _ _ _ (hKa _ _ (Nat.le_refl _)) (hKa _ _ (by simp))
  refine ⟨w.heap.size + 1, [{ target := .collected w.heap.size, args := #[] }], W1, { target := .fn (.func gf) lb, args := #[.func (.yield (w.heap.size + 1)) #[] #[]] }, W1, gf,
    #[.func (.yield (w.heap.size + 1)) #[] #[]] ++ lb, W1, ?_, ?_, fun _ _ => trivial, ?_, fun h => by simp [Fence.wide] at h, ?_⟩
  · rw [← hW1, hrec]; exact run_enterLoop_outer _ _ _ _ _
  · simp only [resolve, hg]
    simp [go_sem]
  · simp [invoke, go_sem, eg]
  · refine CallsIn.mono (hseq (w.heap.size + 1)
      (fun i W => I i W ∧ W.heap[w.heap.size + 1]? = some (.loop (rec .ready none)) ∧ W.heap[w.heap.size]? = some (.deferred (some [])))
      W1 hk1
      (fun i A B hs hst => ⟨hI i A B hs.1 hst, hSn A B _ _ hst (by omega) hs.2.1 rfl, hSn A B _ _ hst (Nat.le_refl _) hs.2.2 rfl⟩)
      ?_ ⟨hI1, hL1, hK1⟩) ?_
    · rintro i args W him ⟨hi, hl, hk⟩ hY
      have hlt : w.heap.size + 1 < W.heap.size := (Array.getElem?_eq_some_iff.1 hl).1
      have hy := run_yield (P := P) (args := args) hl (by rw [hrec]; exact hps i args W hY)
      rw [hrec] at hy
      refine ⟨fn, _, assign, body, hy, roundIn_of_wpIn hfn (hassign _ i args W _ hY ⟨_, run_beginRound hl (by rw [hrec]), ?_⟩)⟩
      have hl2 : (W.putObj (w.heap.size + 1) (.loop { rec .ready none with state := .busy })).heap[w.heap.size + 1]? = some (.loop { rec .ready none with state := .busy }) := World.putObj_heap_same hlt
      have hk2 : (W.putObj (w.heap.size + 1) (.loop { rec .ready none with state := .busy })).heap[w.heap.size]? = some (.deferred (some [])) := (World.putObj_heap_other (by omega)).trans hk
      have hw2 : Kp W (W.putObj (w.heap.size + 1) (.loop { rec .ready none with state := .busy })) := hKb _ _ _ _ (by omega) hl rfl
      refine wpIn_mono (hbody _ i args _ him (hIb i _ _ _ _ hi (by omega) hl rfl) (hYb i args _ _ _ _ hY (by omega) hl rfl)) ?_
      have fin : ∀ (jump : Option Code) (W3 : World), KeepsFrom w.heap.size (W.putObj (w.heap.size + 1) (.loop { rec .ready none with state := .busy })) W3 →
          (Instr.endRound (w.heap.size + 1) jump).run P W3 = .ok (.bool jump.isNone) (W3.putObj (w.heap.size + 1) (.loop (rec (if jump.isNone then .ready else .done) jump))) ∧
          W3.heap[w.heap.size + 1]? = some (.loop { rec .ready none with state := .busy }) ∧
          (W3.putObj (w.heap.size + 1) (.loop (rec (if jump.isNone then .ready else .done) jump))).heap[w.heap.size + 1]? = some (.loop (rec (if jump.isNone then .ready else .done) jump)) ∧
          (W3.putObj (w.heap.size + 1) (.loop (rec (if jump.isNone then .ready else .done) jump))).heap[w.heap.size]? = some (.deferred (some [])) := fun jump W3 hk3 => by
        have hl3 := hk3.same _ _ (by omega) hl2 rfl
        have := run_endRound (P := P) jump hl3
        rw [hrec] at this ⊢
        exact ⟨this, by rw [hrec] at hl3; exact hl3, World.putObj_heap_same (Array.getElem?_eq_some_iff.1 hl3).1, (World.putObj_heap_other (by omega)).trans (hk3.same _ _ (Nat.le_refl _) hk2 rfl)⟩
      rintro e a3 W3 hp
      cases e with
      | normal =>
        obtain ⟨hk3, hkp3, hi3⟩ := hp
        obtain ⟨hr, hl3, hl4, hk4⟩ := fin none W3 hk3
        exact ⟨_, _, hr, rfl, ⟨hIb _ _ _ _ _ hi3 (by omega) hl3 rfl, hl4, hk4⟩, hKt _ _ _ (hKt _ _ _ hw2 hkp3) (hKb _ _ _ _ (by omega) hl3 rfl)⟩
      | ret => exact hp.elim
      | exit id => exact hp.elim
      | goto t => exact hp.elim
      | panic ch => exact hp.elim
      | outgrown => exact hp.elim
    · rintro e W2 ⟨⟨v, rfl⟩, hi, hl, hk⟩
      exact ⟨none, _, by have := run_endLoop (P := P) hl (by rw [hrec]; simp); rw [hrec] at this; exact this, hdone _ (hIb _ _ _ _ _ hi (by omega) hl rfl) ((World.putObj_heap_other (by omega)).trans hk)⟩
end Go.Proofs.Ytfacdoemgalodaa
