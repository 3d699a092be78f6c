/-
  A region that draws its order, makes memory by calls and then stores into memory that was there: one walk by a plan of two stages. Up to the first store k: stretches of plain operations (which either wait ahead of k, or read no memory), and one mover at a time. From k on: plain operations that read no memory, and one mover at a time.
-/
import Derived.Test.YtfacdoemgalodaaGrow
namespace Go.Proofs.Ytfacdoemgalodaa
open Go.RowKit
set_option linter.unusedSimpArgs false
set_option linter.unusedVariables false

/-- An operation that reads no memory. -/
def deafOp (o : Oper) : Bool :=
  match o.op with
  | .move _ | .assign _ | .pick .. | .extract .. => true
  | _ => false
/-- An operation that hands on a value and enters no function; a nil check may be one. -/
def tameOp (o : Oper) : Bool := plainOp o || match o.op with | .nilCheck .. => true | _ => false

theorem nil_val {P : Program} {ρ : Operand → Value} {dst : Option Nat} {x : Operand} {type : TypeId} {pos : String} {after : Array Edge} {guard : Option (Nat × Bool)} {w w' : World} {n : Next}
    (h : (execOp ρ ⟨dst, .nilCheck x, type, pos, after, guard⟩).run P w = .ok n w') : ∃ x, n = .value x := by
  simp only [execOp] at h
  split at h
  · simp [runtimePanic] at h
  · simp [runtimePanic] at h
  · simp [runtimePanic] at h
  · split at h
    · simp [runtimePanic] at h
    · simp only [Sem.run_bind] at h
      generalize Sem.run P program w = r at h
      cases r with
      | halt x w1 => simp [Result.andThen] at h
      | ok p w1 =>
        simp only [Result.andThen_ok] at h
        generalize Sem.run P (nilAhead _ _ _ _) w1 = r2 at h
        cases r2 with
        | halt x w2 => simp [Result.andThen] at h
        | ok p w2 =>
          simp only [Result.andThen_ok] at h
          split at h
          · simp [unsupported] at h
          · simp only [Sem.run_pure] at h; injection h with h _; exact ⟨_, h.symm⟩
    · simp only [Sem.run_pure] at h; injection h with h _; exact ⟨_, h.symm⟩
  · simp only [Sem.run_pure] at h; injection h with h _; exact ⟨_, h.symm⟩
theorem tame_val {P : Program} {ρ : Operand → Value} {o : Oper} {w w' : World} {n : Next} (hp : tameOp o = true) (h : (execOp ρ o).run P w = .ok n w') : ∃ x, n = .value x := by
  simp only [tameOp, Bool.or_eq_true] at hp
  rcases hp with hp | hp
  · exact plain_val hp h
  · obtain ⟨dst, op, type, pos, after, guard⟩ := o
    cases op <;> simp only [Bool.false_eq_true] at hp
    exact nil_val h
theorem deaf_run {P : Program} {ρ : Operand → Value} {o : Oper} {w w1 : World} {n : Next} (hp : deafOp o = true) (h : (execOp ρ o).run P w = .ok n w1) (w' : World) : (execOp ρ o).run P w' = .ok n w' := by
  obtain ⟨dst, op, type, pos, after, guard⟩ := o
  cases op <;> simp only [deafOp, Bool.false_eq_true] at hp <;> simp only [execOp] at h ⊢
  case move x => simp only [Sem.run_pure] at h ⊢; injection h with h _; rw [h]
  case assign x => simp only [Sem.run_pure] at h ⊢; injection h with h _; rw [h]
  case pick c a b =>
    cases hc : ρ c <;> rw [hc] at h <;> simp only [asBool, stuck, Sem.run_bind, Sem.run_pure, Sem.run_halt, Result.andThen_ok, Result.andThen] at h ⊢
    all_goals first | (injection h with h _; rw [h]) | cases h
  case extract t ix =>
    cases hc : ρ t <;> rw [hc] at h <;> simp only [Instr.extract, stuck, Sem.run_bind, Sem.run_pure, Sem.run_halt, Result.andThen_ok, Result.andThen] at h ⊢
    all_goals first | cases h | skip
    rename_i xs
    cases hx : xs[ix]? <;> rw [hx] at h <;> simp only [Sem.run_pure, Sem.run_halt, Result.andThen_ok, Result.andThen] at h ⊢
    · cases h
    · injection h with h _; rw [h]

section
variable {P : Program} {ops : Array Oper} {Q : Exit → Act → World → Prop} {md : Region.Mode}

/-- What has come up has all that it waited for behind it. -/
def Down (md : Region.Mode) (ops : Array Oper) (listed : Array Bool) : Prop :=
  ∀ j o, ops[j]? = some o → listed.getD j false = true → ∀ e ∈ o.after, Region.binds md e = true → listed.getD e.on false = true

theorem down_step {listed : Array Bool} (hd : Down md ops listed) {i : Nat} (hi : i ∈ Region.ready md ops listed) : Down md ops (listed.setIfInBounds i true) := by
  intro j o ho hj e he hb
  by_cases hij : i = j
  · subst hij
    obtain ⟨_, o', ho', hall⟩ := mem_ready.1 hi
    rw [ho] at ho'
    injection ho' with ho'
    subst ho'
    exact getD_set_true (hall e he hb)
  · rw [getD_set_ne false hij] at hj
    exact getD_set_true (hd j o ho hj e he hb)

/-- All that k waits for. -/
def waitsFor (md : Region.Mode) (ops : Array Oper) : List Nat → Array Bool → Array Bool
  | [], m => m
  | j :: js, m => waitsFor md ops js (if m.getD j false then (match ops[j]? with | some o => o.after.foldl (fun m e => if Region.binds md e then m.setIfInBounds e.on true else m) m | none => m) else m)
def waitsOn (md : Region.Mode) (ops : Array Oper) (k : Nat) : Array Bool := waitsFor md ops (List.range (k + 1)).reverse ((Array.replicate ops.size false).setIfInBounds k true)

theorem getD_set_iff {m : Array Bool} {i j : Nat} (h : (m.setIfInBounds i true).getD j false = true) : j = i ∨ m.getD j false = true := by
  by_cases hij : i = j
  · exact .inl hij.symm
  · rw [getD_set_ne false hij] at h; exact .inr h
theorem fold_marks {listed : Array Bool} {l : List Edge} (hl : ∀ e ∈ l, Region.binds md e = true → listed.getD e.on false = true) :
    ∀ (m : Array Bool), (∀ i, m.getD i false = true → listed.getD i false = true) →
      ∀ i, (l.foldl (fun m e => if Region.binds md e then m.setIfInBounds e.on true else m) m).getD i false = true → listed.getD i false = true := by
  induction l with
  | nil => intro m hm i hi; exact hm i hi
  | cons e r ih =>
    intro m hm i hi
    rw [List.foldl_cons] at hi
    refine ih (fun e' he' => hl e' (List.mem_cons_of_mem _ he')) _ (fun q hq => ?_) i hi
    split at hq
    · rename_i hb
      rcases getD_set_iff hq with rfl | hq
      · exact hl e (List.mem_cons_self ..) hb
      · exact hm q hq
    · exact hm q hq
theorem waitsFor_listed {listed : Array Bool} (hd : Down md ops listed) : ∀ (js : List Nat) (m : Array Bool), (∀ i, m.getD i false = true → listed.getD i false = true) →
    ∀ i, (waitsFor md ops js m).getD i false = true → listed.getD i false = true := by
  intro js
  induction js with
  | nil => intro m hm i hi; exact hm i hi
  | cons j r ih =>
    intro m hm i hi
    simp only [waitsFor] at hi
    refine ih _ (fun q hq => ?_) i hi
    split at hq
    · rename_i hj
      cases ho : ops[j]? with
      | none => rw [ho] at hq; exact hm q hq
      | some o =>
        rw [ho] at hq
        dsimp only at hq
        rw [← Array.foldl_toList] at hq
        exact fold_marks (fun e he hb => hd j o ho (hm j hj) e (by simpa using he) hb) m hm q hq
    · exact hm q hq
theorem waitsOn_listed {listed : Array Bool} (hd : Down md ops listed) {k i : Nat} (hk : listed.getD k false = true) (h : (waitsOn md ops k).getD i false = true) : listed.getD i false = true := by
  refine waitsFor_listed hd _ _ (fun q hq => ?_) i h
  rcases getD_set_iff hq with rfl | hq
  · exact hk
  · rcases Nat.lt_or_ge q ops.size with h' | h'
    · simp [h'] at hq
    · simp [h'] at hq

/-- Whatever order is picked from here on, and 'S' of what has come up and of the world holds behind every operation. -/
def wpAnyT (P : Program) (md : Region.Mode) (ops : Array Oper) (Q : Exit → Act → World → Prop) (S : Array Bool → World → Prop) : Nat → Array Bool → Act → World → Prop
  | 0, listed, a, w => Region.ready md ops listed = [] ∧ Q .normal a w
  | fuel + 1, listed, a, w =>
    (Region.ready md ops listed = [] → Q .normal a w) ∧
    ∀ i ∈ Region.ready md ops listed, wpOp P ops Q i (fun a' w' => S (listed.setIfInBounds i true) w' ∧ wpAnyT P md ops Q S fuel (listed.setIfInBounds i true) a' w') a w

variable {S S' : Array Bool → World → Prop}
theorem wpAny_of_T : ∀ (fuel : Nat) (listed : Array Bool) (a : Act) (w : World), wpAnyT P md ops Q S fuel listed a w → wpAny P md ops Q fuel listed a w
  | 0, _, _, _, h => h
  | fuel + 1, _, _, _, h => ⟨h.1, fun i hi => wpOp_mono (fun a' w' h' => wpAny_of_T fuel _ a' w' h'.2) (h.2 i hi)⟩
theorem T_imp (R : Array Bool → Prop) (hR : ∀ listed i, R listed → R (listed.setIfInBounds i true)) (hS : ∀ listed w, R listed → S' listed w → S listed w) :
    ∀ (fuel : Nat) (listed : Array Bool) (a : Act) (w : World), R listed → wpAnyT P md ops Q S' fuel listed a w → wpAnyT P md ops Q S fuel listed a w
  | 0, _, _, _, _, h => h
  | fuel + 1, listed, _, _, hr, h => ⟨h.1, fun i hi => wpOp_mono (fun a' w' h' => ⟨hS _ _ (hR _ _ hr) h'.1, T_imp R hR hS fuel _ a' w' (hR _ _ hr) h'.2⟩) (h.2 i hi)⟩

/-- In state 'a', wherever i has not come up and S holds, 'o' leaves 'v' in its temporary and does nothing else. -/
def YieldsT (P : Program) (md : Region.Mode) (ops : Array Oper) (S : Array Bool → World → Prop) (i : Nat) (o : Oper) (v : Value) (a : Act) : Prop :=
  (Region.wanted o (yielded ops a.tmps) = true ∧ ∀ listed w, Down md ops listed → listed.getD i true = false → S listed w → (execOp a.eval o).run P w = .ok (.value v) w) ∨
  (Region.wanted o (yielded ops a.tmps) = false ∧ v = undef)

theorem wpAnyT_first {i : Nat} {oi : Oper} {v : Value} (hi : ops[i]? = some oi) (hsel : ∀ (j : Nat) (o : Oper) cs b, ops[j]? = some o → o.op ≠ .select cs b)
    (hQ : ∀ c a w, Q (.panic c) (a.put oi.dst v) w → Q (.panic c) a w) :
    ∀ (fuel : Nat) (listed : Array Bool) (a : Act) (w : World), Down md ops listed →
      (∀ j oj, ops[j]? = some oj → j ≠ i → listed.getD j true = false → (∀ e ∈ oj.after, Region.binds md e = true → e.on ≠ i) → oi.apart ops oj = true) →
      i ∈ Region.ready md ops listed → YieldsT P md ops S i oi v a → S listed w → (∀ listed w, S (listed.setIfInBounds i true) w ↔ S listed w) →
      wpAnyT P md ops Q S fuel (listed.setIfInBounds i true) (a.put oi.dst v) w → wpAnyT P md ops Q S (fuel + 1) listed a w := by
  intro fuel
  have key : ∀ {listed : Array Bool} {a : Act} {w : World}, Down md ops listed → i ∈ Region.ready md ops listed → YieldsT P md ops S i oi v a → S listed w →
      YieldsIf P ops (fun w' => w' = w) oi v a := fun {listed a w} hd hr hy hS => by
    rcases hy with ⟨hw, hv⟩ | h
    · exact .inl ⟨hw, fun w' hw' => by subst hw'; exact hv listed _ hd (mem_ready.1 hr).1 hS⟩
    · exact .inr h
  induction fuel with
  | zero =>
    intro listed a w hd _ hr hy hS hSm H
    refine ⟨fun h => (by rw [h] at hr; cases hr), fun j hj => ?_⟩
    by_cases hji : j = i
    · subst hji; exact (key hd hr hy hS).wpOp hi rfl ⟨(hSm _ _).2 hS, H⟩
    · have := ready_mono hj hji
      rw [H.1] at this
      cases this
  | succ fuel ih =>
    intro listed a w hd hfree hr hy hS hSm H
    refine ⟨fun h => (by rw [h] at hr; cases hr), fun j hj => ?_⟩
    by_cases hji : j = i
    · subst hji; exact (key hd hr hy hS).wpOp hi rfl ⟨(hSm _ _).2 hS, H⟩
    · have h1 := H.2 j (ready_mono hj hji)
      obtain ⟨hjun, oj, hoj, hall⟩ := mem_ready.1 hj
      have hnot : ∀ e ∈ oj.after, Region.binds md e = true → e.on ≠ i := fun e he hb heq => by
        have h1 := hall e he hb
        have h0 := (mem_ready.1 hr).1
        rw [heq] at h1
        rcases Nat.lt_or_ge i listed.size with h' | h'
        · simp [h'] at h0 h1; rw [h0] at h1; cases h1
        · simp [Array.getElem?_eq_none h'] at h1
      have hap := hfree j oj hoj hji hjun hnot
      obtain ⟨_, _, h3⟩ := Oper.apart_spec hap
      have hyU : YieldsIf P ops (fun w' => ∃ listed, Down md ops listed ∧ listed.getD i true = false ∧ S listed w') oi v a := by
        rcases hy with ⟨hw, hv⟩ | h
        · exact .inl ⟨hw, fun w' ⟨l', h1, h2, h3⟩ => hv l' w' h1 h2 h3⟩
        · exact .inr h
      have h2 := wpOp_putIf hoj hap (fun cs b => hsel i oi cs b hi) (fun cs b => hsel j oj cs b hoj) hQ hyU h1
      have hfree' : ∀ k ok, ops[k]? = some ok → k ≠ i → (listed.setIfInBounds j true).getD k true = false →
          (∀ e ∈ ok.after, Region.binds md e = true → e.on ≠ i) → oi.apart ops ok = true := fun k ok hk hki hun hno => by
        refine hfree k ok hk hki ?_ hno
        by_cases hjk : j = k
        · subst hjk; exact hjun
        · rw [getD_set_ne true hjk] at hun; exact hun
      refine wpOp_mono (fun a' w' h3 => ?_) h2
      obtain ⟨hy', hS', hrest⟩ := h3
      have hcomm : (listed.setIfInBounds i true).setIfInBounds j true = (listed.setIfInBounds j true).setIfInBounds i true := Array.setIfInBounds_comm _ _ (Ne.symm hji)
      rw [hcomm] at hS' hrest
      have hS2 := (hSm _ _).1 hS'
      refine ⟨hS2, ih (listed.setIfInBounds j true) a' w' (down_step hd hj) hfree' (ready_mono hr (Ne.symm hji)) ?_ hS2 hSm hrest⟩
      rcases hy' with ⟨hw, hv⟩ | h
      · exact .inl ⟨hw, fun l w h1 h2 h3 => hv w ⟨l, h1, h2, h3⟩⟩
      · exact .inr h

/-- Whatever world. -/
structure AnyW where
  val : World
instance : Nonempty AnyW := ⟨⟨default⟩⟩

/-- Ahead of the store k: all is as it was below the world's size. -/
def Ahead (k : Nat) (w : World) (listed : Array Bool) (w' : World) : Prop := listed.getD k false = false → Below w.heap.size w w'

def takes1B (md : Region.Mode) (ops : Array Oper) (k : Nat) (wk : Array Bool) : List Nat → Array Bool → Bool
  | [], _ => true
  | i :: is, listed => (Region.ready md ops listed).contains i && Region.free md ops listed i && ((ops[i]?).map fun o => tameOp o && (wk.getD i false || deafOp o)).getD false && (i != k) && takes1B md ops k wk is (listed.setIfInBounds i true)
def takes2B (md : Region.Mode) (ops : Array Oper) : List Nat → Array Bool → Bool
  | [], _ => true
  | i :: is, listed => (Region.ready md ops listed).contains i && Region.free md ops listed i && ((ops[i]?).map tameOp).getD false && takes2B md ops is (listed.setIfInBounds i true)

theorem getD_tf {l : Array Bool} {i : Nat} (h : l.getD i true = false) : l.getD i false = false := by
  rcases Nat.lt_or_ge i l.size with h' | h'
  · simp [h'] at h ⊢; exact h
  · simp [h']

theorem T_takes1 {l : List Oper} {w : World} {fuel k : Nat} (hs : Region.noSelect l.toArray = true) (hQ : ∀ c a d v w, Q (.panic c) (Act.put a d v) w → Q (.panic c) a w) :
    ∀ (is : List Nat) (listed : Array Bool) (a : Act), Down md l.toArray listed → takes1B md l.toArray k (waitsOn md l.toArray k) is listed = true →
      wpQuiet P l.toArray (fun w' => ∃ x : Ext w.heap.size w, w' = x.val) (fun a' => wpAnyT P md l.toArray Q (Ahead k w) fuel (setAll is listed) a' w) (pick l is) a →
      wpAnyT P md l.toArray Q (Ahead k w) (fuel + is.length) listed a w
  | [], _, _, _, _, h => h
  | i :: is, listed, a, hd, hB, h => by
    simp only [takes1B, Bool.and_eq_true] at hB
    obtain ⟨⟨⟨⟨hr, hf⟩, hp⟩, hik⟩, hB'⟩ := hB
    have hik : i ≠ k := by simpa using hik
    have hr' : i ∈ Region.ready md l.toArray listed := by simpa using hr
    obtain ⟨o, ho, hpo, hwk⟩ : ∃ o, l.toArray[i]? = some o ∧ tameOp o = true ∧ ((waitsOn md l.toArray k).getD i false = true ∨ deafOp o = true) := by
      cases hoi : l.toArray[i]? with
      | none => rw [hoi] at hp; simp at hp
      | some o =>
        rw [hoi] at hp
        simp only [Option.map_some, Option.getD_some, Bool.and_eq_true, Bool.or_eq_true] at hp
        exact ⟨o, rfl, hp⟩
    have he : pick l (i :: is) = o :: pick l is := by simp only [pick, List.map_cons, getD_of ho]
    rw [he] at h
    have hC : ∀ {w' : World}, Below w.heap.size w w' → ∃ x : Ext w.heap.size w, w' = x.val := fun {w'} hb => ⟨⟨w', hb⟩, rfl⟩
    have hS0 : Ahead k w listed w := fun _ => Below.refl _ _
    have hSm : ∀ (L : Array Bool) (W : World), Ahead k w (L.setIfInBounds i true) W ↔ Ahead k w L W := fun L W => by
      unfold Ahead; rw [getD_set_ne false (Ne.symm hik ∘ Eq.symm)]
    simp only [wpQuiet] at h
    show wpAnyT P md l.toArray Q (Ahead k w) ((fuel + is.length) + 1) listed a w
    by_cases hw : Region.wanted o (yielded l.toArray a.tmps) = true
    · simp only [hw, if_true] at h
      obtain ⟨v, h1, h2⟩ := h
      have hat : ∀ w', Below w.heap.size w w' → (execOp a.eval o).run P w' = .ok (.value v) w' := fun w' hw' => by
        have h3 := h1 w' (hC hw')
        unfold Oper.quietAt at h3
        cases hrun : (execOp a.eval o).run P w' with
        | ok n w1 =>
          obtain ⟨x, rfl⟩ := tame_val hpo hrun
          rw [hrun] at h3
          obtain ⟨e1, e2⟩ := h3
          rw [e1, e2]
        | halt x w1 => rw [hrun] at h3; exact h3.elim
      refine wpAnyT_first ho (Region.noSelect_spec hs) (fun c a w h => hQ c a _ _ w h) _ listed a w hd (Region.free_spec ho hf) hr' (.inl ⟨hw, fun L W hD hi hS => ?_⟩) hS0 hSm (T_takes1 hs hQ is _ _ (down_step hd hr') hB' h2)
      rcases hwk with hwk | hdf
      · have : L.getD k false = false := by
          cases hc : L.getD k false with
          | false => rfl
          | true =>
            have := waitsOn_listed hD hc hwk
            rw [getD_tf hi] at this
            cases this
        exact hat W (hS this)
      · exact deaf_run hdf (hat w (Below.refl _ _)) W
    · simp only [hw] at h
      refine wpAnyT_first (v := undef) ho (Region.noSelect_spec hs) (fun c a w h => hQ c a _ _ w h) _ listed a w hd (Region.free_spec ho hf) hr' (.inr ⟨by simpa using hw, rfl⟩) hS0 hSm (T_takes1 hs hQ is _ _ (down_step hd hr') hB' h)

theorem T_takes2 {l : List Oper} {w : World} {fuel : Nat} (hs : Region.noSelect l.toArray = true) (hQ : ∀ c a d v w, Q (.panic c) (Act.put a d v) w → Q (.panic c) a w) :
    ∀ (is : List Nat) (listed : Array Bool) (a : Act), Down md l.toArray listed → takes2B md l.toArray is listed = true →
      wpQuiet P l.toArray (fun w' => ∃ x : AnyW, w' = x.val) (fun a' => wpAnyT P md l.toArray Q (fun _ _ => True) fuel (setAll is listed) a' w) (pick l is) a →
      wpAnyT P md l.toArray Q (fun _ _ => True) (fuel + is.length) listed a w
  | [], _, _, _, _, h => h
  | i :: is, listed, a, hd, hB, h => by
    simp only [takes2B, Bool.and_eq_true] at hB
    obtain ⟨⟨⟨hr, hf⟩, hp⟩, hB'⟩ := hB
    have hr' : i ∈ Region.ready md l.toArray listed := by simpa using hr
    obtain ⟨o, ho, hpo⟩ : ∃ o, l.toArray[i]? = some o ∧ tameOp o = true := by
      cases hoi : l.toArray[i]? with
      | none => rw [hoi] at hp; simp at hp
      | some o => rw [hoi] at hp; exact ⟨o, rfl, by simpa using hp⟩
    have he : pick l (i :: is) = o :: pick l is := by simp only [pick, List.map_cons, getD_of ho]
    rw [he] at h
    simp only [wpQuiet] at h
    show wpAnyT P md l.toArray Q (fun _ _ => True) ((fuel + is.length) + 1) listed a w
    by_cases hw : Region.wanted o (yielded l.toArray a.tmps) = true
    · simp only [hw, if_true] at h
      obtain ⟨v, h1, h2⟩ := h
      have hat : ∀ w', (execOp a.eval o).run P w' = .ok (.value v) w' := fun w' => by
        have h3 := h1 w' ⟨⟨w'⟩, rfl⟩
        unfold Oper.quietAt at h3
        cases hrun : (execOp a.eval o).run P w' with
        | ok n w1 =>
          obtain ⟨x, rfl⟩ := tame_val hpo hrun
          rw [hrun] at h3
          obtain ⟨e1, e2⟩ := h3
          rw [e1, e2]
        | halt x w1 => rw [hrun] at h3; exact h3.elim
      exact wpAnyT_first ho (Region.noSelect_spec hs) (fun c a w h => hQ c a _ _ w h) _ listed a w hd (Region.free_spec ho hf) hr' (.inl ⟨hw, fun L W _ _ _ => hat W⟩) trivial (fun _ _ => Iff.rfl) (T_takes2 hs hQ is _ _ (down_step hd hr') hB' h2)
    · simp only [hw] at h
      exact wpAnyT_first (v := undef) ho (Region.noSelect_spec hs) (fun c a w h => hQ c a _ _ w h) _ listed a w hd (Region.free_spec ho hf) hr' (.inr ⟨by simpa using hw, rfl⟩) trivial (fun _ _ => Iff.rfl) (T_takes2 hs hQ is _ _ (down_step hd hr') hB' h)

/-- What stands behind a stretch from the first store on: nothing, or whatever operation. -/
def lateNext (P : Program) (ops : Array Oper) (Q : Exit → Act → World → Prop) (next : Act → World → Prop) (w : World) (a : Act) : Option Oper → Prop
  | none => next a w
  | some o => if Region.wanted o (yielded ops a.tmps) = true then o.wp P a w next Q else next (a.put o.dst undef) w
def wpLate (P : Program) (ops : Array Oper) (Q : Exit → Act → World → Prop) : List (List Oper × Option Oper) → Act → World → Prop
  | [], a, w => Q .normal a w
  | (qs, m) :: rest, a, w => wpQuiet P ops (fun w' => ∃ x : AnyW, w' = x.val) (fun a' => lateNext P ops Q (wpLate P ops Q rest) w a' m) qs a
/-- The walk by a plan of two stages: late is what comes from the store on. -/
def wpStage (P : Program) (ops : Array Oper) (Q : Exit → Act → World → Prop) (late : List (List Oper × Option Oper)) : List (List Oper × Option Oper) → Act → World → Prop
  | [], a, w => wpLate P ops Q late a w
  | (qs, m) :: rest, a, w => wpQuiet P ops (fun w' => ∃ x : Ext w.heap.size w, w' = x.val) (fun a' => planNext P ops Q (wpStage P ops Q late rest) w a' m) qs a

def lateB (md : Region.Mode) (ops : Array Oper) : List (List Nat × Option Nat) → Array Bool → Bool
  | [], listed => (Region.ready md ops listed).isEmpty
  | (is, m) :: rest, listed => takes2B md ops is listed && (match m with
      | none => lateB md ops rest (setAll is listed)
      | some i => (Region.ready md ops (setAll is listed) == [i]) && (ops[i]?).isSome && lateB md ops rest ((setAll is listed).setIfInBounds i true))
def stageB (md : Region.Mode) (ops : Array Oper) (k : Nat) (wk : Array Bool) (late : List (List Nat × Option Nat)) : List (List Nat × Option Nat) → Array Bool → Bool
  | [], listed => (Region.ready md ops listed == [k]) && (ops[k]?).isSome && (listed.setIfInBounds k true).getD k false && (match late with | ([], some k') :: rest => (k' == k) && lateB md ops rest (listed.setIfInBounds k true) | _ => false)
  | (is, m) :: rest, listed => takes1B md ops k wk is listed && (match m with
      | none => stageB md ops k wk late rest (setAll is listed)
      | some i => (i != k) && (Region.ready md ops (setAll is listed) == [i]) && (ops[i]?).isSome && stageB md ops k wk late rest ((setAll is listed).setIfInBounds i true))

theorem mono_quiet {C : World → Prop} {K K' : Act → Prop} (hk : ∀ a, K a → K' a) : ∀ {qs : List Oper} {a : Act}, wpQuiet P ops C K qs a → wpQuiet P ops C K' qs a
    | [], _, h => hk _ h
    | o :: qs, a, h => by
      simp only [wpQuiet] at h ⊢
      split
      · rename_i hw; simp only [hw, if_true] at h; exact Oper.quiet_mono (fun a' h' => mono_quiet hk h') h
      · rename_i hw; simp only [hw] at h; exact mono_quiet hk h

theorem down_all {l : List Oper} {k : Nat} {wk : Array Bool} : ∀ (is : List Nat) (listed : Array Bool), Down md l.toArray listed → takes1B md l.toArray k wk is listed = true → Down md l.toArray (setAll is listed)
  | [], _, hd, _ => hd
  | i :: is, listed, hd, hB => by
    simp only [takes1B, Bool.and_eq_true] at hB
    exact down_all is _ (down_step hd (by simpa using hB.1.1.1.1)) hB.2
theorem down_all2 {l : List Oper} : ∀ (is : List Nat) (listed : Array Bool), Down md l.toArray listed → takes2B md l.toArray is listed = true → Down md l.toArray (setAll is listed)
  | [], _, hd, _ => hd
  | i :: is, listed, hd, hB => by
    simp only [takes2B, Bool.and_eq_true] at hB
    exact down_all2 is _ (down_step hd (by simpa using hB.1.1.1)) hB.2

theorem T_late {l : List Oper} (hs : Region.noSelect l.toArray = true) (hQ : ∀ c a d v w, Q (.panic c) (Act.put a d v) w → Q (.panic c) a w) :
    ∀ (plan : List (List Nat × Option Nat)) (listed : Array Bool) (a : Act) (w : World), Down md l.toArray listed → lateB md l.toArray plan listed = true → wpLate P l.toArray Q (pickP l plan) a w →
      wpAnyT P md l.toArray Q (fun _ _ => True) (planN plan) listed a w
  | [], listed, _, _, _, hB, h => ⟨by simpa [lateB] using hB, h⟩
  | (is, none) :: rest, listed, a, w, hd, hB, h => by
    simp only [lateB, Bool.and_eq_true] at hB
    exact T_takes2 hs hQ is listed a hd hB.1 (mono_quiet (fun a' h' => T_late hs hQ rest _ _ _ (down_all2 is _ hd hB.1) hB.2 h') h)
  | (is, some i) :: rest, listed, a, w, hd, hB, h => by
    simp only [lateB, Bool.and_eq_true] at hB
    obtain ⟨h1, ⟨h2, h3⟩, h4⟩ := hB
    obtain ⟨o, ho⟩ := Option.isSome_iff_exists.1 h3
    have h2' : Region.ready md l.toArray (setAll is listed) = [i] := by simpa using h2
    refine T_takes2 hs hQ is listed a hd h1 (mono_quiet (fun a' h' => ?_) h)
    refine ⟨fun h0 => (by rw [h2'] at h0; cases h0), fun j hj => ?_⟩
    have hj' := hj
    rw [h2'] at hj
    obtain rfl : j = i := by simpa using hj
    simp only [Option.map_some, getD_of ho, lateNext] at h'
    unfold wpOp
    simp only [ho]
    split
    · rename_i hw
      simp only [hw, if_true] at h'
      exact .inl (Oper.wp_mono (fun a'' w'' hk => ⟨trivial, T_late hs hQ rest _ _ _ (down_step (down_all2 is _ hd h1) hj') h4 hk⟩) h')
    · rename_i hw
      simp only [hw] at h'
      exact ⟨trivial, T_late hs hQ rest _ _ _ (down_step (down_all2 is _ hd h1) hj') h4 h'⟩

theorem T_stage {l : List Oper} {k : Nat} {late : List (List Nat × Option Nat)} (hs : Region.noSelect l.toArray = true) (hQ : ∀ c a d v w, Q (.panic c) (Act.put a d v) w → Q (.panic c) a w) :
    ∀ (plan : List (List Nat × Option Nat)) (listed : Array Bool) (a : Act) (w : World), Down md l.toArray listed → stageB md l.toArray k (waitsOn md l.toArray k) late plan listed = true → wpStage P l.toArray Q (pickP l late) (pickP l plan) a w →
      wpAnyT P md l.toArray Q (Ahead k w) (planN plan + planN late) listed a w
  | [], listed, a, w, hd, hB, h => by
    simp only [stageB, Bool.and_eq_true] at hB
    obtain ⟨⟨⟨h1, h2⟩, h3⟩, h4⟩ := hB
    obtain ⟨o, ho⟩ := Option.isSome_iff_exists.1 h2
    have h1' : Region.ready md l.toArray listed = [k] := by simpa using h1
    match late, h4, h with
    | ([], some k') :: rest, h4, h =>
      simp only [Bool.and_eq_true] at h4
      obtain ⟨h5, h6⟩ := h4
      obtain rfl : k' = k := by simpa using h5
      show wpAnyT P md l.toArray Q (Ahead k' w) (planN [] + planN (([], some k') :: rest)) listed a w
      have e : planN [] + planN (([], some k') :: rest) = planN rest + 1 := by simp [planN]
      rw [e]
      refine ⟨fun h0 => (by rw [h1'] at h0; cases h0), fun j hj => ?_⟩
      have hj' := hj
      rw [h1'] at hj
      obtain rfl : j = k' := by simpa using hj
      have hA : ∀ W, Ahead j w (listed.setIfInBounds j true) W := fun W hc => by rw [h3] at hc; cases hc
      have hgo : ∀ a' w', wpLate P l.toArray Q (pickP l rest) a' w' → wpAnyT P md l.toArray Q (Ahead j w) (planN rest) (listed.setIfInBounds j true) a' w' := fun a' w' hh =>
        T_imp (fun L => L.getD j false = true) (fun L i hL => getD_set_true hL) (fun L W hL _ hc => by rw [hL] at hc; cases hc) _ _ _ _ h3 (T_late hs hQ rest _ _ _ (down_step hd hj') h6 hh)
      have h' : lateNext P l.toArray Q (wpLate P l.toArray Q (pickP l rest)) w a (some o) := by
        have := h
        simp only [pickP, List.map_nil, List.map_cons, wpStage, wpLate, pick, wpQuiet, Option.map_some, getD_of ho] at this
        exact this
      simp only [lateNext] at h'
      unfold wpOp
      simp only [ho]
      split
      · rename_i hw
        simp only [hw, if_true] at h'
        exact .inl (Oper.wp_mono (fun a'' w'' hk => ⟨hA _, hgo _ _ hk⟩) h')
      · rename_i hw
        simp only [hw] at h'
        exact ⟨hA _, hgo _ _ h'⟩
  | (is, none) :: rest, listed, a, w, hd, hB, h => by
    simp only [stageB, Bool.and_eq_true] at hB
    have e : planN ((is, none) :: rest) + planN late = (planN rest + planN late) + is.length := by simp [planN]; omega
    rw [e]
    exact T_takes1 hs hQ is listed a hd hB.1 (mono_quiet (fun a' h' => T_stage hs hQ rest _ _ _ (down_all is _ hd hB.1) hB.2 h') h)
  | (is, some i) :: rest, listed, a, w, hd, hB, h => by
    simp only [stageB, Bool.and_eq_true] at hB
    obtain ⟨h1, ⟨⟨h5, h2⟩, h3⟩, h4⟩ := hB
    obtain ⟨o, ho⟩ := Option.isSome_iff_exists.1 h3
    have h2' : Region.ready md l.toArray (setAll is listed) = [i] := by simpa using h2
    have e : planN ((is, some i) :: rest) + planN late = ((planN rest + planN late) + 1) + is.length := by simp [planN]; omega
    rw [e]
    refine T_takes1 hs hQ is listed a hd h1 (mono_quiet (fun a' h' => ?_) h)
    refine ⟨fun h0 => (by rw [h2'] at h0; cases h0), fun j hj => ?_⟩
    have hj' := hj
    rw [h2'] at hj
    obtain rfl : j = i := by simpa using hj
    simp only [Option.map_some, getD_of ho, planNext] at h'
    have hgo : ∀ a'' w'', Below w.heap.size w w'' → wpStage P l.toArray Q (pickP l late) (pickP l rest) a'' w'' → wpAnyT P md l.toArray Q (Ahead k w) (planN rest + planN late) ((setAll is listed).setIfInBounds j true) a'' w'' := fun a'' w'' hb hk =>
      T_imp (fun _ => True) (fun _ _ _ => trivial) (fun L W _ hA hc => hb.trans ((hA hc).mono hb.size)) _ _ _ _ trivial (T_stage hs hQ rest _ _ _ (down_step (down_all is _ hd h1) hj') h4 hk)
    unfold wpOp
    simp only [ho]
    split
    · rename_i hw
      simp only [hw, if_true] at h'
      exact .inl (Oper.wp_mono (fun a'' w'' ⟨hb, hk⟩ => ⟨fun _ => hb, hgo _ _ hb hk⟩) h')
    · rename_i hw
      simp only [hw] at h'
      exact ⟨fun _ => Below.refl _ _, hgo _ _ (Below.refl _ _) h'⟩

def stageOk (l : List Oper) (k : Nat) (plan late : List (List Nat × Option Nat)) : Bool :=
  Region.noSelect l.toArray && stageB .any l.toArray k (waitsOn .any l.toArray k) late plan (Array.replicate l.length false) && (planN plan + planN late == l.length)

theorem wp_region_stage {l : List Oper} {id : Nat} {a : Act} {w : World} (k : Nat) (plan late : List (List Nat × Option Nat)) (hm : P.follows .mixedOrders = true) (hB : stageOk l k plan late = true)
    (h : ∀ w' : World, w'.heap.size = w.heap.size → Below w.heap.size w w' → wpStage P l.toArray (NormalOnly Q) (pickP l late) (pickP l plan) a w') : (Code.region id l.toArray true).wp P Q a w := by
  simp only [stageOk, Bool.and_eq_true] at hB
  obtain ⟨⟨h1, h2⟩, h3⟩ := hB
  have h3 : planN plan + planN late = l.length := by simpa using h3
  refine Code.wp_mono (Q := NormalOnly Q) (fun e a w h => ?_) ?_
  · cases e <;> first | exact h | exact h.elim
  refine wp_region_any hm (wpAny_of_T (S := Ahead k w.drew) _ _ _ _ ?_)
  have hd0 : Down .any l.toArray (Array.replicate l.length false) := fun j o ho hj => by
    rcases Nat.lt_or_ge j l.length with h' | h'
    · simp [h'] at hj
    · simp [h'] at hj
  have := T_stage (P := P) (Q := NormalOnly Q) (md := .any) (k := k) (late := late) h1 (fun _ _ _ _ _ h => h) plan _ a w.drew hd0 h2 (h _ rfl ((Below.refl _ _).drew))
  rw [h3] at this
  simpa using this

theorem stage_cons {l : List Oper} {late : List (List Oper × Option Oper)} {qs : List Oper} {m : Option Oper} {rest : List (List Oper × Option Oper)} {a : Act} {w : World}
    (h : wpQuiet P l.toArray (fun w' => ∃ x : Ext w.heap.size w, w' = x.val) (fun a' => planNext P l.toArray Q (wpStage P l.toArray Q late rest) w a' m) qs a) :
    wpStage P l.toArray Q late ((qs, m) :: rest) a w := h
theorem plan_none {next : Act → World → Prop} {a : Act} {w : World} (h : next a w) : planNext P ops Q next w a none := h
theorem stage_late {l : List Oper} {late : List (List Oper × Option Oper)} {a : Act} {w : World} (h : wpLate P l.toArray Q late a w) : wpStage P l.toArray Q late [] a w := h
theorem late_cons {l : List Oper} {qs : List Oper} {m : Option Oper} {rest : List (List Oper × Option Oper)} {a : Act} {w : World}
    (h : wpQuiet P l.toArray (fun w' => ∃ x : AnyW, w' = x.val) (fun a' => lateNext P l.toArray Q (wpLate P l.toArray Q rest) w a' m) qs a) :
    wpLate P l.toArray Q ((qs, m) :: rest) a w := h
theorem late_nil {C : World → Prop} {m : Option Oper} {next : Act → World → Prop} {a : Act} {w : World} (h : lateNext P ops Q next w a m) : wpQuiet P ops C (fun a' => lateNext P ops Q next w a' m) [] a := h
theorem late_call {o : Oper} {next : Act → World → Prop} {a : Act} {w : World} (hw : Region.wanted o (yielded ops a.tmps) = true)
    (h : ∀ K : Act → World → Prop, Hid (∀ a' w', next a' w' → K a' w') → o.wp P a w K Q) : lateNext P ops Q next w a (some o) := by
  simp only [lateNext]; rw [if_pos hw]; exact h _ (Lib.hid fun _ _ h2 => h2)
theorem late_end {l : List Oper} {a : Act} {w : World} (h : Q .normal a w) : wpLate P l.toArray (NormalOnly Q) [] a w := h
theorem late_none {l : List Oper} {a : Act} {w : World} (h : Q .normal a w) : lateNext P l.toArray (NormalOnly Q) (wpLate P l.toArray (NormalOnly Q) []) w a none := h
end
end Go.Proofs.Ytfacdoemgalodaa
