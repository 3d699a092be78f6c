/-
  A region that draws its order, by a tree: stretches of plain operations; at a node one, two or three movers may come up; at a leaf the region ends, or its first store comes up.
-/
import Derived.Test.YtfacdoemgalodaaStage
namespace Go.Proofs.Ytfacdoemgalodaa
open Go.RowKit
set_option linter.unusedSimpArgs false
set_option linter.unusedVariables false

inductive PT where
  | fin (is : List Nat)
  | sto (is : List Nat)
  | one (is : List Nat) (i : Nat) (ni : PT)
  | two (is : List Nat) (i : Nat) (ni : PT) (j : Nat) (nj : PT)
  | three (is : List Nat) (i : Nat) (ni : PT) (j : Nat) (nj : PT) (k : Nat) (nk : PT)

section
variable {P : Program} {Q : Exit → Act → World → Prop} {md : Region.Mode}

def wpTree (P : Program) (l : List Oper) (Q : Exit → Act → World → Prop) (late : List (List Oper × Option Oper)) : PT → Act → World → Prop
  | .fin is, a, w => wpQuiet P l.toArray (fun w' => ∃ x : Ext w.heap.size w, w' = x.val) (fun a' => Q .normal a' w) (pick l is) a
  | .sto is, a, w => wpQuiet P l.toArray (fun w' => ∃ x : Ext w.heap.size w, w' = x.val) (fun a' => wpLate P l.toArray Q late a' w) (pick l is) a
  | .one is i ni, a, w => wpQuiet P l.toArray (fun w' => ∃ x : Ext w.heap.size w, w' = x.val) (fun a' => planNext P l.toArray Q (wpTree P l Q late ni) w a' (some (l.getD i default))) (pick l is) a
  | .two is i ni j nj, a, w => wpQuiet P l.toArray (fun w' => ∃ x : Ext w.heap.size w, w' = x.val) (fun a' => planNext P l.toArray Q (wpTree P l Q late ni) w a' (some (l.getD i default)) ∧ planNext P l.toArray Q (wpTree P l Q late nj) w a' (some (l.getD j default))) (pick l is) a
  | .three is i ni j nj k nk, a, w => wpQuiet P l.toArray (fun w' => ∃ x : Ext w.heap.size w, w' = x.val) (fun a' => planNext P l.toArray Q (wpTree P l Q late ni) w a' (some (l.getD i default)) ∧ planNext P l.toArray Q (wpTree P l Q late nj) w a' (some (l.getD j default)) ∧ planNext P l.toArray Q (wpTree P l Q late nk) w a' (some (l.getD k default))) (pick l is) a

/-- How many operations from here on. -/
def PT.size (late : Nat) : PT → Nat
  | .fin is => is.length
  | .sto is => late + is.length
  | .one is _ n => (n.size late + 1) + is.length
  | .two is _ n _ _ => (n.size late + 1) + is.length
  | .three is _ n _ _ _ _ => (n.size late + 1) + is.length

def treeB (md : Region.Mode) (ops : Array Oper) (k : Nat) (wk : Array Bool) (late : List (List Nat × Option Nat)) (ln : Nat) : PT → Array Bool → Bool
  | .fin is, listed => takes1B md ops k wk is listed && (Region.ready md ops (setAll is listed)).isEmpty
  | .sto is, listed => takes1B md ops k wk is listed && stageB md ops k wk late [] (setAll is listed)
  | .one is i n, listed => takes1B md ops k wk is listed && ((i != k) && (Region.ready md ops (setAll is listed) == [i]) && (ops[i]?).isSome && treeB md ops k wk late ln n ((setAll is listed).setIfInBounds i true))
  | .two is i n j n', listed => takes1B md ops k wk is listed && ((i != k) && (j != k) && (n.size ln == n'.size ln) && (Region.ready md ops (setAll is listed) == [i, j]) && (ops[i]?).isSome && (ops[j]?).isSome && treeB md ops k wk late ln n ((setAll is listed).setIfInBounds i true) && treeB md ops k wk late ln n' ((setAll is listed).setIfInBounds j true))
  | .three is i n j n' m n'', listed => takes1B md ops k wk is listed && ((i != k) && (j != k) && (m != k) && (n.size ln == n'.size ln) && (n.size ln == n''.size ln) && (Region.ready md ops (setAll is listed) == [i, j, m]) && (ops[i]?).isSome && (ops[j]?).isSome && (ops[m]?).isSome && treeB md ops k wk late ln n ((setAll is listed).setIfInBounds i true) && treeB md ops k wk late ln n' ((setAll is listed).setIfInBounds j true) && treeB md ops k wk late ln n'' ((setAll is listed).setIfInBounds m true))

/-- One mover comes up. -/
theorem T_mover {l : List Oper} {k i : Nat} {o : Oper} {listed : Array Bool} {fuel : Nat} {a : Act} {w : World} {next : Act → World → Prop} (ho : l.toArray[i]? = some o)
    (hgo : ∀ a'' w'', next a'' w'' → wpAnyT P md l.toArray Q (Ahead k w'') fuel (listed.setIfInBounds i true) a'' w'')
    (h : planNext P l.toArray Q next w a (some (l.getD i default))) :
    wpOp P l.toArray Q i (fun a' w' => Ahead k w (listed.setIfInBounds i true) w' ∧ wpAnyT P md l.toArray Q (Ahead k w) fuel (listed.setIfInBounds i true) a' w') a w := by
  simp only [getD_of ho, planNext] at h
  have hgo' : ∀ a'' w'', Below w.heap.size w w'' → next a'' w'' → wpAnyT P md l.toArray Q (Ahead k w) fuel (listed.setIfInBounds i true) a'' w'' := fun a'' w'' hb hk =>
    T_imp (fun _ => True) (fun _ _ _ => trivial) (fun L W _ hA hc => hb.trans ((hA hc).mono hb.size)) _ _ _ _ trivial (hgo _ _ hk)
  unfold wpOp
  simp only [ho]
  split
  · rename_i hw
    simp only [hw, if_true] at h
    exact .inl (Oper.wp_mono (fun a'' w'' ⟨hb, hk⟩ => ⟨fun _ => hb, hgo' _ _ hb hk⟩) h)
  · rename_i hw
    simp only [hw] at h
    exact ⟨fun _ => Below.refl _ _, hgo' _ _ (Below.refl _ _) h⟩

theorem T_tree {l : List Oper} {k : Nat} {late : List (List Nat × Option Nat)} (hs : Region.noSelect l.toArray = true) (hQ : ∀ c a d v w, Q (.panic c) (Act.put a d v) w → Q (.panic c) a w) :
    ∀ (t : PT) (listed : Array Bool) (a : Act) (w : World), Down md l.toArray listed → treeB md l.toArray k (waitsOn md l.toArray k) late (planN late) t listed = true → wpTree P l Q (pickP l late) t a w →
      wpAnyT P md l.toArray Q (Ahead k w) (t.size (planN late)) listed a w
  | .fin is, listed, a, w, hd, hB, h => by
    simp only [treeB, Bool.and_eq_true] at hB
    have := T_takes1 (fuel := 0) hs hQ is listed a hd hB.1 (mono_quiet (fun a' h' => (⟨by simpa using hB.2, h'⟩ : wpAnyT P md l.toArray Q (Ahead k w) 0 (setAll is listed) a' w)) h)
    simpa [PT.size] using this
  | .sto is, listed, a, w, hd, hB, h => by
    simp only [treeB, Bool.and_eq_true] at hB
    refine T_takes1 hs hQ is listed a hd hB.1 (mono_quiet (fun a' h' => ?_) h)
    have := T_stage (P := P) (Q := Q) (md := md) (k := k) (late := late) hs hQ [] (setAll is listed) a' w (down_all is _ hd hB.1) hB.2 h'
    simpa [planN] using this
  | .one is i n, listed, a, w, hd, hB, h => by
    simp only [treeB, Bool.and_eq_true] at hB
    obtain ⟨h1, ⟨⟨h5, h2⟩, h3⟩, h4⟩ := hB
    obtain ⟨o, ho⟩ := Option.isSome_iff_exists.1 h3
    have h2' : Region.ready md l.toArray (setAll is listed) = [i] := by simpa using h2
    refine T_takes1 hs hQ is listed a hd h1 (mono_quiet (fun a' h' => ?_) h)
    refine ⟨fun h0 => (by rw [h2'] at h0; cases h0), fun q hq => ?_⟩
    have hq' := hq
    rw [h2'] at hq
    obtain rfl : q = i := by simpa using hq
    exact T_mover ho (fun a'' w'' hk => T_tree hs hQ n _ _ _ (down_step (down_all is _ hd h1) hq') h4 hk) h'
  | .two is i n j n', listed, a, w, hd, hB, h => by
    simp only [treeB, Bool.and_eq_true] at hB
    obtain ⟨h1, ⟨⟨⟨⟨⟨⟨⟨_, _⟩, hz⟩, h2⟩, h3⟩, h3'⟩, h4⟩, h4'⟩⟩ := hB
    have hz : n.size (planN late) = n'.size (planN late) := by simpa using hz
    obtain ⟨o, ho⟩ := Option.isSome_iff_exists.1 h3
    obtain ⟨o', ho'⟩ := Option.isSome_iff_exists.1 h3'
    have h2' : Region.ready md l.toArray (setAll is listed) = [i, j] := by simpa using h2
    refine T_takes1 hs hQ is listed a hd h1 (mono_quiet (fun a' h' => ?_) h)
    refine ⟨fun h0 => (by rw [h2'] at h0; cases h0), fun q hq => ?_⟩
    have hq' := hq
    rw [h2'] at hq
    rcases List.mem_cons.1 hq with rfl | hq
    · exact T_mover ho (fun a'' w'' hk => T_tree hs hQ n _ _ _ (down_step (down_all is _ hd h1) hq') h4 hk) h'.1
    · obtain rfl : q = j := by simpa using hq
      exact T_mover ho' (fun a'' w'' hk => hz ▸ T_tree hs hQ n' _ _ _ (down_step (down_all is _ hd h1) hq') h4' hk) h'.2
  | .three is i n j n' m n'', listed, a, w, hd, hB, h => by
    simp only [treeB, Bool.and_eq_true] at hB
    obtain ⟨h1, ⟨⟨⟨⟨⟨⟨⟨⟨⟨⟨⟨_, _⟩, _⟩, hz⟩, hz'⟩, h2⟩, h3⟩, h3'⟩, h3''⟩, h4⟩, h4'⟩, h4''⟩⟩ := hB
    have hz : n.size (planN late) = n'.size (planN late) := by simpa using hz
    have hz' : n.size (planN late) = n''.size (planN late) := by simpa using hz'
    obtain ⟨o, ho⟩ := Option.isSome_iff_exists.1 h3
    obtain ⟨o', ho'⟩ := Option.isSome_iff_exists.1 h3'
    obtain ⟨o'', ho''⟩ := Option.isSome_iff_exists.1 h3''
    have h2' : Region.ready md l.toArray (setAll is listed) = [i, j, m] := by simpa using h2
    refine T_takes1 hs hQ is listed a hd h1 (mono_quiet (fun a' h' => ?_) h)
    refine ⟨fun h0 => (by rw [h2'] at h0; cases h0), fun q hq => ?_⟩
    have hq' := hq
    rw [h2'] at hq
    rcases List.mem_cons.1 hq with rfl | hq
    · exact T_mover ho (fun a'' w'' hk => T_tree hs hQ n _ _ _ (down_step (down_all is _ hd h1) hq') h4 hk) h'.1
    · rcases List.mem_cons.1 hq with rfl | hq
      · exact T_mover ho' (fun a'' w'' hk => hz ▸ T_tree hs hQ n' _ _ _ (down_step (down_all is _ hd h1) hq') h4' hk) h'.2.1
      · obtain rfl : q = m := by simpa using hq
        exact T_mover ho'' (fun a'' w'' hk => hz' ▸ T_tree hs hQ n'' _ _ _ (down_step (down_all is _ hd h1) hq') h4'' hk) h'.2.2

def treeOk (l : List Oper) (k : Nat) (t : PT) (late : List (List Nat × Option Nat)) : Bool :=
  Region.noSelect l.toArray && treeB .any l.toArray k (waitsOn .any l.toArray k) late (planN late) t (Array.replicate l.length false) && (t.size (planN late) == l.length)

theorem wp_region_tree {l : List Oper} {id : Nat} {a : Act} {w : World} (k : Nat) (t : PT) (late : List (List Nat × Option Nat)) (hm : P.follows .mixedOrders = true) (hB : treeOk l k t late = true)
    (h : ∀ w' : World, w'.heap.size = w.heap.size → Below w.heap.size w w' → wpTree P l (NormalOnly Q) (pickP l late) t a w') : (Code.region id l.toArray true).wp P Q a w := by
  simp only [treeOk, Bool.and_eq_true] at hB
  obtain ⟨⟨h1, h2⟩, h3⟩ := hB
  have h3 : t.size (planN late) = l.length := by simpa using h3
  refine Code.wp_mono (Q := NormalOnly Q) (fun e a w h => ?_) ?_
  · cases e <;> first | exact h | exact h.elim
  refine wp_region_any hm (wpAny_of_T (S := Ahead k w.drew) _ _ _ _ ?_)
  have hd0 : Down .any l.toArray (Array.replicate l.length false) := fun j o ho hj => by
    rcases Nat.lt_or_ge j l.length with h' | h'
    · simp [h'] at hj
    · simp [h'] at hj
  have := T_tree (P := P) (Q := NormalOnly Q) (md := .any) (k := k) (late := late) h1 (fun _ _ _ _ _ h => h) t _ a w.drew hd0 h2 (h _ rfl ((Below.refl _ _).drew))
  rw [h3] at this
  simpa using this
theorem tree_fin {l : List Oper} {late : List (List Oper × Option Oper)} {is : List Nat} {a : Act} {w : World} (h : wpQuiet P l.toArray (fun w' => ∃ x : Ext w.heap.size w, w' = x.val) (fun a' => NormalOnly Q .normal a' w) (pick l is) a) : wpTree P l (NormalOnly Q) late (.fin is) a w := h
theorem tree_sto {l : List Oper} {late : List (List Oper × Option Oper)} {is : List Nat} {a : Act} {w : World} (h : wpQuiet P l.toArray (fun w' => ∃ x : Ext w.heap.size w, w' = x.val) (fun a' => wpLate P l.toArray Q late a' w) (pick l is) a) : wpTree P l Q late (.sto is) a w := h
theorem tree_one {l : List Oper} {late : List (List Oper × Option Oper)} {is : List Nat} {i : Nat} {n : PT} {a : Act} {w : World} (h : wpQuiet P l.toArray (fun w' => ∃ x : Ext w.heap.size w, w' = x.val) (fun a' => planNext P l.toArray Q (wpTree P l Q late n) w a' (some (l.getD i default))) (pick l is) a) : wpTree P l Q late (.one is i n) a w := h
theorem tree_two {l : List Oper} {late : List (List Oper × Option Oper)} {is : List Nat} {i j : Nat} {n n' : PT} {a : Act} {w : World} (h : wpQuiet P l.toArray (fun w' => ∃ x : Ext w.heap.size w, w' = x.val) (fun a' => planNext P l.toArray Q (wpTree P l Q late n) w a' (some (l.getD i default)) ∧ planNext P l.toArray Q (wpTree P l Q late n') w a' (some (l.getD j default))) (pick l is) a) : wpTree P l Q late (.two is i n j n') a w := h
theorem tree_three {l : List Oper} {late : List (List Oper × Option Oper)} {is : List Nat} {i j k : Nat} {n n' n'' : PT} {a : Act} {w : World} (h : wpQuiet P l.toArray (fun w' => ∃ x : Ext w.heap.size w, w' = x.val) (fun a' => planNext P l.toArray Q (wpTree P l Q late n) w a' (some (l.getD i default)) ∧ planNext P l.toArray Q (wpTree P l Q late n') w a' (some (l.getD j default)) ∧ planNext P l.toArray Q (wpTree P l Q late n'') w a' (some (l.getD k default))) (pick l is) a) : wpTree P l Q late (.three is i n j n' k n'') a w := h
theorem quiet_end {ops : Array Oper} {C : World → Prop} {K : Act → Prop} {a : Act} (h : K a) : wpQuiet P ops C K [] a := h
theorem normal_end {a : Act} {w : World} (h : Q .normal a w) : NormalOnly Q .normal a w := h
end
end Go.Proofs.Ytfacdoemgalodaa
