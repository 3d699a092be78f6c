/-
  What Get accepts is the encoding of what it answers: plain laws of readers, no program in sight.
-/
import Derived.Test.YtfockoihmoljfaaGreatDoorLotC
namespace Go.Proofs.YtfockoihmoljfaaGreatDoor.Sc
set_option linter.unusedVariables false
/-- A reader that answers without an error has read the encoding of what it answers. -/
def Can {α : Type} (l : List UInt8) (rd : St → α × St) (p : α → List UInt8) : Prop :=
  ∀ s : St, (rd s).2.2 = 0 → s.2 = 0 ∧ l.drop s.1.toNat = p (rd s).1 ++ l.drop (rd s).2.1.toNat ∧ (rd s).2.1 = s.1 + (p (rd s).1).length
section
variable {l : List UInt8}
theorem rNum_can : Can l (rNum l) Vi.putI := fun s h => by
  by_cases h0 : s.2 = 0
  · unfold rNum take at h ⊢
    rw [if_pos h0] at h ⊢
    exact ⟨h0, Vi.getI_canon h⟩
  · unfold rNum at h
    rw [take_err h0] at h
    exact absurd h h0
theorem rText_can : Can l (rText l) Vi.putS := fun s h => by
  by_cases h0 : s.2 = 0
  · unfold rText take at h ⊢
    rw [if_pos h0] at h ⊢
    have := Vi.getS_canon h
    exact ⟨h0, this.2.1, this.2.2.1⟩
  · unfold rText at h
    rw [take_err h0] at h
    exact absurd h h0
theorem rList_can : Can l (rList l) Vi.putL := fun s h => by
  by_cases h0 : s.2 = 0
  · unfold rList take at h ⊢
    rw [if_pos h0] at h ⊢
    have := Vi.getL_canon h
    exact ⟨h0, this.2.1, this.2.2.1⟩
  · unfold rList at h
    rw [take_err h0] at h
    exact absurd h h0
theorem rSlo_can : Can l (rSlo l) putSlo := fun s h => by
  unfold rSlo at h ⊢
  dsimp only at h ⊢
  obtain ⟨a3, b3, c3⟩ := rNum_can _ h
  obtain ⟨a2, b2, c2⟩ := rNum_can _ a3
  obtain ⟨a1, b1, c1⟩ := rText_can _ a2
  refine ⟨a1, ?_, ?_⟩
  · rw [b1, b2, b3]; unfold putSlo; simp only [List.append_assoc]
  · rw [c3, c2, c1]; unfold putSlo; simp only [List.length_append, Int.natCast_add, Int.add_assoc]
theorem rGro_can : Can l (rGro l) putGro := fun s h => by
  unfold rGro at h ⊢
  dsimp only at h ⊢
  obtain ⟨a2, b2, c2⟩ := rNum_can _ h
  obtain ⟨a1, b1, c1⟩ := rText_can _ a2
  refine ⟨a1, ?_, ?_⟩
  · rw [b1, b2]; unfold putGro; simp only [List.append_assoc]
  · rw [c2, c1]; unfold putGro; simp only [List.length_append, Int.natCast_add, Int.add_assoc]
theorem rPer_can : Can l (rPer l) putPer := fun s h => by
  unfold rPer at h ⊢
  dsimp only at h ⊢
  obtain ⟨a2, b2, c2⟩ := rList_can _ h
  obtain ⟨a1, b1, c1⟩ := rText_can _ a2
  refine ⟨a1, ?_, ?_⟩
  · rw [b1, b2]; unfold putPer; simp only [List.append_assoc]
  · rw [c2, c1]; unfold putPer; simp only [List.length_append, Int.natCast_add, Int.add_assoc]
theorem rLes_can : Can l (rLes l) putLes := fun s h => by
  unfold rLes at h ⊢
  dsimp only at h ⊢
  obtain ⟨a3, b3, c3⟩ := rList_can _ h
  obtain ⟨a2, b2, c2⟩ := rList_can _ a3
  obtain ⟨a1, b1, c1⟩ := rText_can _ a2
  refine ⟨a1, ?_, ?_⟩
  · rw [b1, b2, b3]; unfold putLes; simp only [List.append_assoc]
  · rw [c3, c2, c1]; unfold putLes; simp only [List.length_append, Int.natCast_add, Int.add_assoc]
theorem rRoo_can : Can l (rRoo l) putRoo := fun s h => by
  unfold rRoo at h ⊢
  dsimp only at h ⊢
  obtain ⟨a4, b4, c4⟩ := rList_can _ h
  obtain ⟨a3, b3, c3⟩ := rNum_can _ a4
  obtain ⟨a2, b2, c2⟩ := rNum_can _ a3
  obtain ⟨a1, b1, c1⟩ := rText_can _ a2
  refine ⟨a1, ?_, ?_⟩
  · rw [b1, b2, b3, b4]; unfold putRoo; simp only [List.append_assoc]
  · rw [c4, c3, c2, c1]; unfold putRoo; simp only [List.length_append, Int.natCast_add, Int.add_assoc]
theorem rMany_can {α : Type} {rd : St → α × St} {p : α → List UInt8} (hr : Can l rd p) : ∀ (n : Nat) (s : St), (rMany rd n s).2.2 = 0 →
    s.2 = 0 ∧ l.drop s.1.toNat = (rMany rd n s).1.flatMap p ++ l.drop (rMany rd n s).2.1.toNat ∧ (rMany rd n s).2.1 = s.1 + ((rMany rd n s).1.flatMap p).length ∧ (rMany rd n s).1.length = n
  | 0, s, h => by
    unfold rMany at h ⊢
    exact ⟨h, by simp, by simp, rfl⟩
  | n + 1, s, h => by
    by_cases h0 : s.2 = 0
    · rw [rMany_go h0] at h ⊢
      dsimp only at h ⊢
      obtain ⟨a2, b2, c2, d2⟩ := rMany_can hr n (rd s).2 h
      obtain ⟨a1, b1, c1⟩ := hr s a2
      refine ⟨h0, ?_, ?_, by rw [List.length_cons, d2]⟩
      · rw [b1, b2, List.flatMap_cons, List.append_assoc]
      · rw [c2, c1, List.flatMap_cons, List.length_append, Int.natCast_add, Int.add_assoc]
    · rw [rMany_stop (.inr h0)] at h
      exact absurd h h0
theorem rAll_can {α : Type} {rd : St → α × St} {p : α → List UInt8} (hr : Can l rd p) (most : Int) : Can l (rAll l most rd) (putA p) := fun s h => by
  unfold rAll at h ⊢
  obtain ⟨a2, b2, c2, d2⟩ := rMany_can hr _ _ h
  have e : rCount l most s = rNum l s ∧ 0 ≤ (rNum l s).1 := by
    unfold rCount at a2 ⊢
    split at a2
    · rename_i h1
      rw [if_pos h1]
      split at a2
      · simp at a2
      · rename_i h2
        rw [if_neg h2]
        split at a2
        · simp at a2
        · rename_i h3
          rw [if_neg h3]
          exact ⟨rfl, by omega⟩
    · rename_i h1
      exact absurd a2 h1
  rw [e.1] at a2 b2 c2 d2 ⊢
  obtain ⟨a1, b1, c1⟩ := rNum_can s a2
  have hn : ((rMany rd (rNum l s).1.toNat (rNum l s).2).1.length : Int) = (rNum l s).1 := by rw [d2]; omega
  refine ⟨a1, ?_, ?_⟩
  · unfold putA
    rw [hn, b1, b2, List.append_assoc]
  · unfold putA
    rw [hn, c2, c1, List.length_append, Int.natCast_add, Int.add_assoc]
/-- What Get accepts. -/
theorem getR_canon (h : (getR l).2 = 0) : chk (getR l).1 = 0 ∧ l = putB (getR l).1 ∧ getR l = (gS l, 0) := by
  have hE : gE l = 0 := by
    by_cases h0 : gE l = 0
    · exact h0
    · unfold getR at h
      rw [if_pos h0] at h
      exact absurd h h0
  have hR : getR l = (gS l, 0) := by unfold getR; rw [if_neg (fun hh => hh hE)]
  rw [hR]
  unfold gE at hE
  split at hE
  · simp at hE
  · rename_i hno
    obtain ⟨a5, b5, c5⟩ := rAll_can rLes_can 64 (g4 l).2 hE
    obtain ⟨a4, b4, c4⟩ := rAll_can rGro_can 64 (g3 l).2 a5
    obtain ⟨a3, b3, c3⟩ := rAll_can rPer_can 64 (g2 l).2 a4
    obtain ⟨a2, b2, c2⟩ := rAll_can rRoo_can 32 (g1 l).2 a3
    obtain ⟨a1, b1, c1⟩ := rAll_can rSlo_can 50 (0, 0) a2
    have hend : (l.length : Int) ≤ (g5 l).2.1 := by
      rcases Int.lt_or_le (g5 l).2.1 (l.length : Int) with h1 | h1
      · exact absurd ⟨hE, .inl h1⟩ hno
      · exact h1
    have hchk : chk (gS l) = 0 := by
      by_cases h1 : chk (gS l) = 0
      · exact h1
      · exact absurd ⟨hE, .inr h1⟩ hno
    refine ⟨hchk, ?_, rfl⟩
    have e : l.drop ((0 : Int).toNat) = l := by simp
    have b1' : l = putA putSlo (g1 l).1 ++ l.drop (g1 l).2.1.toNat := e.symm.trans b1
    have b2' : l.drop (g1 l).2.1.toNat = putA putRoo (g2 l).1 ++ l.drop (g2 l).2.1.toNat := b2
    have b3' : l.drop (g2 l).2.1.toNat = putA putPer (g3 l).1 ++ l.drop (g3 l).2.1.toNat := b3
    have b4' : l.drop (g3 l).2.1.toNat = putA putGro (g4 l).1 ++ l.drop (g4 l).2.1.toNat := b4
    have b5' : l.drop (g4 l).2.1.toNat = putA putLes (g5 l).1 ++ l.drop (g5 l).2.1.toNat := b5
    have b6 : l.drop (g5 l).2.1.toNat = [] := List.drop_eq_nil_of_le (by omega)
    rw [b5', b6, List.append_nil] at b4' 
    rw [b4'] at b3'
    rw [b3'] at b2'
    rw [b2'] at b1'
    show l = putA putSlo (g1 l).1 ++ putA putRoo (g2 l).1 ++ putA putPer (g3 l).1 ++ putA putGro (g4 l).1 ++ putA putLes (g5 l).1
    simp only [List.append_assoc]
    exact b1'
/-- What Get refuses. -/
theorem getR_bad (h : (getR l).2 ≠ 0) : (getR l).1 = noSch := by
  unfold getR at h ⊢
  split
  · rfl
  · rename_i h0
    rw [if_neg h0] at h
    exact absurd rfl h
end
end Go.Proofs.YtfockoihmoljfaaGreatDoor.Sc
