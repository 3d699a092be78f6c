/-
  Words for Get: what it hands back.
-/
import Derived.Test.YtfockoihmoljfaaGreatDoorLotC
import Derived.Test.YtfockoihmoljfaaGreatDoorElGet
namespace Go.Proofs.YtfockoihmoljfaaGreatDoor
open Go.RowKit Go.Shelf
set_option linter.unusedVariables false
theorem infoSch : (Tryz.prog.info? 28).map (·.size) = some 5 := by kernel_rfl
theorem OwnL.slice {α : Type} {k : Nat} {t : TypeId} {O : World → Nat → α → List Value → Prop} {W : World} {B : Nat} {v : Value} {l : List α} (h : OwnL k t O W B v l) : ∃ A c, v = .slice A l.length c := by
  obtain ⟨rows, a, b, c, d⟩ := h
  obtain ⟨A, cp, rfl, _⟩ := own_rdK c
  exact ⟨A, cp, rfl⟩
/-- A school and an error. -/
def GetPost (R : Sc.Sch × Int) (w : World) (e : Ending) (w' : World) : Prop :=
  ∃ f : Sc.Five, e = .returned (.tuple #[.agg f.vals, .int .i64 R.2]) ∧ Sc.RdSch w' w'.heap.size f R.1 ∧ Below w.heap.size w w'
theorem getpost_err {R : Sc.Sch × Int} {er : Int} {w w' : World} (hR : R = (Sc.noSch, er)) (hb : Below w.heap.size w w') : GetPost R w (.returned (.tuple #[.agg #[.slice none 0 0, .slice none 0 0, .slice none 0 0, .slice none 0 0, .slice none 0 0], .int .i64 er])) w' := by
  subst hR
  exact ⟨⟨none, 0, 0, none, 0, 0, none, 0, 0, none, 0, 0, none, 0, 0⟩, rfl, ⟨RdS.nil _ _, RdS.nil _ _, RdS.nil _ _, RdS.nil _ _, RdS.nil _ _⟩, hb⟩
end Go.Proofs.YtfockoihmoljfaaGreatDoor
