/-
  Plain laws of Take and Reply: no program in sight.
-/
import Derived.Test.YtmighpfjjaaknaaLiveW
namespace Go.Proofs.Ytmighpfjjaaknaa
set_option linter.unusedVariables false
set_option linter.unusedSimpArgs false

theorem okPs_appL2 {l : List Pl} {ms : List Mv} (h : okPs l) (h' : okMs ms) : okPs (appL l ms) ∧ (appL l ms).length ≤ l.length := by
  unfold appL
  cases hx : applyTo l.length l (-1) ms with
  | none => exact ⟨by simp [okPs], by simp⟩
  | some y => obtain ⟨a, b⟩ := applyTo_ok h h' hx; exact ⟨a, by simp [b]⟩
theorem takeC_ok {c : Cl} {m : Mg} (hc : okPs c.week) (hm : okPs m.week) (h' : okMs m.moves) : okPs (takeC c m).week := by
  unfold takeC t2L
  split
  · split
    · exact hm
    · split
      · dsimp only
        split
        · exact (okPs_appL2 hc h').1
        · simp [okPs]
      · simp [okPs, zeroC]
  · simp [okPs, zeroC]
theorem takeC_len {c : Cl} {m : Mg} {k : Nat} (hc : okPs c.week) (h' : okMs m.moves) (h1 : c.week.length ≤ k) (h2 : m.week.length ≤ k) : (takeC c m).week.length ≤ k := by
  unfold takeC t2L
  split
  · split
    · exact h2
    · split
      · dsimp only
        split
        · exact Nat.le_trans (okPs_appL2 hc h').2 h1
        · simp
      · simp [zeroC]
  · simp [zeroC]
theorem takeC_zero {c : Cl} {m : Mg} (h : takeE c m ≠ 0) : takeC c m = zeroC := by
  unfold takeE at h
  unfold takeC
  split at h
  · rename_i hk
    split at h
    · rw [if_neg (fun h' => by omega)]
    · split at h
      · exact absurd rfl h
      · rename_i h1
        split
        · first | rfl | rw [if_neg h1, if_neg h]
        · rfl
  · rename_i hk
    rw [if_neg (fun h' => hk ⟨h'.1, h'.2.1, h'.2.2.1⟩)]
theorem takeC_some {c : Cl} {m : Mg} (h : takeE c m = 0) : (m.kind = 1 ∨ m.kind = 2) ∧ (0 ≤ c.no ∧ c.no ≤ 1099511627776) ∧ (1 ≤ m.no ∧ m.no ≤ 1099511627776) ∧ c.no < m.no ∧ (takeC c m).no = m.no := by
  unfold takeE at h
  split at h
  · rename_i hk
    split at h
    · cases h
    · rename_i hno
      have hall : (m.kind = 1 ∨ m.kind = 2) ∧ (0 ≤ c.no ∧ c.no ≤ 1099511627776) ∧ (1 ≤ m.no ∧ m.no ≤ 1099511627776) ∧ c.no < m.no := ⟨hk.1, hk.2.1, hk.2.2, by omega⟩
      refine ⟨hall.1, hall.2.1, hall.2.2.1, hall.2.2.2, ?_⟩
      unfold takeC
      rw [if_pos hall]
      split
      · rfl
      · rename_i h1
        rw [if_neg h1] at h
        rw [if_pos h]
  · cases h
/-- A message that was taken is old. -/
theorem take_again {c : Cl} {m : Mg} (h : takeE c m = 0) : takeE (takeC c m) m = 341 ∧ takeC (takeC c m) m = zeroC := by
  obtain ⟨h1, h2, h3, h4, h5⟩ := takeC_some h
  have e : takeE (takeC c m) m = 341 := by
    unfold takeE
    rw [h5, if_pos ⟨h1, ⟨by omega, h3.2⟩, h3⟩, if_pos (Int.le_refl _)]
  exact ⟨e, takeC_zero (by rw [e]; decide)⟩

/-! Reply -/
theorem RdV.okWeeks {w : World} {B : Nat} {A : Option Addr} {n c : Nat} {vs : List Ver} (h : RdV w B A n c vs) : ∀ v ∈ vs, okPs v.week := by
  intro v hv
  obtain ⟨i, hi, rfl⟩ := List.getElem_of_mem hv
  obtain ⟨ss, hl, h1, h2⟩ := h
  obtain ⟨A', c', _, hp, _⟩ := h2 i vs[i] ss[i] (List.getElem?_eq_getElem hi) (List.getElem?_eq_getElem (by omega))
  exact hp.2
theorem checkB_at {vs : List Ver} (h : checkB vs = true) {k : Nat} (hk : k < vs.length) : okVer k vs[k] = true := (allIs_zip okVer vs).1 h k hk
theorem checkB_no {vs : List Ver} (h : checkB vs = true) {k : Nat} (hk : k < vs.length) : vs[k].no = (k : Int) + 1 := by
  have := checkB_at h hk
  unfold okVer at this
  simp only [Bool.and_eq_true, beq_iff_eq] at this
  exact this.1.1
theorem lastV_eq {vs : List Ver} (h : 0 < vs.length) : lastV vs = vs[vs.length - 1]'(by omega) := by
  unfold lastV
  rw [List.getD_eq_getElem?_getD, List.getElem?_eq_getElem (by omega)]
  rfl
theorem lastV_no {vs : List Ver} (h : checkB vs = true) (hn : 0 < vs.length) : (lastV vs).no = vs.length := by
  rw [lastV_eq hn, checkB_no h]
  omega
theorem replyE_ok {vs : List Ver} {no to : Int} (h : checkB vs = true) (h0 : 0 ≤ no) (h1 : no < vs.length) (h2 : no ≤ 1099511627776) (h3 : 0 ≤ to ∧ to ≤ 7) : replyE vs no to = 0 := by
  unfold replyE
  rw [if_pos ⟨h, ⟨h0, h2⟩, h3⟩, if_neg (by omega)]
/-- What a reply that is made holds. -/
def IsReply (vs : List Ver) (no to : Int) (m : Mg) : Prop :=
  m.to = to ∧ m.no = vs.length ∧ ((m.kind = 2 ∧ m.from_ = no ∧ 0 < no ∧ m.week = [] ∧ (vs.getD (no.toNat - 1) zeroV).week.length = (lastV vs).week.length ∧ m.moves = diffL (vs.getD (no.toNat - 1) zeroV).week (lastV vs).week) ∨
    (m.kind = 1 ∧ m.from_ = 0 ∧ m.week = (lastV vs).week ∧ m.moves = [] ∧ (0 < no → (vs.getD (no.toNat - 1) zeroV).week.length ≠ (lastV vs).week.length)))
theorem diffE_zero {a b : List Pl} : diffE a b = 0 ↔ a.length = b.length := by
  unfold diffE
  by_cases h : a.length = b.length
  · simp [h]
  · simp [h]
theorem replyM_is {vs : List Ver} {no to : Int} (h : checkB vs = true) (hn : 0 < vs.length) (he : replyE vs no to = 0) : IsReply vs no to (replyM vs no to) := by
  unfold replyM
  rw [if_pos he]
  by_cases hd : 0 < no ∧ diffE (vs.getD (no.toNat - 1) zeroV).week (lastV vs).week = 0
  · rw [if_pos hd]
    exact ⟨rfl, lastV_no h hn, .inl ⟨rfl, rfl, hd.1, rfl, diffE_zero.1 hd.2, rfl⟩⟩
  · rw [if_neg hd]
    exact ⟨rfl, lastV_no h hn, .inr ⟨rfl, rfl, rfl, rfl, fun h1 he => hd ⟨h1, diffE_zero.2 he⟩⟩⟩
theorem getD_mem {vs : List Ver} (k : Nat) : vs.getD k zeroV ∈ vs ∨ vs.getD k zeroV = zeroV := by
  rw [List.getD_eq_getElem?_getD]
  cases h : vs[k]? with
  | none => exact .inr rfl
  | some v => exact .inl (List.mem_of_getElem? h)
theorem getD_week {P : List Pl → Prop} {vs : List Ver} (h : ∀ v ∈ vs, P v.week) (h0 : P []) (k : Nat) : P (vs.getD k zeroV).week := by
  rcases getD_mem (vs := vs) k with h1 | h1
  · exact h _ h1
  · rw [h1]; exact h0
theorem okMs_diffL {a b : List Pl} (hb : okPs b) (hl : b.length ≤ 1099511627776) : okMs (diffL a b) := by
  unfold diffL
  split
  · exact okMs_diffTo hb _ hl
  · simp [okMs]
theorem replyM_ok {vs : List Ver} {no to : Int} (h : ∀ v ∈ vs, okPs v.week) (hl : ∀ v ∈ vs, v.week.length ≤ 70) : okPs (replyM vs no to).week ∧ okMs (replyM vs no to).moves ∧ (replyM vs no to).week.length ≤ 70 := by
  have hb : okPs (lastV vs).week := getD_week (P := okPs) h (by simp [okPs]) _
  have hbl : (lastV vs).week.length ≤ 70 := getD_week (P := fun l => l.length ≤ 70) hl (by simp) _
  unfold replyM
  split
  · split
    · exact ⟨by simp [okPs], okMs_diffL hb (by omega), by simp⟩
    · exact ⟨hb, by simp [okMs], hbl⟩
  · exact ⟨by simp [okPs, zeroM], by simp [okMs, zeroM], by simp [zeroM]⟩
end Go.Proofs.Ytmighpfjjaaknaa
