/-
  The journal: laws of disks, no program in sight.
-/
import Derived.Test.YtfacdoemgalodaaJPlain
namespace Go.Proofs.Ytfacdoemgalodaa.Jn
open Vi

theorem encB_nil : encB [] = [] := rfl
theorem readD_of {a b : List Ver} (h : Good 1 (a ++ b)) (hl : (encB a).length + (encB b).length ≤ 1048576) : readD (encB a) (encB b) = (a, b, 0) := by
  obtain ⟨h1, h2⟩ := good_app.1 h
  unfold readD
  rw [if_neg (by omega), versB_iff.2 ⟨rfl, h1⟩]
  dsimp only
  rw [versB_iff.2 ⟨rfl, h2⟩]
theorem readD_ok {s o : List UInt8} (h : (readD s o).2.2 = 0) : ∃ a b, readD s o = (a, b, 0) ∧ s = encB a ∧ o = encB b ∧ Good 1 (a ++ b) ∧ s.length + o.length ≤ 1048576 := by
  have hl := readD_small h
  unfold readD at h ⊢
  rw [if_neg (by omega)] at h ⊢
  cases h1 : versB s 1 with
  | none => rw [h1] at h; simp at h
  | some a =>
    rw [h1] at h
    dsimp only at h ⊢
    cases h2 : versB o (1 + a.length) with
    | none => rw [h2] at h; simp at h
    | some b =>
      obtain ⟨e1, g1⟩ := versB_iff.1 h1
      obtain ⟨e2, g2⟩ := versB_iff.1 h2
      exact ⟨a, b, rfl, e1, e2, good_app.2 ⟨g1, g2⟩, hl⟩
theorem readD_err {s o : List UInt8} (h : (readD s o).2.2 ≠ 0) : readD s o = ([], [], (readD s o).2.2) := by
  unfold readD at *
  split
  · rfl
  · rename_i hb
    rw [if_neg hb] at h
    cases h1 : versB s 1 with
    | none => rfl
    | some a =>
      rw [h1] at h
      dsimp only at h ⊢
      cases h2 : versB o (1 + a.length) with
      | none => rfl
      | some b => rw [h2] at h; simp at h

/-- How many whole frames lie in the first k bytes. -/
def whole (vs : List Ver) (k : Nat) : Nat := wholeOf (min k (encB vs).length) (endsFrom 0 (vs.map recB))
theorem take_min {α : Type} (l : List α) (k : Nat) : l.take k = l.take (min k l.length) := by
  rcases Nat.le_total k l.length with h | h
  · rw [Nat.min_eq_left h]
  · rw [Nat.min_eq_right h, List.take_of_length_le h, List.take_length]
theorem goodN_take {vs : List Ver} (h : ∀ v ∈ vs, okV v) (k : Nat) : whole vs k ≤ vs.length ∧ goodN ((encB vs).take k) = (encB (vs.take (whole vs k))).length := by
  have hs := recs_small h
  obtain ⟨c1, c2, c3⟩ := scan_cut (vs.map recB) hs (min k (encB vs).length) (Nat.min_le_right _ _)
  rw [List.length_map] at c2
  refine ⟨c2, ?_⟩
  rw [take_min]
  unfold goodN
  have e : scanL ((encB vs).take (min k (encB vs).length)) = scFrom 0 ((vs.map recB).take (whole vs k)) := scan_unique (scanL_ok _) c1
  rw [e, scFrom_last0]
  unfold encB
  rw [List.map_take]
theorem encB_take (vs : List Ver) (j : Nat) : (encB vs).take (encB (vs.take j)).length = encB (vs.take j) := by
  conv => lhs; rw [← List.take_append_drop j vs, encB_app]
  rw [List.take_append_drop, List.take_left]
theorem encB_take_le (vs : List Ver) (j : Nat) : (encB (vs.take j)).length ≤ (encB vs).length := by
  conv => rhs; rw [← List.take_append_drop j vs, encB_app]
  rw [List.length_append]
  omega
theorem whole_mono (vs : List Ver) {k k' : Nat} (h : k ≤ k') : whole vs k ≤ whole vs k' := by
  unfold whole wholeOf
  have hm : min k (encB vs).length ≤ min k' (encB vs).length := by omega
  generalize min k (encB vs).length = p at hm
  generalize min k' (encB vs).length = q at hm
  generalize endsFrom 0 (vs.map recB) = es
  induction es with
  | nil => simp
  | cons x r ih =>
    simp only [List.filter_cons]
    split
    · rename_i h1
      have h2 : decide (x ≤ q) = true := by simp at h1 ⊢; omega
      rw [if_pos h2]
      simp
      exact ih
    · split
      · simp; omega
      · exact ih
theorem whole_all {vs : List Ver} (h : ∀ v ∈ vs, okV v) {k : Nat} (hk : (encB vs).length ≤ k) : whole vs k = vs.length := by
  obtain ⟨h1, h2⟩ := goodN_take h k
  rw [List.take_of_length_le hk] at h2
  have h3 : goodN (encB vs) = (encB vs).length := goodN_frames _ (recs_small h)
  rw [h3] at h2
  rcases Nat.lt_or_ge (whole vs k) vs.length with hl | hl
  · exfalso
    conv at h2 => lhs; rw [← List.take_append_drop (whole vs k) vs, encB_app, List.length_append]
    have h4 := encB_len (vs.drop (whole vs k))
    rw [List.length_drop] at h4
    omega
  · omega
theorem good_take {k : Nat} {vs : List Ver} (h : Good k vs) (j : Nat) : Good k (vs.take j) := by
  rw [← List.take_append_drop j vs] at h
  exact (good_app.1 h).1

/-- A crash on a good disk. -/
theorem crashD_of {a b : List Ver} (h : Good 1 (a ++ b)) (hl : (encB a).length + (encB b).length ≤ 1048576) {keep : Int} (hk : 0 ≤ keep) :
    crashD (encB a) (encB b) keep = (encB (a ++ b.take (whole b keep.toNat)), [], 0) := by
  have hb : ∀ v ∈ b, okV v := fun v hv => h.1 v (List.mem_append_right _ hv)
  unfold crashD
  rw [readD_of h hl]
  dsimp only
  rw [if_neg (by simp), if_neg (by omega)]
  have e : keepN (encB b) keep = (encB (b.take (whole b keep.toNat))).length := by
    unfold keepN
    have h1 : (encB b).take (min keep ((encB b).length : Int)).toNat = (encB b).take keep.toNat := by
      rw [take_min _ keep.toNat]; congr 1; omega
    rw [h1]
    exact (goodN_take hb _).2
  rw [e, encB_take, encB_app]

/-! The chapter's example. -/
def v0 : Ver := ⟨1, [(2, 0)], 0, true⟩
def r0 : List UInt8 := [2, 2, 4, 0, 0, 2]
theorem ok0 : okV v0 := by
  refine ⟨by decide, ?_⟩
  intro p hp
  simp [v0] at hp
  subst hp
  exact ⟨by unfold okI; omega, by unfold okI; omega⟩
theorem putI_small {n : Int} (h : 0 ≤ n) (h' : n < 64) : putI n = [UInt8.ofNat (2 * n).toNat] := by
  unfold putI zig
  rw [if_pos h, enc_lt (by omega)]
theorem rec0 : recB v0 = r0 := by
  have e1 := putI_small (n := 1) (by omega) (by omega)
  have e2 := putI_small (n := 2) (by omega) (by omega)
  have e0 := putI_small (n := 0) (by omega) (by omega)
  show putI 1 ++ ((putI 1 ++ ((putI 2 ++ putI 0) ++ [])) ++ (putI 0 ++ putI 1)) = r0
  rw [e0, e1, e2]
  rfl
def F0 : List UInt8 := encB [v0]
theorem F0_len : F0.length = 14 := by
  have e : F0 = frameB (recB v0) := by unfold F0 encB framesB; simp
  rw [e, frameB_length, rec0]
  rfl
theorem good0 : Good 1 [v0] := good_cons.2 ⟨ok0, rfl, Good.nil _⟩
theorem readD0 : readD [] [] = ([], [], 0) := readD_of (a := []) (b := []) (Good.nil _) (by simp [encB_nil])
theorem app0 : appendD [] [] v0 = ([], F0, 0) := by
  unfold appendD
  rw [readD0]
  dsimp only
  rw [if_neg (by simp), if_neg (fun hh => hh ⟨ok0.1, rfl⟩), if_neg (by rw [rec0]; simp [r0])]
  rw [List.nil_append]
  have e : F0 = frameB (recB v0) := by unfold F0 encB framesB; simp
  rw [e]
theorem scan0 : scanL F0 = [(r0, 14)] := by
  have e := scanL_frames [recB v0] (by intro x hx; simp at hx; subst hx; rw [rec0]; simp [r0])
  have e2 : F0 = framesB [recB v0] := rfl
  rw [e2, e, rec0]
  rfl
theorem crash0 (k : Int) (h : 0 ≤ k) : crashD [] F0 k = (encB ([v0].take (whole [v0] k.toNat)), [], 0) := by
  have := crashD_of (a := []) (b := [v0]) good0 (by have := F0_len; unfold F0 at this; rw [this]; simp [encB_nil]) h
  have e : encB [] = [] := rfl
  rw [e, List.nil_append] at this
  exact this
theorem crash13 : crashD [] F0 13 = ([], [], 0) := by
  rw [crash0 13 (by omega)]
  have : whole [v0] (13 : Int).toNat = 0 := by
    have h1 := goodN_take (vs := [v0]) (by intro v hv; simp at hv; subst hv; exact ok0) (13 : Int).toNat
    have h2 := goodN_le ((encB [v0]).take (13 : Int).toNat)
    rw [h1.2, List.length_take] at h2
    rcases Nat.eq_zero_or_pos (whole [v0] (13 : Int).toNat) with h0 | h0
    · exact h0
    · have h3 : [v0].take (whole [v0] (13 : Int).toNat) = [v0] := List.take_of_length_le (by rw [List.length_singleton]; exact h0)
      rw [h3] at h2
      have h4 := F0_len
      unfold F0 at h4
      rw [h4] at h2
      simp at h2
  rw [this]
  rfl
theorem crash14 : crashD [] F0 14 = (F0, [], 0) := by
  rw [crash0 14 (by omega), whole_all (by intro v hv; simp at hv; subst hv; exact ok0) (by have := F0_len; unfold F0 at this; rw [this]; decide)]
  rfl
theorem read0 : readD F0 [] = ([v0], [], 0) := readD_of (a := [v0]) (b := []) (by simpa using good0) (by have := F0_len; unfold F0 at this; rw [this]; simp [encB_nil])
end Go.Proofs.Ytfacdoemgalodaa.Jn
