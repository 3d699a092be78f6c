/-
  True and Of, each the other's inverse: plain laws, no program in sight.
-/
import Derived.Test.YtcnldbhkppfmmaaDoorWkP
namespace Go.Proofs.YtcnldbhkppfmmaaDoor.Wk
open Sc
set_option linter.unusedVariables false

theorem mix_inj {S j n j' n' : Nat} (h : n < S) (h' : n' < S) (e : j * S + n = j' * S + n') : j = j' ∧ n = n' := by
  have h1 : ∀ {j n : Nat}, n < S → (j * S + n) / S = j := fun {j n} h => by rw [Nat.mul_comm, Nat.mul_add_div (by omega), Nat.div_eq_of_lt h, Nat.add_zero]
  have e1 : j = j' := by rw [← h1 (j := j) h, ← h1 (j := j') h', e]
  subst e1
  exact ⟨rfl, by omega⟩
theorem at_nat {L S : Nat} {j n : Nat} (hj : j < L) (hn : n < S) : atI L S j n = ((j * S + n + 1 : Nat) : Int) := by
  unfold atI idx
  rw [if_pos ⟨⟨by omega, by omega⟩, ⟨by omega, by omega⟩⟩]
  simp
theorem in_nat {L S R : Nat} {j n : Nat} (hj : j < L) (hn : n < R) : inI L S R j n = ((L * S + j * R + n + 1 : Nat) : Int) := by
  unfold inI idx
  rw [if_pos ⟨⟨by omega, by omega⟩, ⟨by omega, by omega⟩⟩]
  simp
theorem onl_none {p : Nat → Bool} : ∀ n, (∀ k, k < n → p k = false) → onl p n = (0, 0)
  | 0, _ => rfl
  | n + 1, h => by rw [onl_no (h n (by omega)), onl_none n fun k hk => h k (by omega)]
theorem onl_one {p : Nat → Bool} {c : Nat} (hc : p c = true) : ∀ n, (∀ k, k < n → k ≠ c → p k = false) → c < n → onl p n = (c, 1)
  | 0, _, h => by omega
  | n + 1, h, hn => by
    by_cases hcn : n = c
    · subst hcn
      rw [onl_yes hc, onl_none n fun k hk => h k (by omega) (by omega)]
    · rw [onl_no (h n (by omega) hcn), onl_one hc n (fun k hk hne => h k (by omega) hne) (by omega)]
theorem onl_zero {p : Nat → Bool} : ∀ n, (onl p n).2 = 0 → ∀ k, k < n → p k = false
  | 0, _, k, hk => by omega
  | n + 1, h, k, hk => by
    cases hp : p n with
    | true => rw [onl_yes hp] at h; simp at h
    | false =>
      rw [onl_no hp] at h
      by_cases hkn : k = n
      · rw [hkn]; exact hp
      · exact onl_zero n h k (by omega)
theorem onl_uniq {p : Nat → Bool} : ∀ n, (onl p n).2 = 1 → (onl p n).1 < n ∧ ∀ k, k < n → (p k = true ↔ k = (onl p n).1)
  | 0, h => by simp [onl] at h
  | n + 1, h => by
    cases hp : p n with
    | true =>
      rw [onl_yes hp] at h ⊢
      have h0 : (onl p n).2 = 0 := by simpa using h
      refine ⟨by simp, fun k hk => ?_⟩
      dsimp only
      constructor
      · intro hk2
        by_cases hkn : k = n
        · exact hkn
        · rw [onl_zero n h0 k (by omega)] at hk2; cases hk2
      · rintro rfl; exact hp
    | false =>
      rw [onl_no hp] at h ⊢
      obtain ⟨h1, h2⟩ := onl_uniq n h
      refine ⟨by omega, fun k hk => ?_⟩
      by_cases hkn : k = n
      · subst hkn
        rw [hp]
        constructor
        · intro h; cases h
        · intro h; omega
      · exact h2 k (by omega)
/-- Which variables True's assignment makes true. -/
theorem trK_get {L S R : Nat} {ps : List Pl} : ∀ k, ∀ v, v < L * (S + R) + 1 → ((trK L S R ps k)[v]? = some true ↔ ∃ j, j < k ∧ (v = (atI L S j (ps.getD j (0, 0)).1).toNat ∨ v = (inI L S R j (ps.getD j (0, 0)).2).toNat))
  | 0, v, hv => by
    rw [trK, List.getElem?_replicate, if_pos hv]
    simp
  | k + 1, v, hv => by
    have ih := trK_get (R := R) (ps := ps) k v hv
    have hl := trK_length L S R ps k
    rw [trK, List.getElem?_set, List.getElem?_set, List.length_set, hl]
    by_cases h1 : (inI L S R k (ps.getD k (0, 0)).2).toNat = v
    · rw [if_pos h1, if_pos (by rw [h1]; exact hv)]
      simp only [true_iff]
      exact ⟨k, by omega, .inr h1.symm⟩
    · rw [if_neg h1]
      by_cases h2 : (atI L S k (ps.getD k (0, 0)).1).toNat = v
      · rw [if_pos h2, if_pos (by rw [h2]; exact hv)]
        simp only [true_iff]
        exact ⟨k, by omega, .inl h2.symm⟩
      · rw [if_neg h2, ih]
        constructor
        · rintro ⟨j, hj, h⟩; exact ⟨j, by omega, h⟩
        · rintro ⟨j, hj, h⟩
          by_cases hjk : j = k
          · subst hjk
            rcases h with h | h
            · exact absurd h.symm h2
            · exact absurd h.symm h1
          · exact ⟨j, by omega, h⟩
section
variable {L S R : Nat} {ps : List Pl}
theorem placed_at (hp : ∀ p ∈ ps, placed S R p) {j : Nat} (hj : j < ps.length) : ∃ a b : Nat, ps.getD j (0, 0) = ((a : Int), (b : Int)) ∧ a < S ∧ b < R := by
  have e : ps.getD j (0, 0) = ps[j] := by rw [List.getD_eq_getElem?_getD, List.getElem?_eq_getElem hj]; rfl
  obtain ⟨⟨a0, a1⟩, b0, b1⟩ := hp _ (List.getElem_mem hj)
  rw [e]
  refine ⟨ps[j].1.toNat, ps[j].2.toNat, ?_, by omega, by omega⟩
  rw [Int.toNat_of_nonneg a0, Int.toNat_of_nonneg b0]
theorem holds_iff {a : List Bool} {v : Nat} : holds a (v : Int) = true ↔ a[v]? = some true := by
  unfold holds
  rw [Int.toNat_natCast, List.getD_eq_getElem?_getD]
  by_cases h : v < a.length
  · rw [List.getElem?_eq_getElem h]; simp; omega
  · rw [List.getElem?_eq_none (by omega)]; simp
/-- The slot's variables in True's assignment. -/
theorem tr_slot (hl : ps.length = L) (hp : ∀ p ∈ ps, placed S R p) {j n : Nat} (hj : j < L) (hn : n < S) : holds (trK L S R ps L) (atI L S j n) = true ↔ ((n : Nat) : Int) = (ps.getD j (0, 0)).1 := by
  rw [at_nat hj hn, holds_iff]
  have hlt := mul_lt hj hn
  rw [trK_get L _ (by rw [Nat.mul_add]; omega)]
  constructor
  · rintro ⟨i, hi, h | h⟩
    · obtain ⟨a, b, e, ha, hb⟩ := placed_at hp (j := i) (by omega)
      rw [e] at h
      dsimp only at h
      rw [at_nat hi ha, Int.toNat_natCast] at h
      obtain ⟨rfl, rfl⟩ := mix_inj hn ha (Nat.succ.inj h)
      rw [e]
    · obtain ⟨a, b, e, ha, hb⟩ := placed_at hp (j := i) (by omega)
      rw [e] at h
      dsimp only at h
      rw [in_nat hi hb, Int.toNat_natCast] at h
      omega
  · intro h
    obtain ⟨a, b, e, ha, hb⟩ := placed_at hp (j := j) (by omega)
    rw [e] at h
    dsimp only at h
    refine ⟨j, hj, .inl ?_⟩
    rw [e]
    dsimp only
    rw [at_nat hj ha, Int.toNat_natCast]
    have : n = a := by omega
    rw [this]
theorem tr_room (hl : ps.length = L) (hp : ∀ p ∈ ps, placed S R p) {j n : Nat} (hj : j < L) (hn : n < R) : holds (trK L S R ps L) (inI L S R j n) = true ↔ ((n : Nat) : Int) = (ps.getD j (0, 0)).2 := by
  rw [in_nat hj hn, holds_iff]
  have hlt := mul_lt hj hn
  rw [trK_get L _ (by rw [Nat.mul_add]; omega)]
  constructor
  · rintro ⟨i, hi, h | h⟩
    · obtain ⟨a, b, e, ha, hb⟩ := placed_at hp (j := i) (by omega)
      rw [e] at h
      dsimp only at h
      rw [at_nat hi ha, Int.toNat_natCast] at h
      have := mul_lt hi ha
      omega
    · obtain ⟨a, b, e, ha, hb⟩ := placed_at hp (j := i) (by omega)
      rw [e] at h
      dsimp only at h
      rw [in_nat hi hb, Int.toNat_natCast] at h
      obtain ⟨rfl, rfl⟩ := mix_inj hn hb (by have := Nat.succ.inj h; rw [Nat.add_assoc, Nat.add_assoc] at this; exact Nat.add_left_cancel this)
      rw [e]
  · intro h
    obtain ⟨a, b, e, ha, hb⟩ := placed_at hp (j := j) (by omega)
    rw [e] at h
    dsimp only at h
    refine ⟨j, hj, .inr ?_⟩
    rw [e]
    dsimp only
    rw [in_nat hj hb, Int.toNat_natCast]
    have : n = b := by omega
    rw [this]
theorem of_tr (hl : ps.length = L) (hp : ∀ p ∈ ps, placed S R p) {j : Nat} (hj : j < L) : ofOk L S R (trK L S R ps L) j ∧ ofPl L S R (trK L S R ps L) j = ps.getD j (0, 0) := by
  obtain ⟨a, b, e, ha, hb⟩ := placed_at hp (j := j) (by omega)
  have h1 : slotOf L S (trK L S R ps L) j = (a, 1) := by
    refine onl_one ?_ S (fun k hk hne => ?_) ha
    · rw [tr_slot hl hp hj ha, e]
    · rw [← Bool.not_eq_true, tr_slot hl hp hj hk, e]; dsimp only; omega
  have h2 : roomOf L S R (trK L S R ps L) j = (b, 1) := by
    refine onl_one ?_ R (fun k hk hne => ?_) hb
    · rw [tr_room hl hp hj hb, e]
    · rw [← Bool.not_eq_true, tr_room hl hp hj hk, e]; dsimp only; omega
  unfold ofOk ofPl
  rw [h1, h2, e]
  exact ⟨⟨rfl, rfl⟩, rfl⟩
end
/-- Of undoes True. -/
theorem rt_of {s : Sch} {ps : List Pl} (h : wchk s ps = 0) : ofR s (trR s ps).1 = (ps, 0) := by
  obtain ⟨h0, hl, hp⟩ := wchk_zero h
  unfold trR
  rw [if_neg (fun hh => hh h)]
  unfold ofR
  rw [if_neg (fun hh => hh h0), if_pos (fun j hj => (of_tr hl hp hj).1)]
  congr 1
  refine List.ext_getElem (by rw [List.length_map, List.length_range, hl]) fun j h1 h2 => ?_
  rw [List.getElem_map, List.getElem_range]
  rw [List.length_map, List.length_range] at h1
  rw [(of_tr hl hp h1).2, List.getD_eq_getElem?_getD, List.getElem?_eq_getElem h2]
  rfl
/-- What Of reads is a week, and True of it tells what the assignment tells. -/
theorem rt_tr {s : Sch} {a : List Bool} (h : (ofR s a).2 = 0) : wchk s (ofR s a).1 = 0 ∧ ∀ v : Nat, 1 ≤ v → v < s.lessons.length * (s.slots.length + s.rooms.length) + 1 → (((trR s (ofR s a).1).1)[v]? = some (holds a (v : Int))) := by
  have h0 : chk s = 0 := by
    unfold ofR at h
    split at h
    · rename_i hh; exact absurd h hh
    · rename_i hh; exact Classical.not_not.1 hh
  by_cases hall : ∀ j, j < s.lessons.length → ofOk s.lessons.length s.slots.length s.rooms.length a j
  · have e : ofR s a = ((List.range s.lessons.length).map (ofPl s.lessons.length s.slots.length s.rooms.length a), 0) := by
      unfold ofR; rw [if_neg (fun hh => hh h0), if_pos hall]
    rw [e]
    dsimp only
    generalize hL : s.lessons.length = L at *
    generalize hS : s.slots.length = S at *
    generalize hR : s.rooms.length = R at *
    have hq : ∀ j, j < L → ((slotOf L S a j).1 < S ∧ ∀ k, k < S → (holds a (atI L S j k) = true ↔ k = (slotOf L S a j).1)) ∧ ((roomOf L S R a j).1 < R ∧ ∀ k, k < R → (holds a (inI L S R j k) = true ↔ k = (roomOf L S R a j).1)) := fun j hj =>
      ⟨onl_uniq S (hall j hj).1, onl_uniq R (hall j hj).2⟩
    have hp : ∀ p ∈ (List.range L).map (ofPl L S R a), placed S R p := by
      intro p hp
      obtain ⟨j, hj, rfl⟩ := List.mem_map.1 hp
      rw [List.mem_range] at hj
      obtain ⟨⟨h1, _⟩, h2, _⟩ := hq j hj
      exact ⟨⟨by simp [ofPl], by simp [ofPl]; omega⟩, by simp [ofPl], by simp [ofPl]; omega⟩
    have hlen : ((List.range L).map (ofPl L S R a)).length = L := by simp
    have hwk : wkOk s ((List.range L).map (ofPl L S R a)) := ⟨by rw [hlen, hL], by rw [hS, hR]; exact hp⟩
    have hw : wchk s ((List.range L).map (ofPl L S R a)) = 0 := wchk_ok h0 hwk
    refine ⟨hw, fun v hv1 hv2 => ?_⟩
    unfold trR
    rw [if_neg (fun hh => hh hw), hL, hS, hR]
    dsimp only
    have hget : ∀ j, j < L → ((List.range L).map (ofPl L S R a)).getD j (0, 0) = ofPl L S R a j := fun j hj => by
      rw [List.getD_eq_getElem?_getD, List.getElem?_eq_getElem (by rw [hlen]; exact hj)]; simp
    have hvl : v < (trK L S R ((List.range L).map (ofPl L S R a)) L).length := by rw [trK_length]; exact hv2
    have key : holds (trK L S R ((List.range L).map (ofPl L S R a)) L) (v : Int) = holds a (v : Int) := by
      rw [Nat.mul_add] at hv2
      by_cases hsl : v ≤ L * S
      · have hS0 : 0 < S := by
          rcases Nat.eq_zero_or_pos S with h0 | h0
          · rw [h0, Nat.mul_zero] at hsl; omega
          · exact h0
        obtain ⟨j, n, hn, hjn⟩ : ∃ j n, n < S ∧ v = j * S + n + 1 := ⟨(v - 1) / S, (v - 1) % S, Nat.mod_lt _ hS0, by
          have := Nat.div_add_mod (v - 1) S
          rw [Nat.mul_comm] at this
          omega⟩
        have hj : j < L := by
          rcases Nat.lt_or_ge j L with h | h
          · exact h
          · have := Nat.mul_le_mul_right S h; omega
        have ev : ((v : Nat) : Int) = atI L S j n := by rw [at_nat hj hn, hjn]
        rw [ev, Bool.eq_iff_iff, tr_slot hlen hp hj hn, (hq j hj).1.2 n hn, hget j hj]
        unfold ofPl
        dsimp only
        omega
      · have hR0 : 0 < R := by
          rcases Nat.eq_zero_or_pos R with h0 | h0
          · rw [h0, Nat.mul_zero] at hv2; omega
          · exact h0
        obtain ⟨j, n, hn, hjn⟩ : ∃ j n, n < R ∧ v = L * S + j * R + n + 1 := ⟨(v - 1 - L * S) / R, (v - 1 - L * S) % R, Nat.mod_lt _ hR0, by
          have := Nat.div_add_mod (v - 1 - L * S) R
          rw [Nat.mul_comm] at this
          omega⟩
        have hj : j < L := by
          rcases Nat.lt_or_ge j L with h | h
          · exact h
          · have := Nat.mul_le_mul_right R h; omega
        have ev : ((v : Nat) : Int) = inI L S R j n := by rw [in_nat hj hn, hjn]
        rw [ev, Bool.eq_iff_iff, tr_room hlen hp hj hn, (hq j hj).2.2 n hn, hget j hj]
        unfold ofPl
        dsimp only
        omega
    rw [← key]
    unfold holds
    rw [Int.toNat_natCast, List.getD_eq_getElem?_getD, List.getElem?_eq_getElem hvl]
    simp
    omega
  · exfalso
    unfold ofR at h
    rw [if_neg (fun hh => hh h0), if_neg hall] at h
    cases h
theorem ofR_err {s : Sch} {a : List Bool} (h : (ofR s a).2 ≠ 0) : (ofR s a).1 = [] := by
  unfold ofR at *
  split
  · rfl
  · split
    · rename_i h1 h2; rw [if_neg h1, if_pos h2] at h; exact absurd rfl h
    · rfl
theorem trR_err {s : Sch} {ps : List Pl} : (trR s ps).2 = wchk s ps := by
  unfold trR
  split
  · rfl
  · rename_i h; exact (Classical.not_not.1 h).symm
end Go.Proofs.YtcnldbhkppfmmaaDoor.Wk
