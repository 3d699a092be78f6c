/-
  The journal: plain laws, no program in sight.
-/
import Derived.Test.YtfacdoemgalodaaWeekP
import Derived.Test.YtfacdoemgalodaaVer
import Derived.Test.YtfacdoemgalodaaSealJoins
namespace Go.Proofs.Ytfacdoemgalodaa.Jn
open Vi

def mayB (no cost : Int) (n : Nat) : Bool := decide (1 ≤ no ∧ no ≤ 1099511627776) && (decide (0 ≤ cost ∧ cost ≤ 1099511627776) && decide (n ≤ 64))
/-- Storable. -/
def may (v : Ver) : Bool := mayB v.no v.cost v.week.length
theorem mayB_iff {no cost : Int} {n : Nat} : mayB no cost n = true ↔ (1 ≤ no ∧ no ≤ 1099511627776) ∧ (0 ≤ cost ∧ cost ≤ 1099511627776) ∧ n ≤ 64 := by simp [mayB]
def bestI (b : Bool) : Int := if b then 1 else 0
/-- A version's record. -/
def recB (v : Ver) : List UInt8 := putI v.no ++ (putW v.week ++ (putI v.cost ++ putI (bestI v.best)))

def rd1 (b : List UInt8) : Int × Int × Int := getI b 0
def rd2 (b : List UInt8) : List Pl × Int × Int := getW b (rd1 b).2.1
def rd3 (b : List UInt8) : Int × Int × Int := getI b (rd2 b).2.1
def rd4 (b : List UInt8) : Int × Int × Int := getI b (rd3 b).2.1
def readOk (b : List UInt8) : Prop := (rd1 b).2.2 = 0 ∧ (rd2 b).2.2 = 0 ∧ (rd3 b).2.2 = 0 ∧ (rd4 b).2.2 = 0 ∧ (rd4 b).2.1 = b.length ∧ (0 ≤ (rd4 b).1 ∧ (rd4 b).1 ≤ 1) ∧ mayB (rd1 b).1 (rd3 b).1 (rd2 b).1.length = true
instance (b : List UInt8) : Decidable (readOk b) := by unfold readOk; infer_instance
/-- What a record reads as. -/
def readV (b : List UInt8) : Option Ver := if readOk b then some ⟨(rd1 b).1, (rd2 b).1, (rd3 b).1, decide ((rd4 b).1 = 1)⟩ else none

/-- The reader's next number, and its next week: nothing behind an error. -/
def nextI (l : List UInt8) (at_ er : Int) : Int × Int × Int := if er = 0 then getI l at_ else (0, at_, er)
def nextW (l : List UInt8) (at_ er : Int) : List Pl × Int × Int := if er = 0 then getW l at_ else ([], at_, er)
theorem nextI_err {l : List UInt8} {a er : Int} (h : (nextI l a er).2.2 = 0) : er = 0 ∧ nextI l a er = getI l a := by
  unfold nextI at *
  split at h
  · rename_i he; exact ⟨he, by rw [if_pos he]⟩
  · rename_i he; exact absurd h he
theorem nextW_err {l : List UInt8} {a er : Int} (h : (nextW l a er).2.2 = 0) : er = 0 ∧ nextW l a er = getW l a := by
  unfold nextW at *
  split at h
  · rename_i he; exact ⟨he, by rw [if_pos he]⟩
  · rename_i he; exact absurd h he
theorem getI_okN {l : List UInt8} (a : Int) (hl : l.length ≤ 1073741824) : okI (getI l a).1 ∧ okI (getI l a).2.1 := by
  by_cases h : (getI l a).2.2 = 0
  · have := getI_ok h; unfold okI; omega
  · rw [getI_err h]; unfold okI; simp
theorem getW_okN {l : List UInt8} (a : Int) (hl : l.length ≤ 1073741824) : okPs (getW l a).1 ∧ okI (getW l a).2.1 := by
  by_cases h : (getW l a).2.2 = 0
  · have := getW_canon h
    refine ⟨this.2.2.2.2.2.1, ?_⟩
    unfold okI; omega
  · rw [getW_err h]; exact ⟨by simp [okPs], by unfold okI; simp⟩
theorem nextI_ok {l : List UInt8} {a : Int} (er : Int) (ha : okI a) (hl : l.length ≤ 1073741824) : okI (nextI l a er).1 ∧ okI (nextI l a er).2.1 := by
  unfold nextI
  split
  · exact getI_okN a hl
  · exact ⟨by unfold okI; simp, ha⟩
theorem nextW_ok {l : List UInt8} {a : Int} (er : Int) (ha : okI a) (hl : l.length ≤ 1073741824) : okPs (nextW l a er).1 ∧ okI (nextW l a er).2.1 := by
  unfold nextW
  split
  · exact getW_okN a hl
  · exact ⟨by simp [okPs], ha⟩
def st1 (b : List UInt8) : Int × Int × Int := nextI b 0 0
def st2 (b : List UInt8) : List Pl × Int × Int := nextW b (st1 b).2.1 (st1 b).2.2
def st3 (b : List UInt8) : Int × Int × Int := nextI b (st2 b).2.1 (st2 b).2.2
def st4 (b : List UInt8) : Int × Int × Int := nextI b (st3 b).2.1 (st3 b).2.2
theorem st_rd {b : List UInt8} (h : (st4 b).2.2 = 0) : st1 b = rd1 b ∧ st2 b = rd2 b ∧ st3 b = rd3 b ∧ st4 b = rd4 b ∧ (rd1 b).2.2 = 0 ∧ (rd2 b).2.2 = 0 ∧ (rd3 b).2.2 = 0 ∧ (rd4 b).2.2 = 0 := by
  obtain ⟨e3, h4⟩ := nextI_err h
  obtain ⟨e2, h3⟩ := nextI_err (l := b) (a := (st2 b).2.1) (er := (st2 b).2.2) e3
  obtain ⟨e1, h2⟩ := nextW_err (l := b) (a := (st1 b).2.1) (er := (st1 b).2.2) e2
  have h1 : st1 b = rd1 b := by unfold st1 nextI rd1; rw [if_pos rfl]
  have g2 : st2 b = rd2 b := by show nextW _ _ _ = _; rw [h2, h1]; rfl
  have g3 : st3 b = rd3 b := by show nextI _ _ _ = _; rw [h3, g2]; rfl
  have g4 : st4 b = rd4 b := by show nextI _ _ _ = _; rw [h4, g3]; rfl
  exact ⟨h1, g2, g3, g4, by rw [← h1]; exact e1, by rw [← g2]; exact e2, by rw [← g3]; exact e3, by rw [← g4]; exact h⟩
theorem rd_st {b : List UInt8} (h1 : (rd1 b).2.2 = 0) (h2 : (rd2 b).2.2 = 0) (h3 : (rd3 b).2.2 = 0) : st1 b = rd1 b ∧ st2 b = rd2 b ∧ st3 b = rd3 b ∧ st4 b = rd4 b := by
  have g1 : st1 b = rd1 b := by unfold st1 nextI rd1; rw [if_pos rfl]
  have g2 : st2 b = rd2 b := by unfold st2 nextW; rw [g1, if_pos h1]; rfl
  have g3 : st3 b = rd3 b := by unfold st3 nextI; rw [g2, if_pos h2]; rfl
  have g4 : st4 b = rd4 b := by unfold st4 nextI; rw [g3, if_pos h3]; rfl
  exact ⟨g1, g2, g3, g4⟩
/-- What the program's reader answers is what a record reads as. -/
theorem readV_st (b : List UInt8) : readV b = if (st4 b).2.2 = 0 ∧ (st4 b).2.1 = b.length ∧ (0 ≤ (st4 b).1 ∧ (st4 b).1 ≤ 1) ∧ mayB (st1 b).1 (st3 b).1 (st2 b).1.length = true then some ⟨(st1 b).1, (st2 b).1, (st3 b).1, decide ((st4 b).1 = 1)⟩ else none := by
  unfold readV
  by_cases hr : readOk b
  · obtain ⟨h1, h2, h3, h4, h5, h6, h7⟩ := hr
    obtain ⟨g1, g2, g3, g4⟩ := rd_st h1 h2 h3
    rw [if_pos ⟨h1, h2, h3, h4, h5, h6, h7⟩, g1, g2, g3, g4, if_pos ⟨h4, h5, h6, h7⟩]
  · rw [if_neg hr]
    split
    · rename_i hh
      obtain ⟨h4, h5, h6, h7⟩ := hh
      obtain ⟨g1, g2, g3, g4, k1, k2, k3, k4⟩ := st_rd h4
      rw [g1, g2, g3] at h7
      rw [g4] at h5 h6
      exact absurd ⟨k1, k2, k3, k4, h5, h6, h7⟩ hr
    · rfl

def okV (v : Ver) : Prop := may v = true ∧ okPs v.week

theorem may_okI {v : Ver} (h : may v = true) : okI v.no ∧ okI v.cost := by
  have := mayB_iff.1 h
  unfold okI
  omega
theorem bestI_ok (b : Bool) : okI (bestI b) := by unfold okI bestI; split <;> omega

theorem readV_rec {v : Ver} (h : okV v) : readV (recB v) = some v := by
  obtain ⟨hm, hp⟩ := h
  have hi := may_okI hm
  have hm' := mayB_iff.1 hm
  have g1 : getI (recB v) 0 = (v.no, ((putI v.no).length : Int), 0) := by
    have := getI_put (l := recB v) (r := putW v.week ++ (putI v.cost ++ putI (bestI v.best))) (a := 0) (n := v.no) rfl hi.1
    simpa using this
  have e1 : (recB v).drop (putI v.no).length = putW v.week ++ (putI v.cost ++ putI (bestI v.best)) := by unfold recB; rw [List.drop_left]
  have g2 := getW_put (l := recB v) (a := (putI v.no).length) e1 hm'.2.2 hp
  have e2 : (recB v).drop ((putI v.no).length + (putW v.week).length) = putI v.cost ++ putI (bestI v.best) := by rw [← List.drop_drop, e1, List.drop_left]
  have g3 := getI_put (l := recB v) (a := (putI v.no).length + (putW v.week).length) e2 hi.2
  have e3 : (recB v).drop ((putI v.no).length + (putW v.week).length + (putI v.cost).length) = putI (bestI v.best) ++ [] := by rw [← List.drop_drop, e2, List.drop_left, List.append_nil]
  have g4 := getI_put (l := recB v) (a := (putI v.no).length + (putW v.week).length + (putI v.cost).length) e3 (bestI_ok _)
  have r1 : rd1 (recB v) = (v.no, ((putI v.no).length : Int), 0) := g1
  have r2 : rd2 (recB v) = (v.week, (((putI v.no).length + (putW v.week).length : Nat) : Int), 0) := by unfold rd2; rw [r1]; dsimp only; rw [g2]; simp
  have r3 : rd3 (recB v) = (v.cost, (((putI v.no).length + (putW v.week).length + (putI v.cost).length : Nat) : Int), 0) := by unfold rd3; rw [r2]; dsimp only; rw [g3]; simp
  have r4 : rd4 (recB v) = (bestI v.best, ((recB v).length : Int), 0) := by
    unfold rd4; rw [r3]; dsimp only; rw [g4]
    simp [recB]
    omega
  have hb : 0 ≤ bestI v.best ∧ bestI v.best ≤ 1 := by unfold bestI; split <;> omega
  unfold readV
  rw [if_pos]
  · rw [r1, r2, r3, r4]
    dsimp only
    congr
    unfold bestI
    cases v.best <;> simp
  · unfold readOk
    rw [r1, r2, r3, r4]
    exact ⟨rfl, rfl, rfl, rfl, rfl, hb, hm⟩
theorem rec_readV {b : List UInt8} {v : Ver} (h : readV b = some v) : b = recB v ∧ okV v := by
  unfold readV at h
  split at h
  · rename_i hr
    obtain ⟨h1, h2, h3, h4, h5, h6, h7⟩ := hr
    injection h with h
    subst h
    have k1 := getI_ok h1
    have c1 := getI_canon h1
    have c2 := getW_canon h2
    have k3 := getI_ok h3
    have c3 := getI_canon h3
    have k4 := getI_ok h4
    have c4 := getI_canon h4
    have b4 : (rd4 b).1 = bestI (decide ((rd4 b).1 = 1)) := by
      unfold bestI
      by_cases hh : (rd4 b).1 = 1
      · simp [hh]
      · simp [hh]; omega
    refine ⟨?_, h7, c2.2.2.2.2.2.1⟩
    have a1 : b = putI (rd1 b).1 ++ b.drop (rd1 b).2.1.toNat := c1.1
    have a2 : b.drop (rd1 b).2.1.toNat = putW (rd2 b).1 ++ b.drop (rd2 b).2.1.toNat := c2.2.1
    have a3 : b.drop (rd2 b).2.1.toNat = putI (rd3 b).1 ++ b.drop (rd3 b).2.1.toNat := c3.1
    have a4 : b.drop (rd3 b).2.1.toNat = putI (rd4 b).1 ++ b.drop (rd4 b).2.1.toNat := c4.1
    have a5 : b.drop (rd4 b).2.1.toNat = [] := by rw [h5, Int.toNat_natCast]; exact List.drop_length
    unfold recB
    dsimp only
    rw [← b4]
    rw [a5, List.append_nil] at a4
    rw [← a4, ← a3, ← a2]
    exact a1
  · cases h
theorem recB_len {v : Ver} (h : okV v) : (recB v).length ≤ 1400 := by
  have hi := may_okI h.1
  have hm' := mayB_iff.1 h.1
  have h1 := putI_len hi.1
  have h2 := putW_len h.2 (by omega)
  have h3 := putI_len hi.2
  have h4 := putI_len (bestI_ok v.best)
  unfold recB
  simp only [List.length_append]
  omega

/-- Records of versions with consecutive numbers. -/
def versL : List (List UInt8) → Nat → Option (List Ver)
  | [], _ => some []
  | x :: r, k => match readV x with | none => none | some v => if v.no = (k : Int) then (versL r (k + 1)).map (v :: ·) else none
def Good (k : Nat) (vs : List Ver) : Prop := (∀ v ∈ vs, okV v) ∧ ∀ (i : Nat) (h : i < vs.length), vs[i].no = ((k + i : Nat) : Int)
theorem Good.nil (k : Nat) : Good k [] := ⟨by simp, fun i h => by simp at h⟩
theorem good_cons {k : Nat} {v : Ver} {vs : List Ver} : Good k (v :: vs) ↔ okV v ∧ v.no = (k : Int) ∧ Good (k + 1) vs := by
  constructor
  · intro h
    refine ⟨h.1 v (by simp), (h.2 0 (by simp) : v.no = ((k + 0 : Nat) : Int)), fun x hx => h.1 x (by simp [hx]), fun i hi => ?_⟩
    have := h.2 (i + 1) (by simpa using hi)
    simp only [List.getElem_cons_succ] at this
    rw [this]; congr 1; omega
  · rintro ⟨h1, h2, h3⟩
    refine ⟨fun x hx => ?_, fun i hi => ?_⟩
    · rcases List.mem_cons.1 hx with rfl | hx
      · exact h1
      · exact h3.1 x hx
    · cases i with
      | zero => exact h2
      | succ i =>
        simp only [List.getElem_cons_succ]
        rw [h3.2 i (by simpa using hi)]; congr 1; omega
theorem good_app {k : Nat} {a b : List Ver} : Good k (a ++ b) ↔ Good k a ∧ Good (k + a.length) b := by
  induction a generalizing k with
  | nil => simp [Good.nil]
  | cons v r ih =>
    rw [List.cons_append, good_cons, good_cons, ih, List.length_cons, show k + 1 + r.length = k + (r.length + 1) by omega]
    constructor
    · rintro ⟨h1, h2, h3, h4⟩; exact ⟨⟨h1, h2, h3⟩, h4⟩
    · rintro ⟨⟨h1, h2, h3⟩, h4⟩; exact ⟨h1, h2, h3, h4⟩
theorem versL_iff : ∀ {ls : List (List UInt8)} {k : Nat} {vs : List Ver}, versL ls k = some vs ↔ ls = vs.map recB ∧ Good k vs
  | [], k, vs => by
    simp only [versL]
    constructor
    · intro h; injection h with h; subst h; exact ⟨rfl, Good.nil k⟩
    · rintro ⟨h, _⟩
      cases vs with
      | nil => rfl
      | cons v r => simp at h
  | x :: r, k, vs => by
    simp only [versL]
    constructor
    · intro h
      cases hx : readV x with
      | none => rw [hx] at h; cases h
      | some v =>
        rw [hx] at h
        dsimp only at h
        split at h
        · rename_i hn
          obtain ⟨t, ht, rfl⟩ := Option.map_eq_some_iff.1 h
          obtain ⟨e1, e2⟩ := versL_iff.1 ht
          obtain ⟨e3, e4⟩ := rec_readV hx
          exact ⟨by rw [List.map_cons, ← e1, ← e3], good_cons.2 ⟨e4, hn, e2⟩⟩
        · cases h
    · rintro ⟨h1, h2⟩
      cases vs with
      | nil => simp at h1
      | cons v t =>
        rw [List.map_cons] at h1
        injection h1 with e1 e2
        obtain ⟨g1, g2, g3⟩ := good_cons.1 h2
        rw [e1, readV_rec g1]
        dsimp only
        rw [if_pos g2, versL_iff.2 ⟨e2, g3⟩]
        rfl
noncomputable def scanL (b : List UInt8) : List (List UInt8 × Nat) := Classical.choose (scan_of b)
theorem scanL_ok (b : List UInt8) : ScanOK b 0 (scanL b) := (Classical.choose_spec (scan_of b)).1
theorem scanL_len (b : List UInt8) : (scanL b).length ≤ b.length := (Classical.choose_spec (scan_of b)).2
noncomputable def goodN (b : List UInt8) : Nat := ((scanL b).getLast?.map (·.2)).getD 0
theorem scanL_frames (ls : List (List UInt8)) (hs : ∀ x ∈ ls, x.length ≤ 65536) : scanL (framesB ls) = scFrom 0 ls := scan_unique (scanL_ok _) (scan_all ls hs)
theorem goodN_frames (ls : List (List UInt8)) (hs : ∀ x ∈ ls, x.length ≤ 65536) : goodN (framesB ls) = (framesB ls).length := by
  unfold goodN; rw [scanL_frames ls hs]; exact scFrom_last0 ls
/-- What bytes encode from number k on. -/
noncomputable def versB (b : List UInt8) (k : Nat) : Option (List Ver) := if goodN b = b.length then versL ((scanL b).map (·.1)) k else none
/-- What Read answers: the versions of Safe, of Open, and the error. -/
noncomputable def readD (s o : List UInt8) : List Ver × List Ver × Int :=
  if 1048576 < s.length + o.length then ([], [], 2)
  else match versB s 1 with
    | none => ([], [], 340)
    | some a => match versB o (1 + a.length) with
      | none => ([], [], 340)
      | some b => (a, b, 0)
theorem recs_small {vs : List Ver} (h : ∀ v ∈ vs, okV v) : ∀ x ∈ vs.map recB, x.length ≤ 65536 := fun x hx => by
  obtain ⟨v, hv, rfl⟩ := List.mem_map.1 hx
  have := recB_len (h v hv)
  omega
def encB (vs : List Ver) : List UInt8 := framesB (vs.map recB)
theorem encB_app (a b : List Ver) : encB (a ++ b) = encB a ++ encB b := by unfold encB; rw [List.map_append, framesB_append]
theorem versB_iff {b : List UInt8} {k : Nat} {vs : List Ver} : versB b k = some vs ↔ b = encB vs ∧ Good k vs := by
  unfold versB
  constructor
  · intro h
    split at h
    · rename_i hg
      obtain ⟨e1, e2⟩ := versL_iff.1 h
      obtain ⟨f1, f2, t, f3, f4⟩ := scan_is_frames b (scanL b) 0 (Nat.zero_le _) (scanL_ok b)
      have hgood : goodN b = (framesB ((scanL b).map (·.1))).length := by unfold goodN; rw [f1, scFrom_last0, scFrom_fst]
      rw [e1] at f3 hgood
      rw [List.drop_zero] at f3
      have ht : t = [] := by
        have := congrArg List.length f3
        rw [List.length_append] at this
        exact List.eq_nil_of_length_eq_zero (by omega)
      rw [ht, List.append_nil] at f3
      exact ⟨f3, e2⟩
    · cases h
  · rintro ⟨rfl, h⟩
    have hs := recs_small h.1
    unfold encB
    rw [if_pos (goodN_frames _ hs), scanL_frames _ hs, scFrom_fst]
    exact versL_iff.2 ⟨rfl, h⟩
theorem encB_len (vs : List Ver) : vs.length ≤ (encB vs).length := by
  induction vs with
  | nil => simp
  | cons v r ih =>
    have e : encB (v :: r) = frameB (recB v) ++ encB r := rfl
    rw [e, List.length_append, frameB_length, List.length_cons]
    omega
theorem versB_len {b : List UInt8} {k N : Nat} {vs : List Ver} (h : versB b k = some vs) (hb : b.length ≤ N) : vs.length ≤ N := by
  have := encB_len vs
  rw [← (versB_iff.1 h).1] at this
  omega
noncomputable def syncD (s o : List UInt8) : List UInt8 × List UInt8 × Int := if (readD s o).2.2 ≠ 0 then ([], [], (readD s o).2.2) else (s ++ o, [], 0)
noncomputable def keepN (o : List UInt8) (keep : Int) : Nat := goodN (o.take (min keep o.length).toNat)
noncomputable def crashD (s o : List UInt8) (keep : Int) : List UInt8 × List UInt8 × Int :=
  if (readD s o).2.2 ≠ 0 then ([], [], (readD s o).2.2) else if keep < 0 then ([], [], 1) else (s ++ o.take (keepN o keep), [], 0)
noncomputable def appendD (s o : List UInt8) (v : Ver) : List UInt8 × List UInt8 × Int :=
  if (readD s o).2.2 ≠ 0 then ([], [], (readD s o).2.2)
  else if ¬ (may v = true ∧ v.no = (((readD s o).1.length + (readD s o).2.1.length + 1 : Nat) : Int)) then ([], [], 1)
  else if 1048576 < s.length + (o.length + (8 + (recB v).length)) then ([], [], 2)
  else (s, o ++ frameB (recB v), 0)
theorem goodN_le (b : List UInt8) : goodN b ≤ b.length := by
  obtain ⟨f1, f2, t, f3, f4⟩ := scan_is_frames b (scanL b) 0 (Nat.zero_le _) (scanL_ok b)
  have hgood : goodN b = (framesB ((scanL b).map (·.1))).length := by unfold goodN; rw [f1, scFrom_last0, scFrom_fst]
  have := congrArg List.length f3
  rw [List.drop_zero, List.length_append] at this
  omega
theorem keepN_le (o : List UInt8) (keep : Int) : keepN o keep ≤ o.length := by
  have := goodN_le (o.take (min keep o.length).toNat)
  rw [List.length_take] at this
  unfold keepN
  omega
theorem readD_len {s o : List UInt8} : (readD s o).1.length + (readD s o).2.1.length ≤ 1048576 := by
  unfold readD
  split
  · simp
  · rename_i h
    cases h1 : versB s 1 with
    | none => simp
    | some a =>
      dsimp only
      cases h2 : versB o (1 + a.length) with
      | none => simp
      | some b =>
        dsimp only
        have l1 := versB_len h1 (Nat.le_refl _)
        have l2 := versB_len h2 (Nat.le_refl _)
        omega
theorem readD_small {s o : List UInt8} (h : (readD s o).2.2 = 0) : s.length + o.length ≤ 1048576 := by
  unfold readD at h
  split at h
  · simp at h
  · omega
end Go.Proofs.Ytfacdoemgalodaa.Jn
