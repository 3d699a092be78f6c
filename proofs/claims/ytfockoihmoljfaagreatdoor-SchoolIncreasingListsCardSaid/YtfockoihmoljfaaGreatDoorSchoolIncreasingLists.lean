/-
  SchoolIncreasingLists, walked.
-/
import Derived.Test.YtfockoihmoljfaaGreatDoorLive3
import Derived.Test.YtfockoihmoljfaaGreatDoorFewW3
import Derived.Laws.Bits128
import Derived.Laws.OwnMore
namespace Go.Proofs.YtfockoihmoljfaaGreatDoor
open Go.RowKit Go.Shelf
set_option linter.unusedVariables false
set_option linter.unusedSimpArgs false

theorem i64_and65535 (n : Int) : bits .and .i64 n 65535 = n % 65536 := by
  have h1 : (BitVec.ofInt 64 65535).toNat = 2 ^ 16 - 1 := by decide
  have key : (BitVec.ofInt 64 n &&& BitVec.ofInt 64 65535).toNat = (n % ((2 ^ 64 : Nat) : Int)).toNat % 2 ^ 16 := by
    rw [BitVec.toNat_and, BitVec.toNat_ofInt, h1, Nat.and_two_pow_sub_one_eq_mod]
  show IntKind.i64.wrap ((BitVec.ofInt 64 n &&& BitVec.ofInt 64 65535).toNat : Nat) = n % 65536
  rw [key, IntKind.wrap_i64]
  omega
theorem and_mod (x : Int) {n : Nat} (h : 0 < n) : ∃ k : Nat, k < n ∧ (bits .and .i64 x 65535).tmod (n : Int) = (k : Int) := by
  refine ⟨(x % 65536).toNat % n, Nat.mod_lt _ h, ?_⟩
  have h0 : 0 ≤ x % 65536 := Int.emod_nonneg _ (by omega)
  rw [i64_and65535, Int.tmod_eq_emod_of_nonneg h0, Int.natCast_emod, Int.toNat_of_nonneg h0]
theorem flatten_set {k : Nat} {u : Value} : ∀ {rows : List (List Value)}, (∀ r ∈ rows, r.length = k) → ∀ {i j : Nat} {r : List Value}, rows[i]? = some r → j < k → rows.flatten.set (i * k + j) u = (rows.set i (r.set j u)).flatten
  | [], _, i, j, r, hr, _ => by simp at hr
  | x :: rest, hk, 0, j, r, hr, hj => by
    simp at hr
    subst hr
    have hx : x.length = k := hk x (by simp)
    rw [Nat.zero_mul, Nat.zero_add, List.set_cons_zero, List.flatten_cons, List.flatten_cons, List.set_append_left _ _ (by omega)]
  | x :: rest, hk, i + 1, j, r, hr, hj => by
    have hx : x.length = k := hk x (by simp)
    have ih := flatten_set (u := u) (rows := rest) (fun y hy => hk y (by simp [hy])) (i := i) (j := j) (r := r) (by simpa using hr) hj
    rw [List.set_cons_succ, List.flatten_cons, List.flatten_cons, ← ih, List.set_append_right _ _ (by rw [hx, Nat.succ_mul]; omega)]
    congr 2
    rw [hx, Nat.succ_mul]; omega
theorem own_some {w : World} {base e size n : Nat} {v : Value} {xs : List Value} (h : w.ownsRow base e size v n xs) (hn : 0 < n) : ∃ g q, v = .slice (some ⟨g, 0, none⟩) n q := by
  rcases h.2 with ⟨_, h0⟩ | ⟨g, cap, cur, e, _⟩
  · omega
  · exact ⟨g, cap, e⟩
/-- The rooms with two closed slots of one of them. -/
theorem rooms_shut {W : World} {B : Nat} {A A' : Option Addr} {n c c' kk : Nat} {rooms : List Sc.Roo} {rows : List (List Value)} {a b : Int} (hl : rows.length = rooms.length) (hk : ∀ r ∈ rows, r.length = 4)
    (hR : ∀ (i : Nat) (x : Sc.Roo) (r : List Value), rooms[i]? = some x → rows[i]? = some r → Sc.RRoo W B x r) (hkk : kk < rooms.length) (hI : RdI W B A' 2 c' [a, b]) (h : RdK 4 W B A n c (rows.flatten.set (kk * 4 + 3) (.slice A' 2 c'))) :
    RdS 4 Sc.RRoo W B A n c (rooms.modify kk fun x => { x with shut := [a, b] }) := by
  have hkl : kk < rows.length := by omega
  have hr : rows[kk]? = some rows[kk] := List.getElem?_eq_getElem hkl
  have hx : rooms[kk]? = some rooms[kk] := List.getElem?_eq_getElem hkk
  rw [flatten_set hk hr (by omega)] at h
  refine ⟨_, by simp [hl], ?_, h, ?_⟩
  · intro r hr'
    rcases List.mem_or_eq_of_mem_set hr' with h1 | h1
    · exact hk r h1
    · rw [h1, List.length_set]; exact hk _ (List.getElem_mem hkl)
  · intro i x r hi hri
    rw [List.getElem?_modify] at hi
    rw [List.getElem?_set] at hri
    obtain ⟨z, hz, hzx⟩ := Option.map_eq_some_iff.1 hi
    by_cases e : kk = i
    · subst e
      rw [if_pos rfl] at hzx
      rw [if_pos rfl, if_pos hkl] at hri
      cases hri
      subst hzx
      have hz' := hR kk z _ hz hr
      obtain ⟨A1, c1, e1, _, e3⟩ := hz'
      refine ⟨A', c', ?_, hI, e3⟩
      rw [e1]; rfl
    · rw [if_neg e] at hzx hri
      subst hzx
      exact hR i z r hz hri

theorem step8 {w6 : World} {bw bx g q6 nR kk m base : Nat} {F : List Value} {cs0 : Array Value} {y0 y1 y2 y3 y4 : Value} (p q : Int) (o6 : w6.ownsRow base 53 4 (.slice (some ⟨g, 0, none⟩) nR q6) nR F) (b0 : w6.heap[bw]? = some (.cells cs0 28))
    (bX : w6.heap[bx]? = some (.cells #[y0, y1, y2, y3, y4] 28)) (hxg : bx ≠ g) (hwg : bw ≠ g) (hxw : bx ≠ bw) (hk : kk < nR) (hm : m ≤ bx) (hm' : m ≤ g) :
    (∃ zv, ((w6.setCell ⟨bx, 1, none⟩ (.slice (some ⟨g, 0, none⟩) nR q6)).alloc (.cells #[.int .i64 p, .int .i64 q] 3)).cell? ⟨g, kk * 4 + 3, none⟩ = some zv) ∧
    ((w6.setCell ⟨bx, 1, none⟩ (.slice (some ⟨g, 0, none⟩) nR q6)).alloc (.cells #[.int .i64 p, .int .i64 q] 3)).frozen? ⟨g, kk * 4 + 3, none⟩ = false ∧
    (((w6.setCell ⟨bx, 1, none⟩ (.slice (some ⟨g, 0, none⟩) nR q6)).alloc (.cells #[.int .i64 p, .int .i64 q] 3)).setCell ⟨g, kk * 4 + 3, none⟩ (.slice (some ⟨w6.heap.size, 0, none⟩) 2 2)).heap[bw]? = some (.cells cs0 28) ∧
    (((w6.setCell ⟨bx, 1, none⟩ (.slice (some ⟨g, 0, none⟩) nR q6)).alloc (.cells #[.int .i64 p, .int .i64 q] 3)).setCell ⟨g, kk * 4 + 3, none⟩ (.slice (some ⟨w6.heap.size, 0, none⟩) 2 2)).heap[bx]? = some (.cells #[y0, .slice (some ⟨g, 0, none⟩) nR q6, y2, y3, y4] 28) ∧
    (((w6.setCell ⟨bx, 1, none⟩ (.slice (some ⟨g, 0, none⟩) nR q6)).alloc (.cells #[.int .i64 p, .int .i64 q] 3)).setCell ⟨g, kk * 4 + 3, none⟩ (.slice (some ⟨w6.heap.size, 0, none⟩) 2 2)).heap[w6.heap.size]? = some (.cells #[.int .i64 p, .int .i64 q] 3) ∧
    (((w6.setCell ⟨bx, 1, none⟩ (.slice (some ⟨g, 0, none⟩) nR q6)).alloc (.cells #[.int .i64 p, .int .i64 q] 3)).setCell ⟨g, kk * 4 + 3, none⟩ (.slice (some ⟨w6.heap.size, 0, none⟩) 2 2)).ownsRow base 53 4 (.slice (some ⟨g, 0, none⟩) nR q6) nR (F.set (kk * 4 + 3) (.slice (some ⟨w6.heap.size, 0, none⟩) 2 2)) ∧
    Below m w6 (((w6.setCell ⟨bx, 1, none⟩ (.slice (some ⟨g, 0, none⟩) nR q6)).alloc (.cells #[.int .i64 p, .int .i64 q] 3)).setCell ⟨g, kk * 4 + 3, none⟩ (.slice (some ⟨w6.heap.size, 0, none⟩) 2 2)) := by
  obtain ⟨W7, hW7⟩ : ∃ W7, W7 = w6.setCell ⟨bx, 1, none⟩ (.slice (some ⟨g, 0, none⟩) nR q6) := ⟨_, rfl⟩
  have o7 := own_set (u := .slice (some ⟨g, 0, none⟩) nR q6) o6 (p := ⟨bx, 1, none⟩) (fun g' hg' => by cases hg'; exact hxg)
  have b07 := blk_other (p := ⟨bx, 1, none⟩) (.slice (some ⟨g, 0, none⟩) nR q6) b0 hxw
  have bX7 := blk_set (k := 1) (.slice (some ⟨g, 0, none⟩) nR q6) bX
  simp only [List.setIfInBounds_toArray, List.set_cons_zero, List.set_cons_succ] at bX7
  have hb7 := (Below.refl m w6).setCell (p := ⟨bx, 1, none⟩) hm (.slice (some ⟨g, 0, none⟩) nR q6)
  have hs7 : W7.heap.size = w6.heap.size := by rw [hW7]; simp
  rw [← hW7] at o7 b07 bX7 hb7 ⊢
  have hlt6 := blk_lt bX
  have hglt := own_some_lt o7
  obtain ⟨W8, hW8⟩ : ∃ W8, W8 = W7.alloc (.cells #[.int .i64 p, .int .i64 q] 3) := ⟨_, rfl⟩
  have o8 := o7.alloc (.cells #[.int .i64 p, .int .i64 q] 3)
  have bP8 := blk_new hW8
  rw [hs7] at bP8
  have hb78 := below_new hW8
  have b08 := blk_below b07 hb78
  have bX8 := blk_below bX7 hb78
  have hb8 : Below m w6 W8 := hb7.trans (hb78.mono (by omega))
  rw [← hW8] at o8 ⊢
  refine ⟨own_cell o8 (by omega), o8.frozenAt _, blk_other _ b08 (fun e => hwg e.symm), blk_other _ bX8 (fun e => hxg e.symm), blk_other _ bP8 (fun e => ?_), (o8.stored (kk * 4 + 3) _).1, hb8.setCell hm' _⟩
  have e' : g = w6.heap.size := e
  omega

set_option maxRecDepth 100000 in
set_option maxHeartbeats 8000000 in
theorem schoolIncreasingLists_any (f : Sc.Five) (s : Sc.Sch) (x p q : Int) (mx : Int) (w : World) (hS : Sc.RdSch w w.heap.size f s) (hF : f.nS ≤ 5864062014805 ∧ f.nR ≤ 5864062014805 ∧ f.nP ≤ 5864062014805 ∧ f.nG ≤ 5864062014805 ∧ f.nL ≤ 5864062014805) (hx : okI x) (hp : okI p) (hq : okI q) (hm : w.cell? ⟨0, 0, none⟩ = some (.int .i64 mx)) :
    Calls Tryz.prog 9 #[.agg f.vals, .int .i64 x, .int .i64 p, .int .i64 q] w fun e w' => e = .returned (.bool true) ∧ Below w.heap.size w w' := by
  have hbt := Below.refl w.heap.size w
  have HF := Lib.hid hF
  clear hF
  have HLN := Lib.hid hS.lens
  have mS : f.nS ≤ f.cS ∧ f.cS ≤ 9223372036854775807 := ⟨hS.slots.le, hS.slots.max⟩
  have mR : f.nR ≤ f.cR ∧ f.cR ≤ 9223372036854775807 := ⟨hS.rooms.le, hS.rooms.max⟩
  have mP : f.nP ≤ f.cP ∧ f.cP ≤ 9223372036854775807 := ⟨hS.people.le, hS.people.max⟩
  have mG : f.nG ≤ f.cG ∧ f.cG ≤ 9223372036854775807 := ⟨hS.groups.le, hS.groups.max⟩
  have mL : f.nL ≤ f.cL ∧ f.cL ≤ 9223372036854775807 := ⟨hS.lessons.le, hS.lessons.max⟩
  obtain ⟨V1, hV⟩ : ∃ V1, V1 = w.alloc (.cells #[.slice f.aS f.nS f.cS, .slice f.aR f.nR f.cR, .slice f.aP f.nP f.cP, .slice f.aG f.nG f.cG, .slice f.aL f.nL f.cL] 28) := ⟨_, rfl⟩
  have b0 := blk_new hV
  have hb := below_new hV
  replace hS := (hS.below hb).more hb.size
  replace hm := (hb.cell (World.block_lt_of_cell? _ _ hm)).trans hm
  replace hbt := hbt.trans (hb.mono hbt.size)
  clear hb
  have HSV1 : Hid (V1.heap.size = w.heap.size + 1) := by show V1.heap.size = _; rw [hV, World.size_alloc]
  have HVV1 := Lib.hid hV.symm
  clear hV
  clear HSV1
  unfold Sc.Five.vals
  go_enter Tryz.func9, Tryz.ntmps9
  go_wp2_with fail
  rw [HVV1.out]
  clear HVV1
  refine (live3_any mx V1 hm).mono ?_
  rintro e w1 ⟨rfl, hb⟩
  replace hS := (hS.below hb).more hb.size
  replace hm := (hb.cell (World.block_lt_of_cell? _ _ hm)).trans hm
  replace b0 := blk_below b0 hb
  replace hbt := hbt.trans (hb.mono hbt.size)
  clear hb
  have c0 := blk_cell (j := 0) b0
  simp only [List.getElem?_toArray, List.getElem?_cons_zero, List.getElem?_cons_succ] at c0
  have c1 := blk_cell (j := 1) b0
  simp only [List.getElem?_toArray, List.getElem?_cons_zero, List.getElem?_cons_succ] at c1
  have c2 := blk_cell (j := 2) b0
  simp only [List.getElem?_toArray, List.getElem?_cons_zero, List.getElem?_cons_succ] at c2
  have c3 := blk_cell (j := 3) b0
  simp only [List.getElem?_toArray, List.getElem?_cons_zero, List.getElem?_cons_succ] at c3
  have c4 := blk_cell (j := 4) b0
  simp only [List.getElem?_toArray, List.getElem?_cons_zero, List.getElem?_cons_succ] at c4
  go_wp2_with fail
  clear c0 c1 c2 c3 c4
  refine (rFew3_any f s w1 hS HF.out).mono ?_
  rintro e w2 ⟨bo, rfl, hbo, hb⟩
  have HB := Lib.hid hbo
  clear hbo
  replace hS := (hS.below hb).more hb.size
  replace hm := (hb.cell (World.block_lt_of_cell? _ _ hm)).trans hm
  replace b0 := blk_below b0 hb
  replace hbt := hbt.trans (hb.mono hbt.size)
  clear hb
  cases bo with
  | false =>
    go_wp2_with fail
    go_ret
    exact ⟨rfl, hbt⟩
  | true =>
    have hz := HB.out rfl
    have HZ := Lib.hid hz
    clear hz HB
    unfold okI at hx hp hq
    have c0 := blk_cell (j := 0) b0
    simp only [List.getElem?_toArray, List.getElem?_cons_zero, List.getElem?_cons_succ] at c0
    have c1 := blk_cell (j := 1) b0
    simp only [List.getElem?_toArray, List.getElem?_cons_zero, List.getElem?_cons_succ] at c1
    have c2 := blk_cell (j := 2) b0
    simp only [List.getElem?_toArray, List.getElem?_cons_zero, List.getElem?_cons_succ] at c2
    have c3 := blk_cell (j := 3) b0
    simp only [List.getElem?_toArray, List.getElem?_cons_zero, List.getElem?_cons_succ] at c3
    have c4 := blk_cell (j := 4) b0
    simp only [List.getElem?_toArray, List.getElem?_cons_zero, List.getElem?_cons_succ] at c4
    go_wp2_with fail
    clear c0 c1 c2 c3 c4
    refine (sCheck_any f s mx w2 hS hm).mono ?_
    rintro e w3 ⟨rfl, hb⟩
    obtain ⟨er, her⟩ : ∃ er, er = Sc.chk s := ⟨_, rfl⟩
    rw [← her]
    have HER := Lib.hid her
    clear her
    replace hS := (hS.below hb).more hb.size
    replace hm := (hb.cell (World.block_lt_of_cell? _ _ hm)).trans hm
    replace b0 := blk_below b0 hb
    replace hbt := hbt.trans (hb.mono hbt.size)
    clear hb
    by_cases he : er = 0
    · rw [HER.out] at he
      have HOK := Lib.hid he
      have h0 : er = 0 := by rw [HER.out]; exact he
      subst h0
      clear he HER
      have hR0 : 0 < f.nR := by
        have h2 := (Sc.chk_ok.1 HOK.out).1.2.2.2.1
        rw [← HLN.out.2.1]
        exact List.length_pos_iff.2 h2
      obtain ⟨kk, hk1, ek⟩ := and_mod x hR0
      have t1 : ((f.nR : Int) == 0) = false := by simp; omega
      have t2 : (f.nR == 0) = false := by simp; omega
      have hz := HZ.out
      have hbt3 := hbt
      have hws := blk_lt b0
      have hb35 := Below.refl w3.heap.size w3
      have c0 := blk_cell (j := 0) b0
      simp only [List.getElem?_toArray, List.getElem?_cons_zero, List.getElem?_cons_succ] at c0
      have c1 := blk_cell (j := 1) b0
      simp only [List.getElem?_toArray, List.getElem?_cons_zero, List.getElem?_cons_succ] at c1
      have c2 := blk_cell (j := 2) b0
      simp only [List.getElem?_toArray, List.getElem?_cons_zero, List.getElem?_cons_succ] at c2
      have c3 := blk_cell (j := 3) b0
      simp only [List.getElem?_toArray, List.getElem?_cons_zero, List.getElem?_cons_succ] at c3
      have c4 := blk_cell (j := 4) b0
      simp only [List.getElem?_toArray, List.getElem?_cons_zero, List.getElem?_cons_succ] at c4
      obtain ⟨V4, hV⟩ : ∃ V4, V4 = w3.alloc (.cells #[.slice f.aS f.nS f.cS, .slice f.aR f.nR f.cR, .slice f.aP f.nP f.cP, .slice f.aG f.nG f.cG, .slice f.aL f.nL f.cL] 28) := ⟨_, rfl⟩
      have b4 := blk_new hV
      have hb := below_new hV
      replace hb35 := hb35.trans (hb.mono hb35.size)
      replace hbt := hbt.trans (hb.mono hbt.size)
      clear hb
      have HSV4 : Hid (V4.heap.size = w3.heap.size + 1) := by show V4.heap.size = _; rw [hV, World.size_alloc]
      have HVV4 := Lib.hid hV.symm
      clear hV
      obtain ⟨V5, hV⟩ : ∃ V5, V5 = V4.alloc (.cells #[] 53) := ⟨_, rfl⟩
      have b5 := blk_new hV
      have hb := below_new hV
      replace hb35 := hb35.trans (hb.mono hb35.size)
      replace b4 := blk_below b4 hb
      replace hbt := hbt.trans (hb.mono hbt.size)
      clear hb
      have HSV5 : Hid (V5.heap.size = V4.heap.size + 1) := by show V5.heap.size = _; rw [hV, World.size_alloc]
      have HVV5 := Lib.hid hV.symm
      clear hV
      replace hbt := hbt3
      have o0 := World.ownsRow_lit (base := V4.heap.size) (e := 53) (size := 4) V4 #[] 0 (Nat.le_refl _) (by unfold maxLen; omega) rfl
      rw [HVV5.out, HSV4.out] at o0
      rw [← HVV4.out] at HVV5
      have hs5 : V5.heap.size = w3.heap.size + 2 := by have := HSV5.out; rw [HSV4.out] at this; exact this
      have HS5 := Lib.hid hs5
      clear hs5 HVV4 HSV4 HSV5 b5
      have b05 := blk_below b0 hb35
      have d0 := blk_cell (j := 0) b05
      simp only [List.getElem?_toArray, List.getElem?_cons_zero, List.getElem?_cons_succ] at d0
      have d1 := blk_cell (j := 1) b05
      simp only [List.getElem?_toArray, List.getElem?_cons_zero, List.getElem?_cons_succ] at d1
      have d2 := blk_cell (j := 2) b05
      simp only [List.getElem?_toArray, List.getElem?_cons_zero, List.getElem?_cons_succ] at d2
      have d3 := blk_cell (j := 3) b05
      simp only [List.getElem?_toArray, List.getElem?_cons_zero, List.getElem?_cons_succ] at d3
      have d4 := blk_cell (j := 4) b05
      simp only [List.getElem?_toArray, List.getElem?_cons_zero, List.getElem?_cons_succ] at d4
      rw [← HVV5.out] at d0 d1 d2 d3 d4
      obtain ⟨rows, hrl, hr4, hrk3, hrR⟩ := hS.rooms
      have hrk := (hrk3.below hb35).more hb35.size
      clear hrk3
      have hone : ∀ u ∈ rows.flatten, u.oneCell' = true := by
        intro u hu
        obtain ⟨r, hr, hur⟩ := List.mem_flatten.1 hu
        obtain ⟨i, hi, rfl⟩ := List.getElem_of_mem hr
        obtain ⟨A1, c1, e1, _⟩ := hrR i (s.rooms[i]'(by omega)) _ (List.getElem?_eq_getElem (by omega)) (List.getElem?_eq_getElem hi)
        rw [e1] at hur
        simp at hur
        rcases hur with rfl | rfl | rfl | rfl <;> rfl
      obtain ⟨F, hF⟩ : ∃ F, F = rows.flatten := ⟨_, rfl⟩
      rw [← hF] at hone hrk
      have HFF := Lib.hid hF
      have HRL := Lib.hid hrl
      have HR4 := Lib.hid hr4
      have HRR := Lib.hid hrR
      clear hF hrl hr4 hrR
      have d9 : decide ((kk : Int) < (f.nR : Int)) = true := by simp; omega
      have d10 : decide (kk < f.nR) = true := by simp; omega
      by_cases p0 : 0 ≤ p
      · by_cases p1 : p < q
        · by_cases p2 : q < (f.nS : Int)
          · have w1 : decide (0 ≤ p) = true := by simp; omega
            have w2 : decide (p < q) = true := by simp; omega
            have w3' : decide (q < (f.nS : Int)) = true := by simp; omega
            go_wp2_with (at_builtin; rw [HVV5.out]; refine wpList_appK _ _ elkRoo o0 hrk hone (by omega) (by omega) (by rw [HS5.out]; omega) rfl rfl rfl rfl ?_; intro v6 w6 o6 g6 t6; simp only [Nat.zero_add, List.nil_append] at o6; obtain ⟨g, q6, rfl⟩ := own_some o6 hR0; have hgl := own_lt o6 g rfl; have hb6 := below_of_grown (B := w3.heap.size + 1) g6 (by rw [HS5.out]; omega) (fun g hg => by cases hg; exact Nat.le_refl _); have b46 := (hb6.block w3.heap.size (by omega)).trans b4; have b06 := (hb6.block w.heap.size (by omega)).trans b05; have cx := blk_cell (j := 1) b46; have fx := blk_frozen 1 b46; simp only [List.getElem?_toArray, List.getElem?_cons_zero, List.getElem?_cons_succ] at cx; have hne : ¬ g = w3.heap.size := (by omega); have hne' : ¬ w3.heap.size = g := (by omega); obtain ⟨⟨zv, z0⟩, z1, hb09, hX9, hPQ, o9, hb69⟩ := step8 (kk := kk) (m := w3.heap.size) p q o6 b06 b46 (by omega) (by omega) (by omega) hk1 (Nat.le_refl _) (by omega); have e0 := blk_cell (j := 0) hb09; have e1 := blk_cell (j := 1) hb09; have e2 := blk_cell (j := 2) hb09; have e3 := blk_cell (j := 3) hb09; have e4 := blk_cell (j := 4) hb09; have x0 := blk_cell (j := 0) hX9; have x1 := blk_cell (j := 1) hX9; have x2 := blk_cell (j := 2) hX9; have x3 := blk_cell (j := 3) hX9; have x4 := blk_cell (j := 4) hX9; simp only [List.getElem?_toArray, List.getElem?_cons_zero, List.getElem?_cons_succ] at e0 e1 e2 e3 e4 x0 x1 x2 x3 x4; clear c0 c1 c2 c3 c4 d0 d1 d2 d3 d4)
            have hb39 : Below w3.heap.size w3 (((w6.setCell ⟨w3.heap.size, 1, none⟩ (.slice (some ⟨g, 0, none⟩) f.nR q6)).alloc (.cells #[.int .i64 p, .int .i64 q] 3)).setCell ⟨g, kk * 4 + 3, none⟩ (.slice (some ⟨w6.heap.size, 0, none⟩) 2 2)) := hb35.trans ((hb6.mono (by omega)).trans hb69)
            clear e0 e1 e2 e3 e4 x0 x1 x2 x3 x4 z0 z1 cx fx hb6 g6 t6 o6 b46 b06 b4 b05 hb35 hb69 o0 HVV5 HS5 hrk hone
            generalize (((w6.setCell ⟨w3.heap.size, 1, none⟩ (.slice (some ⟨g, 0, none⟩) f.nR q6)).alloc (.cells #[.int .i64 p, .int .i64 q] 3)).setCell ⟨g, kk * 4 + 3, none⟩ (.slice (some ⟨w6.heap.size, 0, none⟩) 2 2)) = W9 at *
            have hI9 : RdI W9 W9.heap.size (some ⟨w6.heap.size, 0, none⟩) 2 2 [p, q] := ⟨Rd.blk hPQ rfl (by omega), by intro z hz; simp at hz; rcases hz with rfl | rfl <;> omega⟩
            obtain ⟨A9, q9, hv9, hk9⟩ := own_rdK o9
            injection hv9 with hv9 _ hq9
            subst hv9 hq9
            have hRS := rooms_shut HRL.out HR4.out (fun i x r hx hr => Sc.lasts_Roo.more (Sc.lasts_Roo.below (HRR.out i x r hx hr) hb39) hb39.size) (by rw [HLN.out.2.1]; exact hk1) hI9 (by rw [← HFF.out]; exact hk9)
            clear hPQ o9 hk9 hI9 HFF HRL HR4 HRR
            have hb := hb39
            clear hb39
            replace hS := (hS.below hb).more hb.size
            replace hm := (hb.cell (World.block_lt_of_cell? _ _ hm)).trans hm
            replace hbt := hbt.trans (hb.mono hbt.size)
            clear hb
            obtain ⟨f9, hf9⟩ : ∃ f9 : Sc.Five, f9 = ⟨f.aS, f.nS, f.cS, some ⟨g, 0, none⟩, f.nR, q6, f.aP, f.nP, f.cP, f.aG, f.nG, f.cG, f.aL, f.nL, f.cL⟩ := ⟨_, rfl⟩
            have hS9 : Sc.RdSch W9 W9.heap.size f9 (Sc.shutAt s kk p q) := by rw [hf9]; exact ⟨hS.slots, hRS, hS.people, hS.groups, hS.lessons⟩
            clear hRS
            have HSC := Lib.hid (Sc.shut_chk HOK.out (k := kk) (by rw [HLN.out.2.1]; exact hk1) (a := p) (b := q))
            have hva : #[.slice f.aS f.nS f.cS, .slice (some ⟨g, 0, none⟩) f.nR q6, .slice f.aP f.nP f.cP, .slice f.aG f.nG f.cG, .slice f.aL f.nL f.cL] = f9.vals := by rw [hf9]; rfl
            rw [hva]
            have HVA := Lib.hid hva
            clear hva hf9
            refine (sCheck_any f9 (Sc.shutAt s kk p q) mx W9 hS9 hm).mono ?_
            rintro e w10 ⟨rfl, hb⟩
            replace hS := (hS.below hb).more hb.size
            replace hm := (hb.cell (World.block_lt_of_cell? _ _ hm)).trans hm
            replace hS9 := (hS9.below hb).more hb.size
            replace hb09 := blk_below hb09 hb
            replace hX9 := blk_below hX9 hb
            replace hbt := hbt.trans (hb.mono hbt.size)
            clear hb
            rw [show Sc.chk (Sc.shutAt s kk p q) = 0 from HSC.out.2 ⟨by omega, by omega, by rw [HLN.out.1]; omega⟩]
            have c0 := blk_cell (j := 0) hb09
            simp only [List.getElem?_toArray, List.getElem?_cons_zero, List.getElem?_cons_succ] at c0
            go_wp2_with fail
            clear c0
            go_loopw [12] (fun tv wr => ∃ j : Nat, j ≤ f.nS ∧ tv = .int .i64 j ∧ Below w10.heap.size w10 wr) (fun tv _ => f.nS - (intOf tv).toNat)
            case atStart => exact ⟨0, by omega, rfl, Below.refl _ _⟩
            case round =>
              obtain ⟨j, hj, rfl, hP⟩ := hrel
              have hb := hP
              replace hS := (hS.below hb).more hb.size
              replace hm := (hb.cell (World.block_lt_of_cell? _ _ hm)).trans hm
              replace hS9 := (hS9.below hb).more hb.size
              replace hb09 := blk_below hb09 hb
              replace hX9 := blk_below hX9 hb
              replace hbt := hbt.trans (hb.mono hbt.size)
              clear hb
              by_cases hjn : j < f.nS
              · have t5 : decide ((j : Int) < (f.nS : Int)) = true := by simp; omega
                have t6 : decide (j < f.nS) = true := by simp; omega
                have c0 := blk_cell (j := 0) hb09
                simp only [List.getElem?_toArray, List.getElem?_cons_zero, List.getElem?_cons_succ] at c0
                have d0 := blk_cell (j := 0) hX9
                simp only [List.getElem?_toArray, List.getElem?_cons_zero, List.getElem?_cons_succ] at d0
                have d1 := blk_cell (j := 1) hX9
                simp only [List.getElem?_toArray, List.getElem?_cons_zero, List.getElem?_cons_succ] at d1
                have d2 := blk_cell (j := 2) hX9
                simp only [List.getElem?_toArray, List.getElem?_cons_zero, List.getElem?_cons_succ] at d2
                have d3 := blk_cell (j := 3) hX9
                simp only [List.getElem?_toArray, List.getElem?_cons_zero, List.getElem?_cons_succ] at d3
                have d4 := blk_cell (j := 4) hX9
                simp only [List.getElem?_toArray, List.getElem?_cons_zero, List.getElem?_cons_succ] at d4
                go_wp2_with fail
                clear c0 d0 d1 d2 d3 d4
                rw [HVA.out]
                refine (sShut_any f9 (Sc.shutAt s kk p q) kk j wr hS9).mono ?_
                rintro e w12 ⟨b, rfl, hi, hb⟩
                rw [Sc.shut_at (by rw [HLN.out.2.1]; exact hk1)] at hi
                replace hS := (hS.below hb).more hb.size
                replace hm := (hb.cell (World.block_lt_of_cell? _ _ hm)).trans hm
                replace hS9 := (hS9.below hb).more hb.size
                replace hb09 := blk_below hb09 hb
                replace hX9 := blk_below hX9 hb
                replace hP := hP.trans (hb.mono hP.size)
                replace hbt := hbt.trans (hb.mono hbt.size)
                clear hb
                by_cases jp : (j : Int) = p
                · obtain rfl : b = true := hi.2 (by omega)
                  clear hi
                  have v1 : ((j : Int) == p) = true := by simp [jp]
                  clear jp
                  go_wp2_with fail
                  go_roundw
                  case rel => exact ⟨j + 1, by omega, by go_num, hP⟩
                  case measure => simp [intOf]; omega
                · by_cases jq : (j : Int) = q
                  · obtain rfl : b = true := hi.2 (by omega)
                    clear hi
                    have v1 : ((j : Int) == p) = false := by simp [jp]
                    have v2 : ((j : Int) == q) = true := by simp [jq]
                    clear jp jq
                    go_wp2_with fail
                    go_roundw
                    case rel => exact ⟨j + 1, by omega, by go_num, hP⟩
                    case measure => simp [intOf]; omega
                  · obtain rfl : b = false := by
                      cases b with
                      | false => rfl
                      | true => have := hi.1 rfl; omega
                    clear hi
                    have v1 : ((j : Int) == p) = false := by simp [jp]
                    have v2 : ((j : Int) == q) = false := by simp [jq]
                    clear jp jq
                    go_wp2_with fail
                    go_roundw
                    case rel => exact ⟨j + 1, by omega, by go_num, hP⟩
                    case measure => simp [intOf]; omega
              · have t5 : decide ((j : Int) < (f.nS : Int)) = false := by simp; omega
                have t6 : decide (j < f.nS) = false := by simp; omega
                have c0 := blk_cell (j := 0) hb09
                simp only [List.getElem?_toArray, List.getElem?_cons_zero, List.getElem?_cons_succ] at c0
                go_wp2_with fail
                go_ret
                exact ⟨rfl, hbt⟩
          · have w1 : decide (0 ≤ p) = true := by simp; omega
            have w2 : decide (p < q) = true := by simp; omega
            have w3' : decide (q < (f.nS : Int)) = false := by simp; omega
            go_wp2_with (at_builtin; rw [HVV5.out]; refine wpList_appK _ _ elkRoo o0 hrk hone (by omega) (by omega) (by rw [HS5.out]; omega) rfl rfl rfl rfl ?_; intro v6 w6 o6 g6 t6; simp only [Nat.zero_add, List.nil_append] at o6; obtain ⟨g, q6, rfl⟩ := own_some o6 hR0; have hgl := own_lt o6 g rfl; have hb6 := below_of_grown (B := w3.heap.size + 1) g6 (by rw [HS5.out]; omega) (fun g hg => by cases hg; exact Nat.le_refl _); have b46 := (hb6.block w3.heap.size (by omega)).trans b4; have b06 := (hb6.block w.heap.size (by omega)).trans b05; have cx := blk_cell (j := 1) b46; have fx := blk_frozen 1 b46; simp only [List.getElem?_toArray, List.getElem?_cons_zero, List.getElem?_cons_succ] at cx; have hne : ¬ g = w3.heap.size := (by omega); have hne' : ¬ w3.heap.size = g := (by omega); obtain ⟨⟨zv, z0⟩, z1, hb09, hX9, hPQ, o9, hb69⟩ := step8 (kk := kk) (m := w3.heap.size) p q o6 b06 b46 (by omega) (by omega) (by omega) hk1 (Nat.le_refl _) (by omega); have e0 := blk_cell (j := 0) hb09; have e1 := blk_cell (j := 1) hb09; have e2 := blk_cell (j := 2) hb09; have e3 := blk_cell (j := 3) hb09; have e4 := blk_cell (j := 4) hb09; have x0 := blk_cell (j := 0) hX9; have x1 := blk_cell (j := 1) hX9; have x2 := blk_cell (j := 2) hX9; have x3 := blk_cell (j := 3) hX9; have x4 := blk_cell (j := 4) hX9; simp only [List.getElem?_toArray, List.getElem?_cons_zero, List.getElem?_cons_succ] at e0 e1 e2 e3 e4 x0 x1 x2 x3 x4; clear c0 c1 c2 c3 c4 d0 d1 d2 d3 d4)
            have hb39 : Below w3.heap.size w3 (((w6.setCell ⟨w3.heap.size, 1, none⟩ (.slice (some ⟨g, 0, none⟩) f.nR q6)).alloc (.cells #[.int .i64 p, .int .i64 q] 3)).setCell ⟨g, kk * 4 + 3, none⟩ (.slice (some ⟨w6.heap.size, 0, none⟩) 2 2)) := hb35.trans ((hb6.mono (by omega)).trans hb69)
            clear e0 e1 e2 e3 e4 x0 x1 x2 x3 x4 z0 z1 cx fx hb6 g6 t6 o6 b46 b06 b4 b05 hb35 hb69 o0 HVV5 HS5 hrk hone
            generalize (((w6.setCell ⟨w3.heap.size, 1, none⟩ (.slice (some ⟨g, 0, none⟩) f.nR q6)).alloc (.cells #[.int .i64 p, .int .i64 q] 3)).setCell ⟨g, kk * 4 + 3, none⟩ (.slice (some ⟨w6.heap.size, 0, none⟩) 2 2)) = W9 at *
            have hI9 : RdI W9 W9.heap.size (some ⟨w6.heap.size, 0, none⟩) 2 2 [p, q] := ⟨Rd.blk hPQ rfl (by omega), by intro z hz; simp at hz; rcases hz with rfl | rfl <;> omega⟩
            obtain ⟨A9, q9, hv9, hk9⟩ := own_rdK o9
            injection hv9 with hv9 _ hq9
            subst hv9 hq9
            have hRS := rooms_shut HRL.out HR4.out (fun i x r hx hr => Sc.lasts_Roo.more (Sc.lasts_Roo.below (HRR.out i x r hx hr) hb39) hb39.size) (by rw [HLN.out.2.1]; exact hk1) hI9 (by rw [← HFF.out]; exact hk9)
            clear hPQ o9 hk9 hI9 HFF HRL HR4 HRR
            have hb := hb39
            clear hb39
            replace hS := (hS.below hb).more hb.size
            replace hm := (hb.cell (World.block_lt_of_cell? _ _ hm)).trans hm
            replace hbt := hbt.trans (hb.mono hbt.size)
            clear hb
            obtain ⟨f9, hf9⟩ : ∃ f9 : Sc.Five, f9 = ⟨f.aS, f.nS, f.cS, some ⟨g, 0, none⟩, f.nR, q6, f.aP, f.nP, f.cP, f.aG, f.nG, f.cG, f.aL, f.nL, f.cL⟩ := ⟨_, rfl⟩
            have hS9 : Sc.RdSch W9 W9.heap.size f9 (Sc.shutAt s kk p q) := by rw [hf9]; exact ⟨hS.slots, hRS, hS.people, hS.groups, hS.lessons⟩
            clear hRS
            have HSC := Lib.hid (Sc.shut_chk HOK.out (k := kk) (by rw [HLN.out.2.1]; exact hk1) (a := p) (b := q))
            have hva : #[.slice f.aS f.nS f.cS, .slice (some ⟨g, 0, none⟩) f.nR q6, .slice f.aP f.nP f.cP, .slice f.aG f.nG f.cG, .slice f.aL f.nL f.cL] = f9.vals := by rw [hf9]; rfl
            rw [hva]
            have HVA := Lib.hid hva
            clear hva hf9
            refine (sCheck_any f9 (Sc.shutAt s kk p q) mx W9 hS9 hm).mono ?_
            rintro e w10 ⟨rfl, hb⟩
            replace hS := (hS.below hb).more hb.size
            replace hm := (hb.cell (World.block_lt_of_cell? _ _ hm)).trans hm
            replace hS9 := (hS9.below hb).more hb.size
            replace hb09 := blk_below hb09 hb
            replace hX9 := blk_below hX9 hb
            replace hbt := hbt.trans (hb.mono hbt.size)
            clear hb
            obtain ⟨er, her⟩ : ∃ er, er = Sc.chk (Sc.shutAt s kk p q) := ⟨_, rfl⟩
            rw [← her]
            have her0 : er ≠ 0 := by rw [her]; exact fun h => by have := HSC.out.1 h; rw [HLN.out.1] at this; omega
            have E1 : (er == 0) = false := by simpa using her0
            clear her her0
            have hz2 := HZ.out
            have c0 := blk_cell (j := 0) hb09
            simp only [List.getElem?_toArray, List.getElem?_cons_zero, List.getElem?_cons_succ] at c0
            go_wp2_with fail
            clear c0
            go_loopw [12] (fun tv wr => tv = .int .i64 0 ∧ Below w10.heap.size w10 wr) (fun _ _ => 0)
            case atStart => exact ⟨rfl, Below.refl _ _⟩
            case round =>
              obtain ⟨rfl, hP⟩ := hrel
              have hb := hP
              replace hS := (hS.below hb).more hb.size
              replace hm := (hb.cell (World.block_lt_of_cell? _ _ hm)).trans hm
              replace hS9 := (hS9.below hb).more hb.size
              replace hb09 := blk_below hb09 hb
              replace hX9 := blk_below hX9 hb
              replace hbt := hbt.trans (hb.mono hbt.size)
              clear hb
              have c0 := blk_cell (j := 0) hb09
              simp only [List.getElem?_toArray, List.getElem?_cons_zero, List.getElem?_cons_succ] at c0
              by_cases hs0 : 0 < f.nS
              · have t5 : decide ((0 : Int) < (f.nS : Int)) = true := by simp; omega
                have t6 : decide (0 < f.nS) = true := by simp; omega
                go_wp2_with fail
                go_ret
                exact ⟨rfl, hbt⟩
              · have t5 : decide ((0 : Int) < (f.nS : Int)) = false := by simp; omega
                have t6 : decide (0 < f.nS) = false := by simp; omega
                go_wp2_with fail
                go_ret
                exact ⟨rfl, hbt⟩
        · have w1 : decide (0 ≤ p) = true := by simp; omega
          have w2 : decide (p < q) = false := by simp; omega
          go_wp2_with (at_builtin; rw [HVV5.out]; refine wpList_appK _ _ elkRoo o0 hrk hone (by omega) (by omega) (by rw [HS5.out]; omega) rfl rfl rfl rfl ?_; intro v6 w6 o6 g6 t6; simp only [Nat.zero_add, List.nil_append] at o6; obtain ⟨g, q6, rfl⟩ := own_some o6 hR0; have hgl := own_lt o6 g rfl; have hb6 := below_of_grown (B := w3.heap.size + 1) g6 (by rw [HS5.out]; omega) (fun g hg => by cases hg; exact Nat.le_refl _); have b46 := (hb6.block w3.heap.size (by omega)).trans b4; have b06 := (hb6.block w.heap.size (by omega)).trans b05; have cx := blk_cell (j := 1) b46; have fx := blk_frozen 1 b46; simp only [List.getElem?_toArray, List.getElem?_cons_zero, List.getElem?_cons_succ] at cx; have hne : ¬ g = w3.heap.size := (by omega); have hne' : ¬ w3.heap.size = g := (by omega); obtain ⟨⟨zv, z0⟩, z1, hb09, hX9, hPQ, o9, hb69⟩ := step8 (kk := kk) (m := w3.heap.size) p q o6 b06 b46 (by omega) (by omega) (by omega) hk1 (Nat.le_refl _) (by omega); have e0 := blk_cell (j := 0) hb09; have e1 := blk_cell (j := 1) hb09; have e2 := blk_cell (j := 2) hb09; have e3 := blk_cell (j := 3) hb09; have e4 := blk_cell (j := 4) hb09; have x0 := blk_cell (j := 0) hX9; have x1 := blk_cell (j := 1) hX9; have x2 := blk_cell (j := 2) hX9; have x3 := blk_cell (j := 3) hX9; have x4 := blk_cell (j := 4) hX9; simp only [List.getElem?_toArray, List.getElem?_cons_zero, List.getElem?_cons_succ] at e0 e1 e2 e3 e4 x0 x1 x2 x3 x4; clear c0 c1 c2 c3 c4 d0 d1 d2 d3 d4)
          have hb39 : Below w3.heap.size w3 (((w6.setCell ⟨w3.heap.size, 1, none⟩ (.slice (some ⟨g, 0, none⟩) f.nR q6)).alloc (.cells #[.int .i64 p, .int .i64 q] 3)).setCell ⟨g, kk * 4 + 3, none⟩ (.slice (some ⟨w6.heap.size, 0, none⟩) 2 2)) := hb35.trans ((hb6.mono (by omega)).trans hb69)
          clear e0 e1 e2 e3 e4 x0 x1 x2 x3 x4 z0 z1 cx fx hb6 g6 t6 o6 b46 b06 b4 b05 hb35 hb69 o0 HVV5 HS5 hrk hone
          generalize (((w6.setCell ⟨w3.heap.size, 1, none⟩ (.slice (some ⟨g, 0, none⟩) f.nR q6)).alloc (.cells #[.int .i64 p, .int .i64 q] 3)).setCell ⟨g, kk * 4 + 3, none⟩ (.slice (some ⟨w6.heap.size, 0, none⟩) 2 2)) = W9 at *
          have hI9 : RdI W9 W9.heap.size (some ⟨w6.heap.size, 0, none⟩) 2 2 [p, q] := ⟨Rd.blk hPQ rfl (by omega), by intro z hz; simp at hz; rcases hz with rfl | rfl <;> omega⟩
          obtain ⟨A9, q9, hv9, hk9⟩ := own_rdK o9
          injection hv9 with hv9 _ hq9
          subst hv9 hq9
          have hRS := rooms_shut HRL.out HR4.out (fun i x r hx hr => Sc.lasts_Roo.more (Sc.lasts_Roo.below (HRR.out i x r hx hr) hb39) hb39.size) (by rw [HLN.out.2.1]; exact hk1) hI9 (by rw [← HFF.out]; exact hk9)
          clear hPQ o9 hk9 hI9 HFF HRL HR4 HRR
          have hb := hb39
          clear hb39
          replace hS := (hS.below hb).more hb.size
          replace hm := (hb.cell (World.block_lt_of_cell? _ _ hm)).trans hm
          replace hbt := hbt.trans (hb.mono hbt.size)
          clear hb
          obtain ⟨f9, hf9⟩ : ∃ f9 : Sc.Five, f9 = ⟨f.aS, f.nS, f.cS, some ⟨g, 0, none⟩, f.nR, q6, f.aP, f.nP, f.cP, f.aG, f.nG, f.cG, f.aL, f.nL, f.cL⟩ := ⟨_, rfl⟩
          have hS9 : Sc.RdSch W9 W9.heap.size f9 (Sc.shutAt s kk p q) := by rw [hf9]; exact ⟨hS.slots, hRS, hS.people, hS.groups, hS.lessons⟩
          clear hRS
          have HSC := Lib.hid (Sc.shut_chk HOK.out (k := kk) (by rw [HLN.out.2.1]; exact hk1) (a := p) (b := q))
          have hva : #[.slice f.aS f.nS f.cS, .slice (some ⟨g, 0, none⟩) f.nR q6, .slice f.aP f.nP f.cP, .slice f.aG f.nG f.cG, .slice f.aL f.nL f.cL] = f9.vals := by rw [hf9]; rfl
          rw [hva]
          have HVA := Lib.hid hva
          clear hva hf9
          refine (sCheck_any f9 (Sc.shutAt s kk p q) mx W9 hS9 hm).mono ?_
          rintro e w10 ⟨rfl, hb⟩
          replace hS := (hS.below hb).more hb.size
          replace hm := (hb.cell (World.block_lt_of_cell? _ _ hm)).trans hm
          replace hS9 := (hS9.below hb).more hb.size
          replace hb09 := blk_below hb09 hb
          replace hX9 := blk_below hX9 hb
          replace hbt := hbt.trans (hb.mono hbt.size)
          clear hb
          obtain ⟨er, her⟩ : ∃ er, er = Sc.chk (Sc.shutAt s kk p q) := ⟨_, rfl⟩
          rw [← her]
          have her0 : er ≠ 0 := by rw [her]; exact fun h => by have := HSC.out.1 h; rw [HLN.out.1] at this; omega
          have E1 : (er == 0) = false := by simpa using her0
          clear her her0
          have hz2 := HZ.out
          have c0 := blk_cell (j := 0) hb09
          simp only [List.getElem?_toArray, List.getElem?_cons_zero, List.getElem?_cons_succ] at c0
          go_wp2_with fail
          clear c0
          go_loopw [12] (fun tv wr => tv = .int .i64 0 ∧ Below w10.heap.size w10 wr) (fun _ _ => 0)
          case atStart => exact ⟨rfl, Below.refl _ _⟩
          case round =>
            obtain ⟨rfl, hP⟩ := hrel
            have hb := hP
            replace hS := (hS.below hb).more hb.size
            replace hm := (hb.cell (World.block_lt_of_cell? _ _ hm)).trans hm
            replace hS9 := (hS9.below hb).more hb.size
            replace hb09 := blk_below hb09 hb
            replace hX9 := blk_below hX9 hb
            replace hbt := hbt.trans (hb.mono hbt.size)
            clear hb
            have c0 := blk_cell (j := 0) hb09
            simp only [List.getElem?_toArray, List.getElem?_cons_zero, List.getElem?_cons_succ] at c0
            by_cases hs0 : 0 < f.nS
            · have t5 : decide ((0 : Int) < (f.nS : Int)) = true := by simp; omega
              have t6 : decide (0 < f.nS) = true := by simp; omega
              go_wp2_with fail
              go_ret
              exact ⟨rfl, hbt⟩
            · have t5 : decide ((0 : Int) < (f.nS : Int)) = false := by simp; omega
              have t6 : decide (0 < f.nS) = false := by simp; omega
              go_wp2_with fail
              go_ret
              exact ⟨rfl, hbt⟩
      · have w1 : decide (0 ≤ p) = false := by simp; omega
        go_wp2_with (at_builtin; rw [HVV5.out]; refine wpList_appK _ _ elkRoo o0 hrk hone (by omega) (by omega) (by rw [HS5.out]; omega) rfl rfl rfl rfl ?_; intro v6 w6 o6 g6 t6; simp only [Nat.zero_add, List.nil_append] at o6; obtain ⟨g, q6, rfl⟩ := own_some o6 hR0; have hgl := own_lt o6 g rfl; have hb6 := below_of_grown (B := w3.heap.size + 1) g6 (by rw [HS5.out]; omega) (fun g hg => by cases hg; exact Nat.le_refl _); have b46 := (hb6.block w3.heap.size (by omega)).trans b4; have b06 := (hb6.block w.heap.size (by omega)).trans b05; have cx := blk_cell (j := 1) b46; have fx := blk_frozen 1 b46; simp only [List.getElem?_toArray, List.getElem?_cons_zero, List.getElem?_cons_succ] at cx; have hne : ¬ g = w3.heap.size := (by omega); have hne' : ¬ w3.heap.size = g := (by omega); obtain ⟨⟨zv, z0⟩, z1, hb09, hX9, hPQ, o9, hb69⟩ := step8 (kk := kk) (m := w3.heap.size) p q o6 b06 b46 (by omega) (by omega) (by omega) hk1 (Nat.le_refl _) (by omega); have e0 := blk_cell (j := 0) hb09; have e1 := blk_cell (j := 1) hb09; have e2 := blk_cell (j := 2) hb09; have e3 := blk_cell (j := 3) hb09; have e4 := blk_cell (j := 4) hb09; have x0 := blk_cell (j := 0) hX9; have x1 := blk_cell (j := 1) hX9; have x2 := blk_cell (j := 2) hX9; have x3 := blk_cell (j := 3) hX9; have x4 := blk_cell (j := 4) hX9; simp only [List.getElem?_toArray, List.getElem?_cons_zero, List.getElem?_cons_succ] at e0 e1 e2 e3 e4 x0 x1 x2 x3 x4; clear c0 c1 c2 c3 c4 d0 d1 d2 d3 d4)
        have hb39 : Below w3.heap.size w3 (((w6.setCell ⟨w3.heap.size, 1, none⟩ (.slice (some ⟨g, 0, none⟩) f.nR q6)).alloc (.cells #[.int .i64 p, .int .i64 q] 3)).setCell ⟨g, kk * 4 + 3, none⟩ (.slice (some ⟨w6.heap.size, 0, none⟩) 2 2)) := hb35.trans ((hb6.mono (by omega)).trans hb69)
        clear e0 e1 e2 e3 e4 x0 x1 x2 x3 x4 z0 z1 cx fx hb6 g6 t6 o6 b46 b06 b4 b05 hb35 hb69 o0 HVV5 HS5 hrk hone
        generalize (((w6.setCell ⟨w3.heap.size, 1, none⟩ (.slice (some ⟨g, 0, none⟩) f.nR q6)).alloc (.cells #[.int .i64 p, .int .i64 q] 3)).setCell ⟨g, kk * 4 + 3, none⟩ (.slice (some ⟨w6.heap.size, 0, none⟩) 2 2)) = W9 at *
        have hI9 : RdI W9 W9.heap.size (some ⟨w6.heap.size, 0, none⟩) 2 2 [p, q] := ⟨Rd.blk hPQ rfl (by omega), by intro z hz; simp at hz; rcases hz with rfl | rfl <;> omega⟩
        obtain ⟨A9, q9, hv9, hk9⟩ := own_rdK o9
        injection hv9 with hv9 _ hq9
        subst hv9 hq9
        have hRS := rooms_shut HRL.out HR4.out (fun i x r hx hr => Sc.lasts_Roo.more (Sc.lasts_Roo.below (HRR.out i x r hx hr) hb39) hb39.size) (by rw [HLN.out.2.1]; exact hk1) hI9 (by rw [← HFF.out]; exact hk9)
        clear hPQ o9 hk9 hI9 HFF HRL HR4 HRR
        have hb := hb39
        clear hb39
        replace hS := (hS.below hb).more hb.size
        replace hm := (hb.cell (World.block_lt_of_cell? _ _ hm)).trans hm
        replace hbt := hbt.trans (hb.mono hbt.size)
        clear hb
        obtain ⟨f9, hf9⟩ : ∃ f9 : Sc.Five, f9 = ⟨f.aS, f.nS, f.cS, some ⟨g, 0, none⟩, f.nR, q6, f.aP, f.nP, f.cP, f.aG, f.nG, f.cG, f.aL, f.nL, f.cL⟩ := ⟨_, rfl⟩
        have hS9 : Sc.RdSch W9 W9.heap.size f9 (Sc.shutAt s kk p q) := by rw [hf9]; exact ⟨hS.slots, hRS, hS.people, hS.groups, hS.lessons⟩
        clear hRS
        have HSC := Lib.hid (Sc.shut_chk HOK.out (k := kk) (by rw [HLN.out.2.1]; exact hk1) (a := p) (b := q))
        have hva : #[.slice f.aS f.nS f.cS, .slice (some ⟨g, 0, none⟩) f.nR q6, .slice f.aP f.nP f.cP, .slice f.aG f.nG f.cG, .slice f.aL f.nL f.cL] = f9.vals := by rw [hf9]; rfl
        rw [hva]
        have HVA := Lib.hid hva
        clear hva hf9
        refine (sCheck_any f9 (Sc.shutAt s kk p q) mx W9 hS9 hm).mono ?_
        rintro e w10 ⟨rfl, hb⟩
        replace hS := (hS.below hb).more hb.size
        replace hm := (hb.cell (World.block_lt_of_cell? _ _ hm)).trans hm
        replace hS9 := (hS9.below hb).more hb.size
        replace hb09 := blk_below hb09 hb
        replace hX9 := blk_below hX9 hb
        replace hbt := hbt.trans (hb.mono hbt.size)
        clear hb
        obtain ⟨er, her⟩ : ∃ er, er = Sc.chk (Sc.shutAt s kk p q) := ⟨_, rfl⟩
        rw [← her]
        have her0 : er ≠ 0 := by rw [her]; exact fun h => by have := HSC.out.1 h; rw [HLN.out.1] at this; omega
        have E1 : (er == 0) = false := by simpa using her0
        clear her her0
        have hz2 := HZ.out
        have c0 := blk_cell (j := 0) hb09
        simp only [List.getElem?_toArray, List.getElem?_cons_zero, List.getElem?_cons_succ] at c0
        go_wp2_with fail
        clear c0
        go_loopw [12] (fun tv wr => tv = .int .i64 0 ∧ Below w10.heap.size w10 wr) (fun _ _ => 0)
        case atStart => exact ⟨rfl, Below.refl _ _⟩
        case round =>
          obtain ⟨rfl, hP⟩ := hrel
          have hb := hP
          replace hS := (hS.below hb).more hb.size
          replace hm := (hb.cell (World.block_lt_of_cell? _ _ hm)).trans hm
          replace hS9 := (hS9.below hb).more hb.size
          replace hb09 := blk_below hb09 hb
          replace hX9 := blk_below hX9 hb
          replace hbt := hbt.trans (hb.mono hbt.size)
          clear hb
          have c0 := blk_cell (j := 0) hb09
          simp only [List.getElem?_toArray, List.getElem?_cons_zero, List.getElem?_cons_succ] at c0
          by_cases hs0 : 0 < f.nS
          · have t5 : decide ((0 : Int) < (f.nS : Int)) = true := by simp; omega
            have t6 : decide (0 < f.nS) = true := by simp; omega
            go_wp2_with fail
            go_ret
            exact ⟨rfl, hbt⟩
          · have t5 : decide ((0 : Int) < (f.nS : Int)) = false := by simp; omega
            have t6 : decide (0 < f.nS) = false := by simp; omega
            go_wp2_with fail
            go_ret
            exact ⟨rfl, hbt⟩
    · have d5 : (er != 0) = true := by simp [he]
      clear he
      go_wp2_with fail
      go_ret
      exact ⟨rfl, hbt⟩

end Go.Proofs.YtfockoihmoljfaaGreatDoor
