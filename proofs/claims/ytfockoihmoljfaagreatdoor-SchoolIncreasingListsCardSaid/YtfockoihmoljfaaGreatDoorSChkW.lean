/-
  The walk of school.Check.
-/
import Derived.Test.YtfockoihmoljfaaGreatDoorLotN
import Derived.Test.YtfockoihmoljfaaGreatDoorLotA
import Derived.WideKeyPair
namespace Go.Proofs.YtfockoihmoljfaaGreatDoor
open Go.RowKit Go.Shelf Go.Maps Go.WideMaps
set_option linter.unusedVariables false
set_option linter.unusedSimpArgs false

attribute [local go_sem] Oper.semAt_some
theorem lawS : Keyed Tryz.prog 9 := string_keyed Tryz.underlying9
theorem arr2 : ArrKey Tryz.prog 70 3 2 := ⟨Tryz.underlying70, by kernel_rfl, by kernel_rfl, by kernel_rfl⟩
theorem lawT : Keyed Tryz.prog 70 := Keyed.of_law arr2.law
theorem zeroB (w : World) : (zeroValue 4).run Tryz.prog w = .ok (.bool false) w := by kernel_rfl
theorem sizeT : ∃ m, Tryz.prog.types.size = m + 1 := ⟨Tryz.prog.types.size - 1, by kernel_rfl⟩
theorem keyS {s : List UInt8} (h : Sc.okT s) : keyOf Tryz.prog 9 (.string (strOf s)) = some (.string s) := keyOf_string_mk Tryz.underlying9 (s := strOf s) h
theorem keyT {a b : Int} (ha : okI a) (hb : okI b) : ∃ kl, keyOf Tryz.prog 70 (.agg #[.int .i64 a, .int .i64 b]) = some kl := by
  unfold okI at ha hb
  exact ⟨_, keyOf_pair arr2 Tryz.underlying3 sizeT (WalkArith.wf_i64 (by omega)) (WalkArith.wf_i64 (by omega))⟩

theorem Sc.RdSch.okNames {w : World} {B : Nat} {f : Sc.Five} {s : Sc.Sch} (h : Sc.RdSch w B f s) {k : Int} (h1 : 1 ≤ k) (h2 : k ≤ 5) : ∀ x ∈ Sc.names s k, Sc.okT x := by
  have key : ∀ {α : Type} {n : Nat} {R : World → Nat → α → List Value → Prop} {A : Option Addr} {m c : Nat} {l : List α} (nm : α → List UInt8), RdS n R w B A m c l → (∀ x r, R w B x r → Sc.okT (nm x)) → ∀ x ∈ l.map nm, Sc.okT x := by
    intro α n R A m c l nm hr hR x hx
    obtain ⟨y, hy, rfl⟩ := List.mem_map.1 hx
    obtain ⟨i, hi, rfl⟩ := List.getElem_of_mem hy
    obtain ⟨rows, e1, _, _, e4⟩ := hr
    exact hR _ _ (e4 i _ _ (List.getElem?_eq_getElem hi) (List.getElem?_eq_getElem (by omega)))
  have hcases : k = 1 ∨ k = 2 ∨ k = 3 ∨ k = 4 ∨ k = 5 := by omega
  rcases hcases with rfl | rfl | rfl | rfl | rfl
  · exact key _ h.lessons fun x r ⟨_, _, _, _, _, _, _, q⟩ => q
  · exact key _ h.slots fun x r ⟨_, q, _⟩ => q
  · exact key _ h.rooms fun x r ⟨_, _, _, _, q, _⟩ => q
  · exact key _ h.people fun x r ⟨_, _, _, _, q⟩ => q
  · exact key _ h.groups fun x r ⟨_, q, _⟩ => q

theorem Sc.RdSch.lenNames {w : World} {B : Nat} {f : Sc.Five} {s : Sc.Sch} (h : Sc.RdSch w B f s) {k : Int} (h1 : 1 ≤ k) (h2 : k ≤ 5) : (Sc.names s k).length ≤ 9223372036854775807 := by
  have hcases : k = 1 ∨ k = 2 ∨ k = 3 ∨ k = 4 ∨ k = 5 := by omega
  have key : ∀ {α : Type} {n : Nat} {R : World → Nat → α → List Value → Prop} {A : Option Addr} {m c : Nat} {l : List α} (nm : α → List UInt8), 0 < n → RdS n R w B A m c l → (l.map nm).length ≤ 9223372036854775807 := by
    intro α n R A m c l nm hn hr
    rw [List.length_map, hr.len hn]
    have := hr.le
    have := hr.max
    omega
  rcases hcases with rfl | rfl | rfl | rfl | rfl
  · exact key _ (by omega) h.lessons
  · exact key _ (by omega) h.slots
  · exact key _ (by omega) h.rooms
  · exact key _ (by omega) h.people
  · exact key _ (by omega) h.groups
/-- Check's own memory. -/
structure ChkAt (w : World) (f : Sc.Five) (r : Int) (ds : List Deferred) (W : World) : Prop where
  b0 : W.heap[w.heap.size]? = some (.cells f.vals 28)
  b1 : W.heap[w.heap.size + 1]? = some (.cells #[.int .i64 r] 33)
  ms : Marks (w.heap.size + 2) ds W
  bt : Below w.heap.size w W
section
variable {w : World} {f : Sc.Five} {r : Int} {ds : List Deferred} {W W' : World}
theorem ChkAt.below (h : ChkAt w f r ds W) (hb : Below W.heap.size W W') : ChkAt w f r ds W' := ⟨blk_below h.b0 hb, blk_below h.b1 hb, h.ms.below hb, h.bt.trans (hb.mono h.bt.size)⟩
theorem ChkAt.put (h0 : ChkAt w f r ds W) (h : ChkAt w f r ds W') {k : Nat} {o : Obj} (o' : Obj) (hk : W.heap.size ≤ k) (ho : W'.heap[k]? = some o) : ChkAt w f r ds (W'.putObj k o') := by
  have l0 := blk_lt h0.b0
  have l1 := blk_lt h0.b1
  exact ⟨(World.putObj_heap_other (by omega)).trans h.b0, (World.putObj_heap_other (by omega)).trans h.b1, Marks.put o' hk h0.ms h.ms, below_put h.bt o' (by omega) ho⟩
theorem ChkAt.grown (h : ChkAt w f r ds W) {b : Nat} {es : Array MapEntry} {clock : Nat} (hb : W.heap[b]? = some (.map es clock)) (hg : W.grownBy W' (some b)) (hw : w.heap.size ≤ b) : ChkAt w f r ds W' := by
  refine ⟨blk_grown h.b0 hg (fun e => ?_), blk_grown h.b1 hg (fun e => ?_), h.ms.grown hg (fun k hk hd => ?_), h.bt.grown hg h.bt.size (fun j hj => by cases hj; exact hw)⟩
  · injection e with e; have := h.b0; rw [e, hb] at this; cases this
  · injection e with e; have := h.b1; rw [e, hb] at this; cases this
  · injection hk with hk; rw [← hk, hb] at hd; cases hd
theorem ChkAt.res (h : ChkAt w f r ds W) (r' : Int) : ChkAt w f r' ds (W.setCell ⟨w.heap.size + 1, 0, none⟩ (.int .i64 r')) := by
  have := blk_set (k := 0) (.int .i64 r') h.b1
  simp only [List.setIfInBounds_toArray, List.set_cons_zero] at this
  exact ⟨blk_other _ h.b0 (by simp), this, h.ms.setCell h.b1 _, h.bt.setCell (by simp) _⟩
theorem ChkAt.set (h : ChkAt w f r ds W) {p : Addr} {cs : Array Value} {t : TypeId} {fr : Nat × Nat} (hp : W.heap[p.block]? = some (.cells cs t fr)) (hge : w.heap.size + 2 ≤ p.block) (u : Value) : ChkAt w f r ds (W.setCell p u) :=
  ⟨blk_other _ h.b0 (by omega), blk_other _ h.b1 (by omega), h.ms.setCell hp _, h.bt.setCell (by omega) _⟩
/-- What Check answers behind its last store. -/
theorem ChkAt.leaves (h : ChkAt w f r ds W) {tmps : Array Value} (ht : tmps[2]? = some (.pointer (some ⟨w.heap.size + 1, 0, none⟩))) {R : Ending → World → Prop} (hR : ∀ W', Below w.heap.size w W' → R (.returned (.int .i64 r)) W') :
    LeavesInM Fence.wide 3 Tryz.prog Tryz.f14 tmps R ds .returning W := by
  refine leaves_marks h.ms fun W' hW' => ?_
  have c1 := blk_cell (j := 0) (hW'.2 _ _ _ _ h.b1)
  simp only [List.getElem?_toArray, List.getElem?_cons_zero] at c1
  refine ⟨.int .i64 r, ?_, hR W' (h.bt.trans (hW'.1.mono (by omega)))⟩
  simp [results, Tryz.results14, go_sem, c1, Array.getD_eq_getD_getElem?, ht]
end

/-- Between two rounds over the names of a sort. -/
def RngAt (w : World) (f : Sc.Five) (ds : List Deferred) (bM bT n6 : Nat) (nms : List (List UInt8)) (i : Nat) (X : World) : Prop :=
  SetOwn Tryz.prog 9 4 X bM i ((nms.take i).map fun s => .string (strOf s)) ∧ X.heap[bT]? = some (.cells #[.map (some bM)] 65) ∧ Sc.namesOk (nms.take i) ∧ ChkAt w f 0 ds X ∧ n6 ≤ X.heap.size
def RngX (w : World) (f : Sc.Five) (ds : List Deferred) (nms : List (List UInt8)) (c : Code) (_ : Nat) (X : World) : Prop := c = .ret ∧ ¬ Sc.namesOk nms ∧ ChkAt w f 1 ds X
theorem RngAt.below {w : World} {f : Sc.Five} {ds : List Deferred} {bM bT n6 : Nat} {nms : List (List UInt8)} {i : Nat} {X Y : World} (h : RngAt w f ds bM bT n6 nms i X) (hb : Below X.heap.size X Y) : RngAt w f ds bM bT n6 nms i Y :=
  ⟨h.1.kept (grown_of_below (r := none) hb) (by simp), blk_below h.2.1 hb, h.2.2.1, h.2.2.2.1.below hb, Nat.le_trans h.2.2.2.2 hb.size⟩
theorem RngAt.put {w w0 : World} {f : Sc.Five} {ds : List Deferred} {bM bT n6 : Nat} {nms : List (List UInt8)} {i : Nat} {X : World} (h0 : ChkAt w f 0 ds w0) (hM : bM < w0.heap.size) (hT : bT < w0.heap.size) (h : RngAt w f ds bM bT n6 nms i X) {r : Nat} {o : Obj} (o' : Obj) (hr : w0.heap.size ≤ r) (ho : X.heap[r]? = some o) : RngAt w f ds bM bT n6 nms i (X.putObj r o') :=
  ⟨h.1.same (World.putObj_heap_other (by omega)), (World.putObj_heap_other (by omega)).trans h.2.1, h.2.2.1, h0.put h.2.2.2.1 o' hr ho, by simpa using h.2.2.2.2⟩
theorem RngX.put {w w0 : World} {f : Sc.Five} {ds : List Deferred} {nms : List (List UInt8)} {c : Code} {i : Nat} {X : World} (h0 : ChkAt w f 0 ds w0) (h : RngX w f ds nms c i X) {r : Nat} {o : Obj} (o' : Obj) (hr : w0.heap.size ≤ r) (ho : X.heap[r]? = some o) : RngX w f ds nms c i (X.putObj r o') := by
  obtain ⟨h1, h2, h3⟩ := h
  have l0 := blk_lt h0.b0
  have l1 := blk_lt h0.b1
  exact ⟨h1, h2, (World.putObj_heap_other (by omega)).trans h3.b0, (World.putObj_heap_other (by omega)).trans h3.b1, Marks.put o' hr h0.ms h3.ms, below_put h3.bt o' (by omega) ho⟩

set_option maxRecDepth 100000 in
set_option maxHeartbeats 8000000 in
theorem sCheck_any (f : Sc.Five) (s : Sc.Sch) (mx : Int) (w : World) (h : Sc.RdSch w w.heap.size f s) (hm : w.cell? ⟨0, 0, none⟩ = some (.int .i64 mx)) :
    Calls Tryz.prog 14 #[.agg f.vals] w fun e w' => e = .returned (.int .i64 (Sc.chk s)) ∧ Below w.heap.size w w' := by
  unfold Sc.Five.vals
  refine (callsIn_wide (n := 3)).1 ?_
  refine callsIn_of_wp_marks Tryz.func14 rfl trivial ?_ rfl
  simp only [Tryz.ntmps14, List.size_toArray, List.length_cons, List.length_nil, Nat.reduceAdd, Nat.reduceSub, Array.replicate_succ, Array.replicate_zero, List.push_toArray, List.append_toArray, List.nil_append, List.cons_append]
  obtain ⟨V1, hV⟩ : ∃ V1, V1 = w.alloc (.cells #[.slice f.aS f.nS f.cS, .slice f.aR f.nR f.cR, .slice f.aP f.nP f.cP, .slice f.aG f.nG f.cG, .slice f.aL f.nL f.cL] 28) := ⟨_, rfl⟩
  have b0 := blk_new hV
  have hb := below_new hV
  have HS1 : Hid (V1.heap.size = w.heap.size + 1) := by show V1.heap.size = _; rw [hV, World.size_alloc]
  have HV1 := Lib.hid hV.symm
  clear hV
  obtain ⟨V2, hV⟩ : ∃ V2, V2 = V1.alloc (.cells #[.int .i64 0] 33) := ⟨_, rfl⟩
  have b1 := blk_new hV
  rw [HS1.out] at b1
  have hb2 := below_new hV
  replace b0 := blk_below b0 hb2
  have HV2 := Lib.hid hV.symm
  clear hV
  rw [← HV1.out] at HV2
  have hA0 : ChkAt w f 0 [] V2 := ⟨b0, b1, trivial, hb.trans (hb2.mono hb.size)⟩
  clear b0 b1 hb hb2 HS1 HV1
  have HM : Hid (∀ W, Below w.heap.size w W → W.cell? ⟨0, 0, none⟩ = some (.int .i64 mx)) := fun W hW => (hW.cell (World.block_lt_of_cell? _ _ hm)).trans hm
  have hmm := @run_makeMap Tryz.prog
  gi_wp2_with fail
  rw [HV2.out]
  clear HV2
  refine wpIn_loop (fun a W => ∃ (k : Nat) (ds : List Deferred) (x4 x18 x19 x20 x21 x22 x23 x24 x25 : Value), a = { tmps := #[.agg #[.slice f.aS f.nS f.cS, .slice f.aR f.nR f.cR, .slice f.aP f.nP f.cP, .slice f.aG f.nG f.cG, .slice f.aL f.nL f.cL], .pointer (some ⟨w.heap.size, 0, none⟩), .pointer (some ⟨w.heap.size + 1, 0, none⟩), .int .i64 (k : Int), x4, undef, undef, undef, undef, undef, undef, undef, undef, undef, undef, undef, undef, undef, x18, x19, x20, x21, x22, x23, x24, x25, undef, undef, undef, undef, undef, undef, undef, undef, undef, undef, undef, undef, undef, undef, undef, undef, undef, undef, undef, undef, undef, undef, undef, undef, undef, undef, undef, undef, undef, undef, undef, undef, undef, undef, undef, undef, undef, undef, undef, undef, undef, undef, undef, undef, undef, undef, undef, undef, undef, undef, undef, undef, undef, undef, undef, undef, undef, undef, undef, undef, undef, undef, undef, undef, undef, undef, undef, undef, undef, undef, undef, undef, undef, undef, undef, undef, undef, undef, undef, undef, undef, undef, undef, undef, undef, undef, undef, undef, undef, undef, undef, undef, undef, undef, undef, undef, undef, undef, undef, undef, undef, undef, undef, undef, undef, undef, undef, undef, undef, undef], defers := ds } ∧ 1 ≤ k ∧ k ≤ 6 ∧ (∀ j : Int, 1 ≤ j → j < (k : Int) → Sc.namesOk (Sc.names s j)) ∧ ChkAt w f 0 ds W) (fun a _ => 6 - (intOf (a.tmps.getD 3 undef)).toNat) ?start ?round
  case start => exact ⟨1, [], undef, undef, undef, undef, undef, undef, undef, undef, undef, rfl, by omega, by omega, fun j h1 h2 => by omega, hA0⟩
  case round =>
    clear hA0
    rintro a W ⟨k, ds, x4, x18, x19, x20, x21, x22, x23, x24, x25, rfl, hk1, hk6, hnames, hA⟩
    have hW : w.heap.size + 2 ≤ W.heap.size := by have := blk_lt hA.b1; omega
    have HNM := Lib.hid hnames
    clear hnames
    by_cases hk5 : k ≤ 5
    · have d1 : decide ((k : Int) ≤ 5) = true := by simp; omega
      obtain ⟨V3, hV⟩ : ∃ V3, V3 = W.alloc (.map #[] 0) := ⟨_, rfl⟩
      have hset : SetOwn Tryz.prog 9 4 V3 W.heap.size 0 [] := by rw [hV]; exact SetOwn.made W
      have hb := below_new hV
      have HS3 : Hid (V3.heap.size = W.heap.size + 1) := by show V3.heap.size = _; rw [hV, World.size_alloc]
      have HV3 := Lib.hid hV.symm
      clear hV
      have hA3 := hA.below hb
      obtain ⟨V4, hV⟩ : ∃ V4, V4 = V3.alloc (.cells #[.map (some W.heap.size)] 65) := ⟨_, rfl⟩
      have bT := blk_new hV
      rw [HS3.out] at bT
      have hb4 := below_new hV
      have HS4 : Hid (V4.heap.size = W.heap.size + 2) := by show V4.heap.size = _; rw [hV, World.size_alloc, HS3.out]
      have HV4 := Lib.hid hV.symm
      clear hV
      rw [← HV3.out] at HV4
      have hA4 := hA3.below hb4
      replace hset := hset.kept (grown_of_below (r := none) hb4) (by simp)
      clear hb hb4 hA3 HS3 HV3
      have b0 := hA4.b0
      unfold Sc.Five.vals at b0
      have c0 := blk_cell (j := 0) b0
      simp only [List.getElem?_toArray, List.getElem?_cons_zero, List.getElem?_cons_succ] at c0
      have c1 := blk_cell (j := 1) b0
      simp only [List.getElem?_toArray, List.getElem?_cons_zero, List.getElem?_cons_succ] at c1
      have c2 := blk_cell (j := 2) b0
      simp only [List.getElem?_toArray, List.getElem?_cons_zero, List.getElem?_cons_succ] at c2
      have c3 := blk_cell (j := 3) b0
      simp only [List.getElem?_toArray, List.getElem?_cons_zero, List.getElem?_cons_succ] at c3
      have c4 := blk_cell (j := 4) b0
      simp only [List.getElem?_toArray, List.getElem?_cons_zero, List.getElem?_cons_succ] at c4
      rw [← HV4.out] at c0 c1 c2 c3 c4
      gi_wp2_with fail
      rw [HV4.out]
      clear c0 c1 c2 c3 c4 HV4 b0
      refine ⟨trivial, ?_⟩
      refine CallsIn.mono (callsIn_wide.2 (elements_any f k V4)) ?_
      rintro e V6 ⟨rfl, hV6⟩
      have hbS : V6.heap[V4.heap.size]? = some (.cells f.vals 28) := by rw [hV6]; exact (Below.heap_alloc _ _ _ (by simp)).trans (World.alloc_heap_new V4 _)
      have hbK : V6.heap[V4.heap.size + 1]? = some (.cells #[.int .i64 (k : Int)] 3) := by rw [hV6]; have := World.alloc_heap_new (V4.alloc (.cells f.vals 28)) (.cells #[.int .i64 (k : Int)] 3); rwa [World.size_alloc] at this
      have hb6 : Below V4.heap.size V4 V6 := by rw [hV6]; exact ((Below.refl _ V4).alloc (Nat.le_refl _) _).alloc (by simp) _
      have HS6 : Hid (V6.heap.size = W.heap.size + 4) := by show V6.heap.size = _; rw [hV6, World.size_alloc, World.size_alloc, HS4.out]
      clear hV6
      have hA6 := hA4.below hb6
      replace hset := hset.kept (grown_of_below (r := none) hb6) (by simp)
      replace bT := blk_below bT hb6
      clear hb6 hA4
      rw [HS4.out] at hbS hbK ⊢
      clear HS4 V4 hA
      have hh := h.below hA6.bt
      gi_wp2_with fail
      obtain ⟨nms, hnms⟩ : ∃ nms, nms = Sc.names s (k : Int) := ⟨_, rfl⟩
      have hokn : ∀ x ∈ nms, Sc.okT x := by rw [hnms]; exact h.okNames (by omega) (by omega)
      have hlenN : nms.length ≤ 9223372036854775807 := by rw [hnms]; exact h.lenNames (by omega) (by omega)
      have hit := elements1_iter (W.heap.size + 2 + 1) (W.heap.size + 2) w.heap.size k f s V6 hbK hbS hh hA6.bt.size (by omega) (by omega)
      rw [← hnms] at hit
      have HSTEP : Hid (Sc.namesOk nms → ∀ j : Int, 1 ≤ j → j < ((k + 1 : Nat) : Int) → Sc.namesOk (Sc.names s j)) := fun hq j h1 h2 => by
        by_cases hj : j < (k : Int)
        · exact HNM.out j h1 hj
        · have : j = (k : Int) := by omega
          rw [this, ← hnms]; exact hq
      have HBAD : Hid (¬ Sc.namesOk nms → Sc.chk s = 1) := fun hq => Sc.chk_bad fun hM => hq (by rw [hnms]; exact hM.1 k (by omega) (by omega))
      clear hnms HNM
      refine wpIn_range (gf := 87) (lb := #[.pointer (some ⟨W.heap.size + 2 + 1, 0, none⟩), .pointer (some ⟨W.heap.size + 2, 0, none⟩)]) rfl (enters_of Tryz.func87 (by kernel_rfl) rfl) hit
        (fun X o => (Below.refl _ X).alloc (Nat.le_refl _) o)
        (fun X Y k o hst _ hk _ => (hst.block k (Array.getElem?_eq_some_iff.1 hk).1).trans hk)
        (fun X o hs => ⟨(Below.refl _ X).alloc (by have := HS6.out; omega) o, Below.heap_alloc _ _ _ (by have := HS6.out; omega), Below.heap_alloc _ _ _ (by have := HS6.out; omega)⟩)
        (fun X Y Z h1 h2 => ⟨h1.1.trans h2.1, h2.2.1.trans h1.2.1, h2.2.2.trans h1.2.2⟩)
        (fun X r o o' hr hk _ => ⟨below_put (Below.refl _ _) o' (by have := HS6.out; omega) hk, World.putObj_heap_other (by have := HS6.out; omega), World.putObj_heap_other (by have := HS6.out; omega)⟩)
        (fun i args X r o o' hy _ _ _ => hy) (fun i args X hy => by obtain ⟨_, _, rfl⟩ := hy; rfl)
        (RngAt w f ds W.heap.size (W.heap.size + 1) V6.heap.size nms) (RngX w f ds nms) (fun i X Y hi hb => hi.below hb) (fun i X r o o' hi hr ho _ => hi.put hA6 (by have := HS6.out; omega) (by have := HS6.out; omega) o' hr ho)
        (fun c i X Y hx hb => ⟨hx.1, hx.2.1, hx.2.2.below hb⟩) (fun c i X r o o' hx hr ho _ => hx.put hA6 o' hr ho)
        ⟨by simpa using hset, bT, ⟨by simp, by simp⟩, hA6, Nat.le_refl _⟩
        (fun args => { tmps := #[.agg #[.slice f.aS f.nS f.cS, .slice f.aR f.nR f.cR, .slice f.aP f.nP f.cP, .slice f.aG f.nG f.cG, .slice f.aL f.nL f.cL], .pointer (some ⟨w.heap.size, 0, none⟩), .pointer (some ⟨w.heap.size + 1, 0, none⟩), .int .i64 (k : Int), .pointer (some ⟨W.heap.size + 1, 0, none⟩), undef, args.getD 1 undef, undef, undef, undef, undef, undef, undef, undef, undef, undef, undef, undef, .int .i64 (k : Int), .bool true, x20, x21, .map (some W.heap.size), .agg #[.slice f.aS f.nS f.cS, .slice f.aR f.nR f.cR, .slice f.aP f.nP f.cP, .slice f.aG f.nG f.cG, .slice f.aL f.nL f.cL], .int .i64 (k : Int), .func (.func 87) #[] #[.pointer (some ⟨W.heap.size + 2 + 1, 0, none⟩), .pointer (some ⟨W.heap.size + 2, 0, none⟩)], args.getD 0 undef, args.getD 1 undef, undef, undef, undef, undef, undef, undef, undef, undef, undef, undef, undef, undef, undef, undef, undef, undef, undef, undef, undef, undef, undef, undef, undef, undef, undef, undef, undef, undef, undef, undef, undef, undef, undef, undef, undef, undef, undef, undef, undef, undef, undef, undef, undef, undef, undef, undef, undef, undef, undef, undef, undef, undef, undef, undef, undef, undef, undef, undef, undef, undef, undef, undef, undef, undef, undef, undef, undef, undef, undef, undef, undef, undef, undef, undef, undef, undef, undef, undef, undef, undef, undef, undef, undef, undef, undef, undef, undef, undef, undef, undef, undef, undef, undef, undef, undef, undef, undef, undef, undef, undef, undef, undef, undef, undef, undef, undef, undef, undef], defers := [] }) ?assign ?body ?done ?stop
      case assign =>
        rintro l0 i args X K ⟨nm, _, rfl⟩ hK
        gi_wp2
        exact hK
      case body =>
        rintro l0 i args X hi ⟨hset, hbT, hok, hX, hX6⟩ ⟨nm, hnm, rfl⟩
        obtain ⟨hil, rfl⟩ := List.getElem?_eq_some_iff.1 hnm
        have hokT := hokn _ (List.getElem_mem hil)
        obtain ⟨bb, hlook, hbb⟩ := hset.look lawS Tryz.underlying65 Tryz.underlying4 (zeroB X) (keyS hokT)
        have cT := blk_cell (j := 0) hbT
        simp only [List.getElem?_toArray, List.getElem?_cons_zero] at cT
        have hmem : (Value.string (strOf nms[i]) ∈ (nms.take i).map fun s => Value.string (strOf s)) ↔ nms[i] ∈ nms.take i := by
          rw [List.mem_map]
          constructor
          · rintro ⟨y, hy, e⟩
            injection e with e
            rw [← strOf_inj.1 e]; exact hy
          · intro hy; exact ⟨_, hy, rfl⟩
        rw [hmem] at hbb
        clear hmem
        have hno : (nms[i] ∈ nms.take i ∨ ¬ Sc.nameOk nms[i]) → ¬ Sc.namesOk nms := fun hq hN => by
          have := (Sc.namesOk_step hil).1 (Sc.namesOk_take hN (i + 1))
          rcases hq with hq | hq
          · exact this.2.2 hq
          · exact hq this.2.1
        have HNO := Lib.hid hno
        have HGO : Hid (Sc.nameOk nms[i] → nms[i] ∉ nms.take i → Sc.namesOk (nms.take (i + 1))) := fun h1 h2 => (Sc.namesOk_step hil).2 ⟨hok, h1, h2⟩
        have HTK : Hid ((nms.take (i + 1)).map (fun s => Value.string (strOf s)) = (nms.take i).map (fun s => Value.string (strOf s)) ++ [.string (strOf nms[i])]) := by show _ = _; rw [List.take_succ_eq_append_getElem hil, List.map_append]; rfl
        clear hno hok hnm
        obtain ⟨nm, hnmE⟩ : ∃ nm, nms[i] = nm := ⟨_, rfl⟩
        rw [hnmE] at hlook hbb hokT HNO HGO HTK ⊢
        clear hnmE
        have r1 := blk_cell (j := 0) hX.b1
        have r2 := blk_frozen 0 hX.b1
        simp only [List.getElem?_toArray, List.getElem?_cons_zero] at r1
        cases bb with
        | true =>
          have HB := Lib.hid (HNO.out (.inl (hbb.1 rfl)))
          clear hbb
          gi_wp2_with fail
          refine ⟨trivial, ?_⟩
          gi_wp2_with fail
          exact ⟨(KeepsOthers.setCell _ _ _).from _, rfl, HB.out, hX.res 1⟩
        | false =>
          have HM1 : Hid (nm ∉ nms.take i) := fun hh => by have := hbb.2 hh; cases this
          clear hbb
          gi_wp2_with fail
          refine ⟨trivial, ?_⟩
          refine CallsIn.mono (callsIn_wide.2 (named_any nm mx X (HM.out X hX.bt) hokT)) ?_
          rintro e X2 ⟨b, rfl, hiff, hb⟩
          clear r1 r2 cT hlook
          have hX2 := hX.below hb
          have hset2 := hset.kept (grown_of_below (r := none) hb) (by simp)
          have hbT2 := blk_below hbT hb
          have cT := blk_cell (j := 0) hbT2
          have r1 := blk_cell (j := 0) hX2.b1
          have r2 := blk_frozen 0 hX2.b1
          simp only [List.getElem?_toArray, List.getElem?_cons_zero] at r1 cT
          cases b with
          | false =>
            have HB := Lib.hid (HNO.out (.inr (fun hh => by have := hiff.2 hh; cases this)))
            clear hiff
            gi_wp2_with fail
            exact ⟨(KeepsFrom.of_grownBy (grown_of_below (r := none) hb) (by simp)).trans ((KeepsOthers.setCell _ _ _).from _), rfl, HB.out, hX2.res 1⟩
          | true =>
            have HB := Lib.hid (HGO.out (hiff.1 rfl) HM1.out)
            clear hiff
            have hil2 : i < maxLen := by unfold maxLen; omega
            obtain ⟨X3, hupd, hset3, hg3⟩ := hset2.add lawS Tryz.underlying65 Tryz.underlying4 hil2 (keyS hokT)
            obtain ⟨es, clock, hmap⟩ : ∃ es clock, X2.heap[W.heap.size]? = some (.map es clock) := by obtain ⟨D, ⟨es, clock, e, _⟩, _⟩ := hset2; exact ⟨es, clock, e⟩
            have hX3 := hX2.grown hmap hg3 (by omega)
            have hbT3 := blk_grown hbT2 hg3 (by simp)
            gi_wp2
            refine ⟨(KeepsFrom.of_grownBy (grown_of_below (r := none) hb) (by simp)).trans (KeepsFrom.of_grownBy hg3 (fun j hj => by cases hj; have := HS6.out; omega)), ⟨?_, ?_, ?_⟩, ?_, hbT3, HB.out, hX3, Nat.le_trans hX6 (Nat.le_trans hb.size hg3.size)⟩
            · exact (hb.mono hX.bt.size).trans ((Below.refl _ _).grown hg3 hX2.bt.size (fun j hj => by cases hj; omega))
            · exact (hg3.block _ (by have := HS6.out; have := hb.size; omega) (fun e => by injection e with e; omega)).trans (hb.block _ (by have := HS6.out; omega))
            · exact (hg3.block _ (by have := HS6.out; have := hb.size; omega) (fun e => by injection e with e; omega)).trans (hb.block _ (by have := HS6.out; omega))
            · rw [HTK.out]; exact hset3
      case done =>
        rintro X ⟨hset, hbT, hok, hX, hX6⟩ hK
        rw [List.take_length] at hok
        have HST := Lib.hid (HSTEP.out hok)
        clear HSTEP HBAD hok
        have hX2 : ChkAt w f 0 _ X := ⟨hX.b0, hX.b1, hA6.ms.push hX.ms (by have := HS6.out; omega) hK, hX.bt⟩
        gi_wp2_with fail
        refine ⟨⟨k + 1, _, _, _, _, _, _, _, _, _, _, rfl, by omega, by omega, HST.out, hX2⟩, ?_⟩
        simp [intOf]; omega
      case stop =>
        rintro c i X _ ⟨rfl, hbad, hX⟩ hK
        have HC := HBAD.out hbad
        gi_wp2_with fail
        rw [HC]
        exact ChkAt.leaves ⟨hX.b0, hX.b1, hA6.ms.push hX.ms (by have := HS6.out; omega) hK, hX.bt⟩ rfl (fun W' hW' => ⟨rfl, hW'⟩)
    · have d1 : decide ((k : Int) ≤ 5) = false := by simp; omega
      obtain rfl : k = 6 := by omega
      have HALL : Hid (∀ j : Int, 1 ≤ j → j ≤ 5 → Sc.namesOk (Sc.names s j)) := fun j h1 h2 => HNM.out j h1 (by omega)
      clear HNM
      obtain ⟨V3, hV⟩ : ∃ V3, V3 = W.alloc (.map #[] 0) := ⟨_, rfl⟩
      have hset : SetOwn Tryz.prog 70 4 V3 W.heap.size 0 [] := by rw [hV]; exact SetOwn.made W
      have hb := below_new hV
      have HV3 := Lib.hid hV.symm
      clear hV
      have hA3 := hA.below hb
      clear hb hA
      have b0 := hA3.b0
      unfold Sc.Five.vals at b0
      have c0 := blk_cell (j := 0) b0
      simp only [List.getElem?_toArray, List.getElem?_cons_zero, List.getElem?_cons_succ] at c0
      have c1 := blk_cell (j := 1) b0
      simp only [List.getElem?_toArray, List.getElem?_cons_zero, List.getElem?_cons_succ] at c1
      have c2 := blk_cell (j := 2) b0
      simp only [List.getElem?_toArray, List.getElem?_cons_zero, List.getElem?_cons_succ] at c2
      have c3 := blk_cell (j := 3) b0
      simp only [List.getElem?_toArray, List.getElem?_cons_zero, List.getElem?_cons_succ] at c3
      have c4 := blk_cell (j := 4) b0
      simp only [List.getElem?_toArray, List.getElem?_cons_zero, List.getElem?_cons_succ] at c4
      have m1 := h.slots.max
      have m2 := h.slots.le
      have HLS := Lib.hid (h.slots.len (by omega))
      rw [← HV3.out] at c0 c1 c2 c3 c4
      gi_wp2_with fail
      rw [HV3.out]
      clear c0 c1 c2 c3 c4 HV3 b0
      obtain ⟨aS, hAS⟩ : ∃ aS, f.aS = aS := ⟨_, rfl⟩
      have hsl := h.slots
      rw [hAS] at hsl ⊢
      clear hAS
      gi_loopw [42] (fun iv wr => ∃ j : Nat, iv = .int .i64 j ∧ j ≤ f.nS ∧ SetOwn Tryz.prog 70 4 wr W.heap.size j ((s.slots.take j).map fun x => .agg #[.int .i64 x.day, .int .i64 x.hour]) ∧ Sc.timesOk (s.slots.take j) ∧ ChkAt w f 0 ds wr) (fun iv _ => f.nS - (intOf iv).toNat)
      case atStart => exact ⟨0, rfl, by omega, by simpa using hset, ⟨by simp, by simp⟩, hA3⟩
      case round =>
        clear hset hA3
        obtain ⟨j, rfl, hj, hset, htim, hA⟩ := hrel
        by_cases hjn : j < f.nS
        · have hjl : j < s.slots.length := by rw [HLS.out]; exact hjn
          obtain ⟨ad, r, rfl, _, hr, hR, hc⟩ := RdS.at_ (by omega) (hsl.below Sc.lasts_Slo hA.bt) hjn hjl
          obtain ⟨rfl, ok0, ok1, ok2⟩ := hR
          clear hr
          have x0 := hc 0 _ rfl
          have x1 := hc 1 _ rfl
          have x2 := hc 2 _ rfl
          rw [Nat.add_zero] at x0
          replace x1 := cell_sub x1
          replace x2 := cell_sub x2
          clear hc
          have d1 : decide ((j : Int) < (f.nS : Int)) = true := by simp; omega
          have d2 : decide (j < f.nS) = true := by simp; omega
          have hmem : (Value.agg #[.int .i64 s.slots[j].day, .int .i64 s.slots[j].hour] ∈ (s.slots.take j).map fun x => Value.agg #[.int .i64 x.day, .int .i64 x.hour]) ↔ (s.slots[j].day, s.slots[j].hour) ∈ (s.slots.take j).map fun x => (x.day, x.hour) := by
            rw [List.mem_map, List.mem_map]
            constructor
            · rintro ⟨y, hy, e⟩
              refine ⟨y, hy, ?_⟩
              simp at e
              rw [e.1, e.2]
            · rintro ⟨y, hy, e⟩
              refine ⟨y, hy, ?_⟩
              simp at e
              rw [e.1, e.2]
          have HTS := Lib.hid (Sc.timesOk_step hjl)
          have HTN : Hid (Sc.May s → Sc.timesOk (s.slots.take (j + 1))) := fun hM => Sc.timesOk_take hM.2.1 (j + 1)
          have HTK : Hid ((s.slots.take (j + 1)).map (fun x => Value.agg #[.int .i64 x.day, .int .i64 x.hour]) = (s.slots.take j).map (fun x => Value.agg #[.int .i64 x.day, .int .i64 x.hour]) ++ [.agg #[.int .i64 s.slots[j].day, .int .i64 s.slots[j].hour]]) := by show _ = _; rw [List.take_succ_eq_append_getElem hjl, List.map_append]; rfl
          have HMEM := Lib.hid hmem
          clear hmem
          generalize s.slots[j] = x at *
          obtain ⟨nm, dy, hr⟩ := x
          dsimp only at *
          obtain ⟨kl, hkl⟩ := keyT ok1 ok2
          obtain ⟨V5, hV⟩ : ∃ V5, V5 = wr.alloc (.cells #[.string (strOf nm), .int .i64 dy, .int .i64 hr] 69) := ⟨_, rfl⟩
          have b9 := blk_new hV
          have hb := below_new hV
          have HS5 : Hid (V5.heap.size = wr.heap.size + 1) := by show V5.heap.size = _; rw [hV, World.size_alloc]
          have HV5 := Lib.hid hV.symm
          clear hV
          have hA5 := hA.below hb
          replace hset := hset.kept (grown_of_below (r := none) hb) (by simp)
          clear hb hA
          obtain ⟨V6, hV⟩ : ∃ V6, V6 = V5.alloc (.cells #[.int .i64 dy, .int .i64 hr] 70) := ⟨_, rfl⟩
          have b10 := blk_new hV
          rw [HS5.out] at b10
          have hb := below_new hV
          have HV6 := Lib.hid hV.symm
          clear hV
          rw [← HV5.out] at HV6
          have hA6 := hA5.below hb
          replace hset := hset.kept (grown_of_below (r := none) hb) (by simp)
          replace b9 := blk_below b9 hb
          clear hb hA5 HS5 HV5
          obtain ⟨bb, hlook, hbb⟩ := hset.look lawT Tryz.underlying67 Tryz.underlying4 (zeroB V6) hkl
          rw [HMEM.out] at hbb
          clear HMEM
          have y0 := blk_cell (j := 0) b9
          simp only [List.getElem?_toArray, List.getElem?_cons_zero, List.getElem?_cons_succ] at y0
          have y1 := blk_cell (j := 1) b9
          simp only [List.getElem?_toArray, List.getElem?_cons_zero, List.getElem?_cons_succ] at y1
          have y2 := blk_cell (j := 2) b9
          simp only [List.getElem?_toArray, List.getElem?_cons_zero, List.getElem?_cons_succ] at y2
          have z0 := blk_cell (j := 0) b10
          simp only [List.getElem?_toArray, List.getElem?_cons_zero, List.getElem?_cons_succ] at z0
          have z1 := blk_cell (j := 1) b10
          simp only [List.getElem?_toArray, List.getElem?_cons_zero, List.getElem?_cons_succ] at z1
          have r1 := blk_cell (j := 0) hA6.b1
          have r2 := blk_frozen 0 hA6.b1
          simp only [List.getElem?_toArray, List.getElem?_cons_zero] at r1
          have hlook' := hlook
          rw [← HV6.out] at hlook'
          cases bb with
          | true =>
            have HB := Lib.hid (hbb.1 rfl)
            clear hbb
            rw [← HV6.out] at r1 r2
            gi_wp2_with fail
            refine ⟨trivial, ?_⟩
            gi_wp2_with fail
            refine ⟨trivial, ?_⟩
            rw [HV6.out]
            rw [HV6.out] at r1 r2
            have HC := Lib.hid (Sc.chk_bad (fun hM : Sc.May s => (HTS.out.1 (HTN.out hM)).2.2.2 HB.out))
            gi_wp2_with fail
            rw [HC.out]
            exact (hA6.res 1).leaves rfl (fun W' hW' => ⟨rfl, hW'⟩)
          | false =>
            have HB : Hid ((dy, hr) ∉ (s.slots.take j).map fun x => (x.day, x.hour)) := fun hh => by have := hbb.2 hh; cases this
            clear hbb
            gi_wp2_with fail
            refine ⟨trivial, ?_⟩
            rw [HV6.out]
            clear hlook'
            refine CallsIn.mono (callsIn_wide.2 (swithin_any dy 6 V6)) ?_
            rintro e w2 ⟨b, rfl, hiff, rfl⟩
            cases b with
            | false =>
              have HB2 : Hid (¬ Sc.within dy 6) := fun hh => by have := hiff.2 hh; cases this
              clear hiff
              gi_wp2_with fail
              refine ⟨trivial, ?_⟩
              have HC := Lib.hid (Sc.chk_bad (fun hM : Sc.May s => HB2.out (HTS.out.1 (HTN.out hM)).2.1))
              gi_wp2_with fail
              rw [HC.out]
              exact (hA6.res 1).leaves rfl (fun W' hW' => ⟨rfl, hW'⟩)
            | true =>
              have HB2 := Lib.hid (hiff.1 rfl)
              clear hiff
              gi_wp2_with fail
              refine ⟨trivial, ?_⟩
              refine CallsIn.mono (callsIn_wide.2 (swithin_any hr 11 V6)) ?_
              rintro e w2 ⟨b, rfl, hiff, rfl⟩
              cases b with
              | false =>
                have HB3 : Hid (¬ Sc.within hr 11) := fun hh => by have := hiff.2 hh; cases this
                clear hiff
                have HC := Lib.hid (Sc.chk_bad (fun hM : Sc.May s => HB3.out (HTS.out.1 (HTN.out hM)).2.2.1))
                gi_wp2_with fail
                rw [HC.out]
                exact (hA6.res 1).leaves rfl (fun W' hW' => ⟨rfl, hW'⟩)
              | true =>
                have HB3 := Lib.hid (hiff.1 rfl)
                clear hiff
                have HT2 := Lib.hid (HTS.out.2 ⟨htim, HB2.out, HB3.out, HB.out⟩)
                have hjm : j < maxLen := by unfold maxLen; omega
                obtain ⟨X3, hupd, hset3, hg3⟩ := hset.add lawT Tryz.underlying67 Tryz.underlying4 hjm hkl
                obtain ⟨es, clock, hmap⟩ : ∃ es clock, V6.heap[W.heap.size]? = some (.map es clock) := by obtain ⟨D, ⟨es, clock, e, _⟩, _⟩ := hset; exact ⟨es, clock, e⟩
                have hX3 := hA6.grown hmap hg3 (by omega)
                gi_wp2_with fail
                go_roundw
                case rel => exact ⟨j + 1, by go_num, by omega, by rw [HTK.out]; exact hset3, HT2.out, hX3⟩
                case measure => simp [intOf]; omega
        · obtain rfl : j = f.nS := by omega
          have d1 : decide ((f.nS : Int) < (f.nS : Int)) = false := by simp
          have HT : Hid (Sc.timesOk s.slots) := by rw [List.take_of_length_le (by rw [HLS.out]; omega)] at htim; exact htim
          clear htim hset
          have b0 := hA.b0
          unfold Sc.Five.vals at b0
          have c0 := blk_cell (j := 0) b0
          simp only [List.getElem?_toArray, List.getElem?_cons_zero, List.getElem?_cons_succ] at c0
          have c1 := blk_cell (j := 1) b0
          simp only [List.getElem?_toArray, List.getElem?_cons_zero, List.getElem?_cons_succ] at c1
          have c2 := blk_cell (j := 2) b0
          simp only [List.getElem?_toArray, List.getElem?_cons_zero, List.getElem?_cons_succ] at c2
          have c3 := blk_cell (j := 3) b0
          simp only [List.getElem?_toArray, List.getElem?_cons_zero, List.getElem?_cons_succ] at c3
          have c4 := blk_cell (j := 4) b0
          simp only [List.getElem?_toArray, List.getElem?_cons_zero, List.getElem?_cons_succ] at c4
          gi_wp2_with fail
          clear c0 c1 c2 c3 c4 b0
          have hbt := Below.refl wr.heap.size wr
          have hwr : w.heap.size + 2 ≤ wr.heap.size := by have := blk_lt hA.b1; omega
          refine wpIn_wide.2 (Code.wp_mono (Q := fun e a V => e = .normal ∧ ∃ p q r : Nat, a = { tmps := #[.agg #[.slice aS f.nS f.cS, .slice f.aR f.nR f.cR, .slice f.aP f.nP f.cP, .slice f.aG f.nG f.cG, .slice f.aL f.nL f.cL], .pointer (some ⟨w.heap.size, 0, none⟩), .pointer (some ⟨w.heap.size + 1, 0, none⟩), .int .i64 6, x4, undef, undef, .map (some W.heap.size), undef, u9, u10, .pointer (some ⟨p, 0, none⟩), .pointer (some ⟨q, 0, none⟩), .pointer (some ⟨r, 0, none⟩), undef, undef, undef, undef, .int .i64 6, .bool false, x20, x21, x22, x23, x24, x25, undef, undef, undef, undef, undef, undef, undef, undef, undef, undef, undef, undef, .map (some W.heap.size), .pointer (some ⟨w.heap.size, 0, none⟩), .slice aS f.nS f.cS, .int .i64 (f.nS : Int), .int .i64 (f.nS : Int), .bool false, u44, u45, u46, u47, u48, u49, u50, u51, u52, u53, u54, u55, u56, u57, u58, u59, u60, u61, u62, u63, u64, u65, u66, u67, u68, .pointer (some ⟨w.heap.size, 0, none⟩), .slice f.aS f.nS f.cS, .int .i64 (f.nS : Int), .pointer (some ⟨w.heap.size, 2, none⟩), .slice f.aP f.nP f.cP, .int .i64 (f.nP : Int), .pointer (some ⟨w.heap.size, 3, none⟩), .slice f.aG f.nG f.cG, .int .i64 (f.nG : Int), undef, undef, undef, undef, undef, undef, undef, undef, undef, undef, undef, undef, undef, undef, undef, undef, undef, undef, undef, undef, undef, undef, undef, undef, undef, undef, undef, undef, undef, undef, undef, undef, undef, undef, undef, undef, undef, undef, undef, undef, undef, undef, undef, undef, undef, undef, undef, undef, undef, undef, undef, undef, undef, undef, undef, undef, undef, undef], defers := ds } ∧ V.heap[p]? = some (.cells #[.int .i64 (f.nS : Int)] 3) ∧ V.heap[q]? = some (.cells #[.int .i64 (f.nP : Int)] 3) ∧ V.heap[r]? = some (.cells #[.int .i64 (f.nG : Int)] 3) ∧ ChkAt w f 0 ds V) ?cont ?reg)
          case reg =>
            refine wp_region_fix [0, 1, 2, 3, 4, 5, 6, 7, 8] (.three [] 9 (.two [] 10 (.one [] 11 (.one [] 12 (.one [] 13 (.one [] 14 (.fin []))))) 11 (.one [] 10 (.one [] 12 (.one [] 13 (.one [] 14 (.fin [])))))) 10 (.two [] 9 (.one [] 11 (.one [] 12 (.one [] 13 (.one [] 14 (.fin []))))) 11 (.one [] 9 (.one [] 12 (.one [] 13 (.one [] 14 (.fin [])))))) 11 (.two [] 9 (.one [] 10 (.one [] 12 (.one [] 13 (.one [] 14 (.fin []))))) 10 (.one [] 9 (.one [] 12 (.one [] 13 (.one [] 14 (.fin []))))))) (by kernel_rfl) (by kernel_rfl) ?_
            intro wd hsz hb
            clear hsz
            replace hA := hA.below hb
            replace hbt := hbt.trans (hb.mono hbt.size)
            clear hb
            have e0 : ∀ x : Ext wd.heap.size wd, x.val.cell? ⟨w.heap.size, 0, none⟩ = some (.slice f.aS f.nS f.cS) := fun x => ((x.cell (blk_lt hA.b0)).trans (blk_cell hA.b0)).trans rfl
            have e2 : ∀ x : Ext wd.heap.size wd, x.val.cell? ⟨w.heap.size, 2, none⟩ = some (.slice f.aP f.nP f.cP) := fun x => ((x.cell (blk_lt hA.b0)).trans (blk_cell hA.b0)).trans rfl
            have e3 : ∀ x : Ext wd.heap.size wd, x.val.cell? ⟨w.heap.size, 3, none⟩ = some (.slice f.aG f.nG f.cG) := fun x => ((x.cell (blk_lt hA.b0)).trans (blk_cell hA.b0)).trans rfl
            simp only [pick, List.map_cons, List.map_nil, List.getD_cons_zero, List.getD_cons_succ]
            (repeat (go_big_quiet_step (fail)))
            refine quiet_end ?_
            clear e0 e2 e3
            have hD := Below.refl wd.heap.size wd
            have sw := hbt.size
            clear hbt
            refine ⟨?_, ?_, ?_⟩
            · refine mov_call (by kernel_rfl) (fun K hK => ?_)
              go_simp
              obtain ⟨V9, hV⟩ : ∃ V9, V9 = wd.alloc (.cells #[.int .i64 0] 3) := ⟨_, rfl⟩
              have b9 := blk_new hV
              have hb := below_new hV
              have s9 : wd.heap.size ≤ wd.heap.size := hD.size
              have k9 : wd.heap.size < V9.heap.size := blk_lt b9
              rw [← hV]
              clear hV
              replace hA := hA.below hb
              replace hD := hD.trans (hb.mono hD.size)
              clear hb
              refine hK.out _ _ hD ?_
              clear hK K
              (try simp only [Act.put, List.setIfInBounds_toArray, List.set_cons_zero, List.set_cons_succ])
              refine ⟨?_, ?_⟩
              · refine mov_call (by kernel_rfl) (fun K hK => ?_)
                go_simp
                obtain ⟨V10, hV⟩ : ∃ V10, V10 = V9.alloc (.cells #[.int .i64 0] 3) := ⟨_, rfl⟩
                have b10 := blk_new hV
                have hb := below_new hV
                have s10 : wd.heap.size ≤ V9.heap.size := hD.size
                have k10 : V9.heap.size < V10.heap.size := blk_lt b10
                rw [← hV]
                clear hV
                replace b9 := blk_below b9 hb
                replace hA := hA.below hb
                replace hD := hD.trans (hb.mono hD.size)
                clear hb
                refine hK.out _ _ hD ?_
                clear hK K
                (try simp only [Act.put, List.setIfInBounds_toArray, List.set_cons_zero, List.set_cons_succ])
                refine mov_call (by kernel_rfl) (fun K hK => ?_)
                go_simp
                obtain ⟨V11, hV⟩ : ∃ V11, V11 = V10.alloc (.cells #[.int .i64 0] 3) := ⟨_, rfl⟩
                have b11 := blk_new hV
                have hb := below_new hV
                have s11 : wd.heap.size ≤ V10.heap.size := hD.size
                have k11 : V10.heap.size < V11.heap.size := blk_lt b11
                rw [← hV]
                clear hV
                replace b9 := blk_below b9 hb
                replace b10 := blk_below b10 hb
                replace hA := hA.below hb
                replace hD := hD.trans (hb.mono hD.size)
                clear hb
                refine hK.out _ _ hD ?_
                clear hK K
                (try simp only [Act.put, List.setIfInBounds_toArray, List.set_cons_zero, List.set_cons_succ])
                refine mov_call (by kernel_rfl) (fun K hK => ?_)
                have c1 := blk_cell (j := 0) b9
                simp only [List.getElem?_toArray, List.getElem?_cons_zero] at c1
                have f1 := blk_frozen 0 b9
                go_simp
                replace hA := hA.set (p := ⟨wd.heap.size, 0, none⟩) b9 (by show _ ≤ wd.heap.size; omega) (.int .i64 (f.nS : Int))
                replace hD := hD.setCell (p := ⟨wd.heap.size, 0, none⟩) (by show _ ≤ wd.heap.size; omega) (.int .i64 (f.nS : Int))
                replace b10 := blk_other (p := ⟨wd.heap.size, 0, none⟩) (.int .i64 (f.nS : Int)) b10 (by show wd.heap.size ≠ V9.heap.size; omega)
                replace b11 := blk_other (p := ⟨wd.heap.size, 0, none⟩) (.int .i64 (f.nS : Int)) b11 (by show wd.heap.size ≠ V10.heap.size; omega)
                replace b9 := blk_set (k := 0) (.int .i64 (f.nS : Int)) b9
                simp only [List.setIfInBounds_toArray, List.set_cons_zero] at b9
                clear c1 f1
                refine hK.out _ _ hD ?_
                clear hK K
                generalize V11.setCell ⟨wd.heap.size, 0, none⟩ (.int .i64 (f.nS : Int)) = X0 at *
                (try simp only [Act.put, List.setIfInBounds_toArray, List.set_cons_zero, List.set_cons_succ])
                refine mov_call (by kernel_rfl) (fun K hK => ?_)
                have c1 := blk_cell (j := 0) b10
                simp only [List.getElem?_toArray, List.getElem?_cons_zero] at c1
                have f1 := blk_frozen 0 b10
                go_simp
                replace hA := hA.set (p := ⟨V9.heap.size, 0, none⟩) b10 (by show _ ≤ V9.heap.size; omega) (.int .i64 (f.nP : Int))
                replace hD := hD.setCell (p := ⟨V9.heap.size, 0, none⟩) (by show _ ≤ V9.heap.size; omega) (.int .i64 (f.nP : Int))
                replace b9 := blk_other (p := ⟨V9.heap.size, 0, none⟩) (.int .i64 (f.nP : Int)) b9 (by show V9.heap.size ≠ wd.heap.size; omega)
                replace b11 := blk_other (p := ⟨V9.heap.size, 0, none⟩) (.int .i64 (f.nP : Int)) b11 (by show V9.heap.size ≠ V10.heap.size; omega)
                replace b10 := blk_set (k := 0) (.int .i64 (f.nP : Int)) b10
                simp only [List.setIfInBounds_toArray, List.set_cons_zero] at b10
                clear c1 f1
                refine hK.out _ _ hD ?_
                clear hK K
                generalize X0.setCell ⟨V9.heap.size, 0, none⟩ (.int .i64 (f.nP : Int)) = X1 at *
                (try simp only [Act.put, List.setIfInBounds_toArray, List.set_cons_zero, List.set_cons_succ])
                refine mov_call (by kernel_rfl) (fun K hK => ?_)
                have c1 := blk_cell (j := 0) b11
                simp only [List.getElem?_toArray, List.getElem?_cons_zero] at c1
                have f1 := blk_frozen 0 b11
                go_simp
                replace hA := hA.set (p := ⟨V10.heap.size, 0, none⟩) b11 (by show _ ≤ V10.heap.size; omega) (.int .i64 (f.nG : Int))
                replace hD := hD.setCell (p := ⟨V10.heap.size, 0, none⟩) (by show _ ≤ V10.heap.size; omega) (.int .i64 (f.nG : Int))
                replace b9 := blk_other (p := ⟨V10.heap.size, 0, none⟩) (.int .i64 (f.nG : Int)) b9 (by show V10.heap.size ≠ wd.heap.size; omega)
                replace b10 := blk_other (p := ⟨V10.heap.size, 0, none⟩) (.int .i64 (f.nG : Int)) b10 (by show V10.heap.size ≠ V9.heap.size; omega)
                replace b11 := blk_set (k := 0) (.int .i64 (f.nG : Int)) b11
                simp only [List.setIfInBounds_toArray, List.set_cons_zero] at b11
                clear c1 f1
                refine hK.out _ _ hD ?_
                clear hK K
                generalize X1.setCell ⟨V10.heap.size, 0, none⟩ (.int .i64 (f.nG : Int)) = X2 at *
                (try simp only [Act.put, List.setIfInBounds_toArray, List.set_cons_zero, List.set_cons_succ])
                refine fix_fin ?_
                exact ⟨rfl, _, _, _, rfl, b9, b10, b11, hA⟩
              · refine mov_call (by kernel_rfl) (fun K hK => ?_)
                go_simp
                obtain ⟨V11, hV⟩ : ∃ V11, V11 = V9.alloc (.cells #[.int .i64 0] 3) := ⟨_, rfl⟩
                have b11 := blk_new hV
                have hb := below_new hV
                have s11 : wd.heap.size ≤ V9.heap.size := hD.size
                have k11 : V9.heap.size < V11.heap.size := blk_lt b11
                rw [← hV]
                clear hV
                replace b9 := blk_below b9 hb
                replace hA := hA.below hb
                replace hD := hD.trans (hb.mono hD.size)
                clear hb
                refine hK.out _ _ hD ?_
                clear hK K
                (try simp only [Act.put, List.setIfInBounds_toArray, List.set_cons_zero, List.set_cons_succ])
                refine mov_call (by kernel_rfl) (fun K hK => ?_)
                go_simp
                obtain ⟨V10, hV⟩ : ∃ V10, V10 = V11.alloc (.cells #[.int .i64 0] 3) := ⟨_, rfl⟩
                have b10 := blk_new hV
                have hb := below_new hV
                have s10 : wd.heap.size ≤ V11.heap.size := hD.size
                have k10 : V11.heap.size < V10.heap.size := blk_lt b10
                rw [← hV]
                clear hV
                replace b9 := blk_below b9 hb
                replace b11 := blk_below b11 hb
                replace hA := hA.below hb
                replace hD := hD.trans (hb.mono hD.size)
                clear hb
                refine hK.out _ _ hD ?_
                clear hK K
                (try simp only [Act.put, List.setIfInBounds_toArray, List.set_cons_zero, List.set_cons_succ])
                refine mov_call (by kernel_rfl) (fun K hK => ?_)
                have c1 := blk_cell (j := 0) b9
                simp only [List.getElem?_toArray, List.getElem?_cons_zero] at c1
                have f1 := blk_frozen 0 b9
                go_simp
                replace hA := hA.set (p := ⟨wd.heap.size, 0, none⟩) b9 (by show _ ≤ wd.heap.size; omega) (.int .i64 (f.nS : Int))
                replace hD := hD.setCell (p := ⟨wd.heap.size, 0, none⟩) (by show _ ≤ wd.heap.size; omega) (.int .i64 (f.nS : Int))
                replace b10 := blk_other (p := ⟨wd.heap.size, 0, none⟩) (.int .i64 (f.nS : Int)) b10 (by show wd.heap.size ≠ V11.heap.size; omega)
                replace b11 := blk_other (p := ⟨wd.heap.size, 0, none⟩) (.int .i64 (f.nS : Int)) b11 (by show wd.heap.size ≠ V9.heap.size; omega)
                replace b9 := blk_set (k := 0) (.int .i64 (f.nS : Int)) b9
                simp only [List.setIfInBounds_toArray, List.set_cons_zero] at b9
                clear c1 f1
                refine hK.out _ _ hD ?_
                clear hK K
                generalize V10.setCell ⟨wd.heap.size, 0, none⟩ (.int .i64 (f.nS : Int)) = X0 at *
                (try simp only [Act.put, List.setIfInBounds_toArray, List.set_cons_zero, List.set_cons_succ])
                refine mov_call (by kernel_rfl) (fun K hK => ?_)
                have c1 := blk_cell (j := 0) b10
                simp only [List.getElem?_toArray, List.getElem?_cons_zero] at c1
                have f1 := blk_frozen 0 b10
                go_simp
                replace hA := hA.set (p := ⟨V11.heap.size, 0, none⟩) b10 (by show _ ≤ V11.heap.size; omega) (.int .i64 (f.nP : Int))
                replace hD := hD.setCell (p := ⟨V11.heap.size, 0, none⟩) (by show _ ≤ V11.heap.size; omega) (.int .i64 (f.nP : Int))
                replace b9 := blk_other (p := ⟨V11.heap.size, 0, none⟩) (.int .i64 (f.nP : Int)) b9 (by show V11.heap.size ≠ wd.heap.size; omega)
                replace b11 := blk_other (p := ⟨V11.heap.size, 0, none⟩) (.int .i64 (f.nP : Int)) b11 (by show V11.heap.size ≠ V9.heap.size; omega)
                replace b10 := blk_set (k := 0) (.int .i64 (f.nP : Int)) b10
                simp only [List.setIfInBounds_toArray, List.set_cons_zero] at b10
                clear c1 f1
                refine hK.out _ _ hD ?_
                clear hK K
                generalize X0.setCell ⟨V11.heap.size, 0, none⟩ (.int .i64 (f.nP : Int)) = X1 at *
                (try simp only [Act.put, List.setIfInBounds_toArray, List.set_cons_zero, List.set_cons_succ])
                refine mov_call (by kernel_rfl) (fun K hK => ?_)
                have c1 := blk_cell (j := 0) b11
                simp only [List.getElem?_toArray, List.getElem?_cons_zero] at c1
                have f1 := blk_frozen 0 b11
                go_simp
                replace hA := hA.set (p := ⟨V9.heap.size, 0, none⟩) b11 (by show _ ≤ V9.heap.size; omega) (.int .i64 (f.nG : Int))
                replace hD := hD.setCell (p := ⟨V9.heap.size, 0, none⟩) (by show _ ≤ V9.heap.size; omega) (.int .i64 (f.nG : Int))
                replace b9 := blk_other (p := ⟨V9.heap.size, 0, none⟩) (.int .i64 (f.nG : Int)) b9 (by show V9.heap.size ≠ wd.heap.size; omega)
                replace b10 := blk_other (p := ⟨V9.heap.size, 0, none⟩) (.int .i64 (f.nG : Int)) b10 (by show V9.heap.size ≠ V11.heap.size; omega)
                replace b11 := blk_set (k := 0) (.int .i64 (f.nG : Int)) b11
                simp only [List.setIfInBounds_toArray, List.set_cons_zero] at b11
                clear c1 f1
                refine hK.out _ _ hD ?_
                clear hK K
                generalize X1.setCell ⟨V9.heap.size, 0, none⟩ (.int .i64 (f.nG : Int)) = X2 at *
                (try simp only [Act.put, List.setIfInBounds_toArray, List.set_cons_zero, List.set_cons_succ])
                refine fix_fin ?_
                exact ⟨rfl, _, _, _, rfl, b9, b10, b11, hA⟩
            · refine mov_call (by kernel_rfl) (fun K hK => ?_)
              go_simp
              obtain ⟨V10, hV⟩ : ∃ V10, V10 = wd.alloc (.cells #[.int .i64 0] 3) := ⟨_, rfl⟩
              have b10 := blk_new hV
              have hb := below_new hV
              have s10 : wd.heap.size ≤ wd.heap.size := hD.size
              have k10 : wd.heap.size < V10.heap.size := blk_lt b10
              rw [← hV]
              clear hV
              replace hA := hA.below hb
              replace hD := hD.trans (hb.mono hD.size)
              clear hb
              refine hK.out _ _ hD ?_
              clear hK K
              (try simp only [Act.put, List.setIfInBounds_toArray, List.set_cons_zero, List.set_cons_succ])
              refine ⟨?_, ?_⟩
              · refine mov_call (by kernel_rfl) (fun K hK => ?_)
                go_simp
                obtain ⟨V9, hV⟩ : ∃ V9, V9 = V10.alloc (.cells #[.int .i64 0] 3) := ⟨_, rfl⟩
                have b9 := blk_new hV
                have hb := below_new hV
                have s9 : wd.heap.size ≤ V10.heap.size := hD.size
                have k9 : V10.heap.size < V9.heap.size := blk_lt b9
                rw [← hV]
                clear hV
                replace b10 := blk_below b10 hb
                replace hA := hA.below hb
                replace hD := hD.trans (hb.mono hD.size)
                clear hb
                refine hK.out _ _ hD ?_
                clear hK K
                (try simp only [Act.put, List.setIfInBounds_toArray, List.set_cons_zero, List.set_cons_succ])
                refine mov_call (by kernel_rfl) (fun K hK => ?_)
                go_simp
                obtain ⟨V11, hV⟩ : ∃ V11, V11 = V9.alloc (.cells #[.int .i64 0] 3) := ⟨_, rfl⟩
                have b11 := blk_new hV
                have hb := below_new hV
                have s11 : wd.heap.size ≤ V9.heap.size := hD.size
                have k11 : V9.heap.size < V11.heap.size := blk_lt b11
                rw [← hV]
                clear hV
                replace b10 := blk_below b10 hb
                replace b9 := blk_below b9 hb
                replace hA := hA.below hb
                replace hD := hD.trans (hb.mono hD.size)
                clear hb
                refine hK.out _ _ hD ?_
                clear hK K
                (try simp only [Act.put, List.setIfInBounds_toArray, List.set_cons_zero, List.set_cons_succ])
                refine mov_call (by kernel_rfl) (fun K hK => ?_)
                have c1 := blk_cell (j := 0) b9
                simp only [List.getElem?_toArray, List.getElem?_cons_zero] at c1
                have f1 := blk_frozen 0 b9
                go_simp
                replace hA := hA.set (p := ⟨V10.heap.size, 0, none⟩) b9 (by show _ ≤ V10.heap.size; omega) (.int .i64 (f.nS : Int))
                replace hD := hD.setCell (p := ⟨V10.heap.size, 0, none⟩) (by show _ ≤ V10.heap.size; omega) (.int .i64 (f.nS : Int))
                replace b10 := blk_other (p := ⟨V10.heap.size, 0, none⟩) (.int .i64 (f.nS : Int)) b10 (by show V10.heap.size ≠ wd.heap.size; omega)
                replace b11 := blk_other (p := ⟨V10.heap.size, 0, none⟩) (.int .i64 (f.nS : Int)) b11 (by show V10.heap.size ≠ V9.heap.size; omega)
                replace b9 := blk_set (k := 0) (.int .i64 (f.nS : Int)) b9
                simp only [List.setIfInBounds_toArray, List.set_cons_zero] at b9
                clear c1 f1
                refine hK.out _ _ hD ?_
                clear hK K
                generalize V11.setCell ⟨V10.heap.size, 0, none⟩ (.int .i64 (f.nS : Int)) = X0 at *
                (try simp only [Act.put, List.setIfInBounds_toArray, List.set_cons_zero, List.set_cons_succ])
                refine mov_call (by kernel_rfl) (fun K hK => ?_)
                have c1 := blk_cell (j := 0) b10
                simp only [List.getElem?_toArray, List.getElem?_cons_zero] at c1
                have f1 := blk_frozen 0 b10
                go_simp
                replace hA := hA.set (p := ⟨wd.heap.size, 0, none⟩) b10 (by show _ ≤ wd.heap.size; omega) (.int .i64 (f.nP : Int))
                replace hD := hD.setCell (p := ⟨wd.heap.size, 0, none⟩) (by show _ ≤ wd.heap.size; omega) (.int .i64 (f.nP : Int))
                replace b9 := blk_other (p := ⟨wd.heap.size, 0, none⟩) (.int .i64 (f.nP : Int)) b9 (by show wd.heap.size ≠ V10.heap.size; omega)
                replace b11 := blk_other (p := ⟨wd.heap.size, 0, none⟩) (.int .i64 (f.nP : Int)) b11 (by show wd.heap.size ≠ V9.heap.size; omega)
                replace b10 := blk_set (k := 0) (.int .i64 (f.nP : Int)) b10
                simp only [List.setIfInBounds_toArray, List.set_cons_zero] at b10
                clear c1 f1
                refine hK.out _ _ hD ?_
                clear hK K
                generalize X0.setCell ⟨wd.heap.size, 0, none⟩ (.int .i64 (f.nP : Int)) = X1 at *
                (try simp only [Act.put, List.setIfInBounds_toArray, List.set_cons_zero, List.set_cons_succ])
                refine mov_call (by kernel_rfl) (fun K hK => ?_)
                have c1 := blk_cell (j := 0) b11
                simp only [List.getElem?_toArray, List.getElem?_cons_zero] at c1
                have f1 := blk_frozen 0 b11
                go_simp
                replace hA := hA.set (p := ⟨V9.heap.size, 0, none⟩) b11 (by show _ ≤ V9.heap.size; omega) (.int .i64 (f.nG : Int))
                replace hD := hD.setCell (p := ⟨V9.heap.size, 0, none⟩) (by show _ ≤ V9.heap.size; omega) (.int .i64 (f.nG : Int))
                replace b9 := blk_other (p := ⟨V9.heap.size, 0, none⟩) (.int .i64 (f.nG : Int)) b9 (by show V9.heap.size ≠ V10.heap.size; omega)
                replace b10 := blk_other (p := ⟨V9.heap.size, 0, none⟩) (.int .i64 (f.nG : Int)) b10 (by show V9.heap.size ≠ wd.heap.size; omega)
                replace b11 := blk_set (k := 0) (.int .i64 (f.nG : Int)) b11
                simp only [List.setIfInBounds_toArray, List.set_cons_zero] at b11
                clear c1 f1
                refine hK.out _ _ hD ?_
                clear hK K
                generalize X1.setCell ⟨V9.heap.size, 0, none⟩ (.int .i64 (f.nG : Int)) = X2 at *
                (try simp only [Act.put, List.setIfInBounds_toArray, List.set_cons_zero, List.set_cons_succ])
                refine fix_fin ?_
                exact ⟨rfl, _, _, _, rfl, b9, b10, b11, hA⟩
              · refine mov_call (by kernel_rfl) (fun K hK => ?_)
                go_simp
                obtain ⟨V11, hV⟩ : ∃ V11, V11 = V10.alloc (.cells #[.int .i64 0] 3) := ⟨_, rfl⟩
                have b11 := blk_new hV
                have hb := below_new hV
                have s11 : wd.heap.size ≤ V10.heap.size := hD.size
                have k11 : V10.heap.size < V11.heap.size := blk_lt b11
                rw [← hV]
                clear hV
                replace b10 := blk_below b10 hb
                replace hA := hA.below hb
                replace hD := hD.trans (hb.mono hD.size)
                clear hb
                refine hK.out _ _ hD ?_
                clear hK K
                (try simp only [Act.put, List.setIfInBounds_toArray, List.set_cons_zero, List.set_cons_succ])
                refine mov_call (by kernel_rfl) (fun K hK => ?_)
                go_simp
                obtain ⟨V9, hV⟩ : ∃ V9, V9 = V11.alloc (.cells #[.int .i64 0] 3) := ⟨_, rfl⟩
                have b9 := blk_new hV
                have hb := below_new hV
                have s9 : wd.heap.size ≤ V11.heap.size := hD.size
                have k9 : V11.heap.size < V9.heap.size := blk_lt b9
                rw [← hV]
                clear hV
                replace b10 := blk_below b10 hb
                replace b11 := blk_below b11 hb
                replace hA := hA.below hb
                replace hD := hD.trans (hb.mono hD.size)
                clear hb
                refine hK.out _ _ hD ?_
                clear hK K
                (try simp only [Act.put, List.setIfInBounds_toArray, List.set_cons_zero, List.set_cons_succ])
                refine mov_call (by kernel_rfl) (fun K hK => ?_)
                have c1 := blk_cell (j := 0) b9
                simp only [List.getElem?_toArray, List.getElem?_cons_zero] at c1
                have f1 := blk_frozen 0 b9
                go_simp
                replace hA := hA.set (p := ⟨V11.heap.size, 0, none⟩) b9 (by show _ ≤ V11.heap.size; omega) (.int .i64 (f.nS : Int))
                replace hD := hD.setCell (p := ⟨V11.heap.size, 0, none⟩) (by show _ ≤ V11.heap.size; omega) (.int .i64 (f.nS : Int))
                replace b10 := blk_other (p := ⟨V11.heap.size, 0, none⟩) (.int .i64 (f.nS : Int)) b10 (by show V11.heap.size ≠ wd.heap.size; omega)
                replace b11 := blk_other (p := ⟨V11.heap.size, 0, none⟩) (.int .i64 (f.nS : Int)) b11 (by show V11.heap.size ≠ V10.heap.size; omega)
                replace b9 := blk_set (k := 0) (.int .i64 (f.nS : Int)) b9
                simp only [List.setIfInBounds_toArray, List.set_cons_zero] at b9
                clear c1 f1
                refine hK.out _ _ hD ?_
                clear hK K
                generalize V9.setCell ⟨V11.heap.size, 0, none⟩ (.int .i64 (f.nS : Int)) = X0 at *
                (try simp only [Act.put, List.setIfInBounds_toArray, List.set_cons_zero, List.set_cons_succ])
                refine mov_call (by kernel_rfl) (fun K hK => ?_)
                have c1 := blk_cell (j := 0) b10
                simp only [List.getElem?_toArray, List.getElem?_cons_zero] at c1
                have f1 := blk_frozen 0 b10
                go_simp
                replace hA := hA.set (p := ⟨wd.heap.size, 0, none⟩) b10 (by show _ ≤ wd.heap.size; omega) (.int .i64 (f.nP : Int))
                replace hD := hD.setCell (p := ⟨wd.heap.size, 0, none⟩) (by show _ ≤ wd.heap.size; omega) (.int .i64 (f.nP : Int))
                replace b9 := blk_other (p := ⟨wd.heap.size, 0, none⟩) (.int .i64 (f.nP : Int)) b9 (by show wd.heap.size ≠ V11.heap.size; omega)
                replace b11 := blk_other (p := ⟨wd.heap.size, 0, none⟩) (.int .i64 (f.nP : Int)) b11 (by show wd.heap.size ≠ V10.heap.size; omega)
                replace b10 := blk_set (k := 0) (.int .i64 (f.nP : Int)) b10
                simp only [List.setIfInBounds_toArray, List.set_cons_zero] at b10
                clear c1 f1
                refine hK.out _ _ hD ?_
                clear hK K
                generalize X0.setCell ⟨wd.heap.size, 0, none⟩ (.int .i64 (f.nP : Int)) = X1 at *
                (try simp only [Act.put, List.setIfInBounds_toArray, List.set_cons_zero, List.set_cons_succ])
                refine mov_call (by kernel_rfl) (fun K hK => ?_)
                have c1 := blk_cell (j := 0) b11
                simp only [List.getElem?_toArray, List.getElem?_cons_zero] at c1
                have f1 := blk_frozen 0 b11
                go_simp
                replace hA := hA.set (p := ⟨V10.heap.size, 0, none⟩) b11 (by show _ ≤ V10.heap.size; omega) (.int .i64 (f.nG : Int))
                replace hD := hD.setCell (p := ⟨V10.heap.size, 0, none⟩) (by show _ ≤ V10.heap.size; omega) (.int .i64 (f.nG : Int))
                replace b9 := blk_other (p := ⟨V10.heap.size, 0, none⟩) (.int .i64 (f.nG : Int)) b9 (by show V10.heap.size ≠ V11.heap.size; omega)
                replace b10 := blk_other (p := ⟨V10.heap.size, 0, none⟩) (.int .i64 (f.nG : Int)) b10 (by show V10.heap.size ≠ wd.heap.size; omega)
                replace b11 := blk_set (k := 0) (.int .i64 (f.nG : Int)) b11
                simp only [List.setIfInBounds_toArray, List.set_cons_zero] at b11
                clear c1 f1
                refine hK.out _ _ hD ?_
                clear hK K
                generalize X1.setCell ⟨V10.heap.size, 0, none⟩ (.int .i64 (f.nG : Int)) = X2 at *
                (try simp only [Act.put, List.setIfInBounds_toArray, List.set_cons_zero, List.set_cons_succ])
                refine fix_fin ?_
                exact ⟨rfl, _, _, _, rfl, b9, b10, b11, hA⟩
            · refine mov_call (by kernel_rfl) (fun K hK => ?_)
              go_simp
              obtain ⟨V11, hV⟩ : ∃ V11, V11 = wd.alloc (.cells #[.int .i64 0] 3) := ⟨_, rfl⟩
              have b11 := blk_new hV
              have hb := below_new hV
              have s11 : wd.heap.size ≤ wd.heap.size := hD.size
              have k11 : wd.heap.size < V11.heap.size := blk_lt b11
              rw [← hV]
              clear hV
              replace hA := hA.below hb
              replace hD := hD.trans (hb.mono hD.size)
              clear hb
              refine hK.out _ _ hD ?_
              clear hK K
              (try simp only [Act.put, List.setIfInBounds_toArray, List.set_cons_zero, List.set_cons_succ])
              refine ⟨?_, ?_⟩
              · refine mov_call (by kernel_rfl) (fun K hK => ?_)
                go_simp
                obtain ⟨V9, hV⟩ : ∃ V9, V9 = V11.alloc (.cells #[.int .i64 0] 3) := ⟨_, rfl⟩
                have b9 := blk_new hV
                have hb := below_new hV
                have s9 : wd.heap.size ≤ V11.heap.size := hD.size
                have k9 : V11.heap.size < V9.heap.size := blk_lt b9
                rw [← hV]
                clear hV
                replace b11 := blk_below b11 hb
                replace hA := hA.below hb
                replace hD := hD.trans (hb.mono hD.size)
                clear hb
                refine hK.out _ _ hD ?_
                clear hK K
                (try simp only [Act.put, List.setIfInBounds_toArray, List.set_cons_zero, List.set_cons_succ])
                refine mov_call (by kernel_rfl) (fun K hK => ?_)
                go_simp
                obtain ⟨V10, hV⟩ : ∃ V10, V10 = V9.alloc (.cells #[.int .i64 0] 3) := ⟨_, rfl⟩
                have b10 := blk_new hV
                have hb := below_new hV
                have s10 : wd.heap.size ≤ V9.heap.size := hD.size
                have k10 : V9.heap.size < V10.heap.size := blk_lt b10
                rw [← hV]
                clear hV
                replace b11 := blk_below b11 hb
                replace b9 := blk_below b9 hb
                replace hA := hA.below hb
                replace hD := hD.trans (hb.mono hD.size)
                clear hb
                refine hK.out _ _ hD ?_
                clear hK K
                (try simp only [Act.put, List.setIfInBounds_toArray, List.set_cons_zero, List.set_cons_succ])
                refine mov_call (by kernel_rfl) (fun K hK => ?_)
                have c1 := blk_cell (j := 0) b9
                simp only [List.getElem?_toArray, List.getElem?_cons_zero] at c1
                have f1 := blk_frozen 0 b9
                go_simp
                replace hA := hA.set (p := ⟨V11.heap.size, 0, none⟩) b9 (by show _ ≤ V11.heap.size; omega) (.int .i64 (f.nS : Int))
                replace hD := hD.setCell (p := ⟨V11.heap.size, 0, none⟩) (by show _ ≤ V11.heap.size; omega) (.int .i64 (f.nS : Int))
                replace b10 := blk_other (p := ⟨V11.heap.size, 0, none⟩) (.int .i64 (f.nS : Int)) b10 (by show V11.heap.size ≠ V9.heap.size; omega)
                replace b11 := blk_other (p := ⟨V11.heap.size, 0, none⟩) (.int .i64 (f.nS : Int)) b11 (by show V11.heap.size ≠ wd.heap.size; omega)
                replace b9 := blk_set (k := 0) (.int .i64 (f.nS : Int)) b9
                simp only [List.setIfInBounds_toArray, List.set_cons_zero] at b9
                clear c1 f1
                refine hK.out _ _ hD ?_
                clear hK K
                generalize V10.setCell ⟨V11.heap.size, 0, none⟩ (.int .i64 (f.nS : Int)) = X0 at *
                (try simp only [Act.put, List.setIfInBounds_toArray, List.set_cons_zero, List.set_cons_succ])
                refine mov_call (by kernel_rfl) (fun K hK => ?_)
                have c1 := blk_cell (j := 0) b10
                simp only [List.getElem?_toArray, List.getElem?_cons_zero] at c1
                have f1 := blk_frozen 0 b10
                go_simp
                replace hA := hA.set (p := ⟨V9.heap.size, 0, none⟩) b10 (by show _ ≤ V9.heap.size; omega) (.int .i64 (f.nP : Int))
                replace hD := hD.setCell (p := ⟨V9.heap.size, 0, none⟩) (by show _ ≤ V9.heap.size; omega) (.int .i64 (f.nP : Int))
                replace b9 := blk_other (p := ⟨V9.heap.size, 0, none⟩) (.int .i64 (f.nP : Int)) b9 (by show V9.heap.size ≠ V11.heap.size; omega)
                replace b11 := blk_other (p := ⟨V9.heap.size, 0, none⟩) (.int .i64 (f.nP : Int)) b11 (by show V9.heap.size ≠ wd.heap.size; omega)
                replace b10 := blk_set (k := 0) (.int .i64 (f.nP : Int)) b10
                simp only [List.setIfInBounds_toArray, List.set_cons_zero] at b10
                clear c1 f1
                refine hK.out _ _ hD ?_
                clear hK K
                generalize X0.setCell ⟨V9.heap.size, 0, none⟩ (.int .i64 (f.nP : Int)) = X1 at *
                (try simp only [Act.put, List.setIfInBounds_toArray, List.set_cons_zero, List.set_cons_succ])
                refine mov_call (by kernel_rfl) (fun K hK => ?_)
                have c1 := blk_cell (j := 0) b11
                simp only [List.getElem?_toArray, List.getElem?_cons_zero] at c1
                have f1 := blk_frozen 0 b11
                go_simp
                replace hA := hA.set (p := ⟨wd.heap.size, 0, none⟩) b11 (by show _ ≤ wd.heap.size; omega) (.int .i64 (f.nG : Int))
                replace hD := hD.setCell (p := ⟨wd.heap.size, 0, none⟩) (by show _ ≤ wd.heap.size; omega) (.int .i64 (f.nG : Int))
                replace b9 := blk_other (p := ⟨wd.heap.size, 0, none⟩) (.int .i64 (f.nG : Int)) b9 (by show wd.heap.size ≠ V11.heap.size; omega)
                replace b10 := blk_other (p := ⟨wd.heap.size, 0, none⟩) (.int .i64 (f.nG : Int)) b10 (by show wd.heap.size ≠ V9.heap.size; omega)
                replace b11 := blk_set (k := 0) (.int .i64 (f.nG : Int)) b11
                simp only [List.setIfInBounds_toArray, List.set_cons_zero] at b11
                clear c1 f1
                refine hK.out _ _ hD ?_
                clear hK K
                generalize X1.setCell ⟨wd.heap.size, 0, none⟩ (.int .i64 (f.nG : Int)) = X2 at *
                (try simp only [Act.put, List.setIfInBounds_toArray, List.set_cons_zero, List.set_cons_succ])
                refine fix_fin ?_
                exact ⟨rfl, _, _, _, rfl, b9, b10, b11, hA⟩
              · refine mov_call (by kernel_rfl) (fun K hK => ?_)
                go_simp
                obtain ⟨V10, hV⟩ : ∃ V10, V10 = V11.alloc (.cells #[.int .i64 0] 3) := ⟨_, rfl⟩
                have b10 := blk_new hV
                have hb := below_new hV
                have s10 : wd.heap.size ≤ V11.heap.size := hD.size
                have k10 : V11.heap.size < V10.heap.size := blk_lt b10
                rw [← hV]
                clear hV
                replace b11 := blk_below b11 hb
                replace hA := hA.below hb
                replace hD := hD.trans (hb.mono hD.size)
                clear hb
                refine hK.out _ _ hD ?_
                clear hK K
                (try simp only [Act.put, List.setIfInBounds_toArray, List.set_cons_zero, List.set_cons_succ])
                refine mov_call (by kernel_rfl) (fun K hK => ?_)
                go_simp
                obtain ⟨V9, hV⟩ : ∃ V9, V9 = V10.alloc (.cells #[.int .i64 0] 3) := ⟨_, rfl⟩
                have b9 := blk_new hV
                have hb := below_new hV
                have s9 : wd.heap.size ≤ V10.heap.size := hD.size
                have k9 : V10.heap.size < V9.heap.size := blk_lt b9
                rw [← hV]
                clear hV
                replace b11 := blk_below b11 hb
                replace b10 := blk_below b10 hb
                replace hA := hA.below hb
                replace hD := hD.trans (hb.mono hD.size)
                clear hb
                refine hK.out _ _ hD ?_
                clear hK K
                (try simp only [Act.put, List.setIfInBounds_toArray, List.set_cons_zero, List.set_cons_succ])
                refine mov_call (by kernel_rfl) (fun K hK => ?_)
                have c1 := blk_cell (j := 0) b9
                simp only [List.getElem?_toArray, List.getElem?_cons_zero] at c1
                have f1 := blk_frozen 0 b9
                go_simp
                replace hA := hA.set (p := ⟨V10.heap.size, 0, none⟩) b9 (by show _ ≤ V10.heap.size; omega) (.int .i64 (f.nS : Int))
                replace hD := hD.setCell (p := ⟨V10.heap.size, 0, none⟩) (by show _ ≤ V10.heap.size; omega) (.int .i64 (f.nS : Int))
                replace b10 := blk_other (p := ⟨V10.heap.size, 0, none⟩) (.int .i64 (f.nS : Int)) b10 (by show V10.heap.size ≠ V11.heap.size; omega)
                replace b11 := blk_other (p := ⟨V10.heap.size, 0, none⟩) (.int .i64 (f.nS : Int)) b11 (by show V10.heap.size ≠ wd.heap.size; omega)
                replace b9 := blk_set (k := 0) (.int .i64 (f.nS : Int)) b9
                simp only [List.setIfInBounds_toArray, List.set_cons_zero] at b9
                clear c1 f1
                refine hK.out _ _ hD ?_
                clear hK K
                generalize V9.setCell ⟨V10.heap.size, 0, none⟩ (.int .i64 (f.nS : Int)) = X0 at *
                (try simp only [Act.put, List.setIfInBounds_toArray, List.set_cons_zero, List.set_cons_succ])
                refine mov_call (by kernel_rfl) (fun K hK => ?_)
                have c1 := blk_cell (j := 0) b10
                simp only [List.getElem?_toArray, List.getElem?_cons_zero] at c1
                have f1 := blk_frozen 0 b10
                go_simp
                replace hA := hA.set (p := ⟨V11.heap.size, 0, none⟩) b10 (by show _ ≤ V11.heap.size; omega) (.int .i64 (f.nP : Int))
                replace hD := hD.setCell (p := ⟨V11.heap.size, 0, none⟩) (by show _ ≤ V11.heap.size; omega) (.int .i64 (f.nP : Int))
                replace b9 := blk_other (p := ⟨V11.heap.size, 0, none⟩) (.int .i64 (f.nP : Int)) b9 (by show V11.heap.size ≠ V10.heap.size; omega)
                replace b11 := blk_other (p := ⟨V11.heap.size, 0, none⟩) (.int .i64 (f.nP : Int)) b11 (by show V11.heap.size ≠ wd.heap.size; omega)
                replace b10 := blk_set (k := 0) (.int .i64 (f.nP : Int)) b10
                simp only [List.setIfInBounds_toArray, List.set_cons_zero] at b10
                clear c1 f1
                refine hK.out _ _ hD ?_
                clear hK K
                generalize X0.setCell ⟨V11.heap.size, 0, none⟩ (.int .i64 (f.nP : Int)) = X1 at *
                (try simp only [Act.put, List.setIfInBounds_toArray, List.set_cons_zero, List.set_cons_succ])
                refine mov_call (by kernel_rfl) (fun K hK => ?_)
                have c1 := blk_cell (j := 0) b11
                simp only [List.getElem?_toArray, List.getElem?_cons_zero] at c1
                have f1 := blk_frozen 0 b11
                go_simp
                replace hA := hA.set (p := ⟨wd.heap.size, 0, none⟩) b11 (by show _ ≤ wd.heap.size; omega) (.int .i64 (f.nG : Int))
                replace hD := hD.setCell (p := ⟨wd.heap.size, 0, none⟩) (by show _ ≤ wd.heap.size; omega) (.int .i64 (f.nG : Int))
                replace b9 := blk_other (p := ⟨wd.heap.size, 0, none⟩) (.int .i64 (f.nG : Int)) b9 (by show wd.heap.size ≠ V10.heap.size; omega)
                replace b10 := blk_other (p := ⟨wd.heap.size, 0, none⟩) (.int .i64 (f.nG : Int)) b10 (by show wd.heap.size ≠ V11.heap.size; omega)
                replace b11 := blk_set (k := 0) (.int .i64 (f.nG : Int)) b11
                simp only [List.setIfInBounds_toArray, List.set_cons_zero] at b11
                clear c1 f1
                refine hK.out _ _ hD ?_
                clear hK K
                generalize X1.setCell ⟨wd.heap.size, 0, none⟩ (.int .i64 (f.nG : Int)) = X2 at *
                (try simp only [Act.put, List.setIfInBounds_toArray, List.set_cons_zero, List.set_cons_succ])
                refine fix_fin ?_
                exact ⟨rfl, _, _, _, rfl, b9, b10, b11, hA⟩
          case cont =>
            clear hA hbt hwr
            rintro _ _ V ⟨rfl, p, q, r, rfl, bp, bq, br, hA⟩
            have HLR := Lib.hid (h.rooms.len (by omega))
            have HLP := Lib.hid (h.people.len (by omega))
            have HLG := Lib.hid (h.groups.len (by omega))
            have HLL := Lib.hid (h.lessons.len (by omega))
            have b0 := hA.b0
            unfold Sc.Five.vals at b0
            have c0 := blk_cell (j := 0) b0
            simp only [List.getElem?_toArray, List.getElem?_cons_zero, List.getElem?_cons_succ] at c0
            have c1 := blk_cell (j := 1) b0
            simp only [List.getElem?_toArray, List.getElem?_cons_zero, List.getElem?_cons_succ] at c1
            have c2 := blk_cell (j := 2) b0
            simp only [List.getElem?_toArray, List.getElem?_cons_zero, List.getElem?_cons_succ] at c2
            have c3 := blk_cell (j := 3) b0
            simp only [List.getElem?_toArray, List.getElem?_cons_zero, List.getElem?_cons_succ] at c3
            have c4 := blk_cell (j := 4) b0
            simp only [List.getElem?_toArray, List.getElem?_cons_zero, List.getElem?_cons_succ] at c4
            have cp := blk_cell (j := 0) bp
            have cq := blk_cell (j := 0) bq
            have cr := blk_cell (j := 0) br
            simp only [List.getElem?_toArray, List.getElem?_cons_zero] at cp cq cr
            have r1 := blk_cell (j := 0) hA.b1
            have r2 := blk_frozen 0 hA.b1
            simp only [List.getElem?_toArray, List.getElem?_cons_zero] at r1
            by_cases hS0 : f.nS = 0
            · have dS : ((f.nS : Int) == 0) = true := by simp; omega
              have HC := Lib.hid (Sc.chk_bad (fun hM : Sc.May s => hM.2.2.1 (List.eq_nil_of_length_eq_zero (by rw [HLS.out]; exact hS0))))
              have HS0 := Lib.hid hS0
              clear hS0
              gi_wp2_with fail
              rw [HC.out]
              exact (hA.res 1).leaves rfl (fun W' hW' => ⟨rfl, hW'⟩)
            · have dS : ((f.nS : Int) == 0) = false := by simp; omega
              by_cases hR0 : f.nR = 0
              · have dR : ((f.nR : Int) == 0) = true := by simp; omega
                have HC := Lib.hid (Sc.chk_bad (fun hM : Sc.May s => hM.2.2.2.1 (List.eq_nil_of_length_eq_zero (by rw [HLR.out]; exact hR0))))
                have HR0 := Lib.hid hR0
                clear hR0
                gi_wp2_with fail
                rw [HC.out]
                exact (hA.res 1).leaves rfl (fun W' hW' => ⟨rfl, hW'⟩)
              · have dR : ((f.nR : Int) == 0) = false := by simp; omega
                gi_wp2_with fail
                refine ⟨trivial, ?_⟩
                clear b0 c0 c1 c2 c3 c4 cp cq cr r1 r2
                refine CallsIn.mono (callsIn_wide.2 (cfR_any f.aR f.nR f.cR s.rooms 35 #[.pointer (some ⟨p, 0, none⟩)] (enters_of Tryz.func35 (by kernel_rfl) rfl) (fun x => ¬ Sc.roomOk f.nS x) V ((h.below hA.bt).more hA.bt.size).rooms (room_pred p f.nS V bp))) ?_
                rintro e Y0 ⟨b, rfl, hiff, hb⟩
                replace hA := hA.below hb
                replace bp := blk_below bp hb
                replace bq := blk_below bq hb
                replace br := blk_below br hb
                clear hb
                have b0 := hA.b0
                unfold Sc.Five.vals at b0
                have c0 := blk_cell (j := 0) b0
                simp only [List.getElem?_toArray, List.getElem?_cons_zero, List.getElem?_cons_succ] at c0
                have c1 := blk_cell (j := 1) b0
                simp only [List.getElem?_toArray, List.getElem?_cons_zero, List.getElem?_cons_succ] at c1
                have c2 := blk_cell (j := 2) b0
                simp only [List.getElem?_toArray, List.getElem?_cons_zero, List.getElem?_cons_succ] at c2
                have c3 := blk_cell (j := 3) b0
                simp only [List.getElem?_toArray, List.getElem?_cons_zero, List.getElem?_cons_succ] at c3
                have c4 := blk_cell (j := 4) b0
                simp only [List.getElem?_toArray, List.getElem?_cons_zero, List.getElem?_cons_succ] at c4
                have cp := blk_cell (j := 0) bp
                have cq := blk_cell (j := 0) bq
                have cr := blk_cell (j := 0) br
                simp only [List.getElem?_toArray, List.getElem?_cons_zero] at cp cq cr
                have r1 := blk_cell (j := 0) hA.b1
                have r2 := blk_frozen 0 hA.b1
                simp only [List.getElem?_toArray, List.getElem?_cons_zero] at r1
                cases b with
                | true =>
                  obtain ⟨x, hm, hx⟩ := hiff.1 rfl
                  have HC := Lib.hid (Sc.chk_bad (fun hM : Sc.May s => hx (by have := hM.2.2.2.2.1 x hm; revert this; rw [HLS.out]; exact id)))
                  clear hiff hx hm
                  gi_wp2_with fail
                  refine ⟨trivial, ?_⟩
                  gi_wp2_with fail
                  refine ⟨trivial, ?_⟩
                  gi_wp2_with fail
                  refine ⟨trivial, ?_⟩
                  gi_wp2_with fail
                  rw [HC.out]
                  exact (hA.res 1).leaves rfl (fun W' hW' => ⟨rfl, hW'⟩)
                | false =>
                  have HR : Hid (∀ x ∈ s.rooms, Sc.roomOk s.slots.length x) := fun x hm => by
                    rcases Classical.em (Sc.roomOk s.slots.length x) with hx | hx
                    · exact hx
                    · have := hiff.2 ⟨x, hm, by rw [HLS.out] at hx; exact hx⟩
                      cases this
                  clear hiff
                  gi_wp2_with fail
                  refine ⟨trivial, ?_⟩
                  clear b0 c0 c1 c2 c3 c4 cp cq cr r1 r2
                  refine CallsIn.mono (callsIn_wide.2 (cfPe_any f.aP f.nP f.cP s.people 37 #[.pointer (some ⟨p, 0, none⟩)] (enters_of Tryz.func37 (by kernel_rfl) rfl) (fun x => ¬ Sc.incr x.away f.nS) Y0 ((h.below hA.bt).more hA.bt.size).people (person_pred p f.nS Y0 bp))) ?_
                  rintro e Y1 ⟨b, rfl, hiff, hb⟩
                  replace hA := hA.below hb
                  replace bp := blk_below bp hb
                  replace bq := blk_below bq hb
                  replace br := blk_below br hb
                  clear hb
                  have b0 := hA.b0
                  unfold Sc.Five.vals at b0
                  have c0 := blk_cell (j := 0) b0
                  simp only [List.getElem?_toArray, List.getElem?_cons_zero, List.getElem?_cons_succ] at c0
                  have c1 := blk_cell (j := 1) b0
                  simp only [List.getElem?_toArray, List.getElem?_cons_zero, List.getElem?_cons_succ] at c1
                  have c2 := blk_cell (j := 2) b0
                  simp only [List.getElem?_toArray, List.getElem?_cons_zero, List.getElem?_cons_succ] at c2
                  have c3 := blk_cell (j := 3) b0
                  simp only [List.getElem?_toArray, List.getElem?_cons_zero, List.getElem?_cons_succ] at c3
                  have c4 := blk_cell (j := 4) b0
                  simp only [List.getElem?_toArray, List.getElem?_cons_zero, List.getElem?_cons_succ] at c4
                  have cp := blk_cell (j := 0) bp
                  have cq := blk_cell (j := 0) bq
                  have cr := blk_cell (j := 0) br
                  simp only [List.getElem?_toArray, List.getElem?_cons_zero] at cp cq cr
                  have r1 := blk_cell (j := 0) hA.b1
                  have r2 := blk_frozen 0 hA.b1
                  simp only [List.getElem?_toArray, List.getElem?_cons_zero] at r1
                  cases b with
                  | true =>
                    obtain ⟨x, hm, hx⟩ := hiff.1 rfl
                    have HC := Lib.hid (Sc.chk_bad (fun hM : Sc.May s => hx (by have := hM.2.2.2.2.2.1 x hm; revert this; rw [HLS.out]; exact id)))
                    clear hiff hx hm
                    gi_wp2_with fail
                    refine ⟨trivial, ?_⟩
                    gi_wp2_with fail
                    refine ⟨trivial, ?_⟩
                    gi_wp2_with fail
                    rw [HC.out]
                    exact (hA.res 1).leaves rfl (fun W' hW' => ⟨rfl, hW'⟩)
                  | false =>
                    have HP : Hid (∀ x ∈ s.people, Sc.incr x.away s.slots.length) := fun x hm => by
                      rcases Classical.em (Sc.incr x.away s.slots.length) with hx | hx
                      · exact hx
                      · have := hiff.2 ⟨x, hm, by rw [HLS.out] at hx; exact hx⟩
                        cases this
                    clear hiff
                    gi_wp2_with fail
                    refine ⟨trivial, ?_⟩
                    clear b0 c0 c1 c2 c3 c4 cp cq cr r1 r2
                    refine CallsIn.mono (callsIn_wide.2 (cfG_any f.aG f.nG f.cG s.groups 38 #[] (enters_of Tryz.func38 (by kernel_rfl) rfl) (fun x => ¬ Sc.within x.size 1000) Y1 ((h.below hA.bt).more hA.bt.size).groups (group_pred Y1))) ?_
                    rintro e Y2 ⟨b, rfl, hiff, hb⟩
                    replace hA := hA.below hb
                    replace bp := blk_below bp hb
                    replace bq := blk_below bq hb
                    replace br := blk_below br hb
                    clear hb
                    have b0 := hA.b0
                    unfold Sc.Five.vals at b0
                    have c0 := blk_cell (j := 0) b0
                    simp only [List.getElem?_toArray, List.getElem?_cons_zero, List.getElem?_cons_succ] at c0
                    have c1 := blk_cell (j := 1) b0
                    simp only [List.getElem?_toArray, List.getElem?_cons_zero, List.getElem?_cons_succ] at c1
                    have c2 := blk_cell (j := 2) b0
                    simp only [List.getElem?_toArray, List.getElem?_cons_zero, List.getElem?_cons_succ] at c2
                    have c3 := blk_cell (j := 3) b0
                    simp only [List.getElem?_toArray, List.getElem?_cons_zero, List.getElem?_cons_succ] at c3
                    have c4 := blk_cell (j := 4) b0
                    simp only [List.getElem?_toArray, List.getElem?_cons_zero, List.getElem?_cons_succ] at c4
                    have cp := blk_cell (j := 0) bp
                    have cq := blk_cell (j := 0) bq
                    have cr := blk_cell (j := 0) br
                    simp only [List.getElem?_toArray, List.getElem?_cons_zero] at cp cq cr
                    have r1 := blk_cell (j := 0) hA.b1
                    have r2 := blk_frozen 0 hA.b1
                    simp only [List.getElem?_toArray, List.getElem?_cons_zero] at r1
                    cases b with
                    | true =>
                      obtain ⟨x, hm, hx⟩ := hiff.1 rfl
                      have HC := Lib.hid (Sc.chk_bad (fun hM : Sc.May s => hx (by have := hM.2.2.2.2.2.2.1 x hm; revert this; exact id)))
                      clear hiff hx hm
                      gi_wp2_with fail
                      refine ⟨trivial, ?_⟩
                      gi_wp2_with fail
                      rw [HC.out]
                      exact (hA.res 1).leaves rfl (fun W' hW' => ⟨rfl, hW'⟩)
                    | false =>
                      have HG : Hid (∀ x ∈ s.groups, Sc.within x.size 1000) := fun x hm => by
                        rcases Classical.em (Sc.within x.size 1000) with hx | hx
                        · exact hx
                        · have := hiff.2 ⟨x, hm, by exact hx⟩
                          cases this
                      clear hiff
                      gi_wp2_with fail
                      refine ⟨trivial, ?_⟩
                      clear b0 c0 c1 c2 c3 c4 cp cq cr r1 r2
                      refine CallsIn.mono (callsIn_wide.2 (cfL_any f.aL f.nL f.cL s.lessons 39 #[.pointer (some ⟨q, 0, none⟩), .pointer (some ⟨r, 0, none⟩)] (enters_of Tryz.func39 (by kernel_rfl) rfl) (fun x => ¬ Sc.lessonOk f.nP f.nG x) Y2 ((h.below hA.bt).more hA.bt.size).lessons (lesson_pred q f.nP r f.nG Y2 bq br))) ?_
                      rintro e Y3 ⟨b, rfl, hiff, hb⟩
                      replace hA := hA.below hb
                      replace bp := blk_below bp hb
                      replace bq := blk_below bq hb
                      replace br := blk_below br hb
                      clear hb
                      have b0 := hA.b0
                      unfold Sc.Five.vals at b0
                      have c0 := blk_cell (j := 0) b0
                      simp only [List.getElem?_toArray, List.getElem?_cons_zero, List.getElem?_cons_succ] at c0
                      have c1 := blk_cell (j := 1) b0
                      simp only [List.getElem?_toArray, List.getElem?_cons_zero, List.getElem?_cons_succ] at c1
                      have c2 := blk_cell (j := 2) b0
                      simp only [List.getElem?_toArray, List.getElem?_cons_zero, List.getElem?_cons_succ] at c2
                      have c3 := blk_cell (j := 3) b0
                      simp only [List.getElem?_toArray, List.getElem?_cons_zero, List.getElem?_cons_succ] at c3
                      have c4 := blk_cell (j := 4) b0
                      simp only [List.getElem?_toArray, List.getElem?_cons_zero, List.getElem?_cons_succ] at c4
                      have cp := blk_cell (j := 0) bp
                      have cq := blk_cell (j := 0) bq
                      have cr := blk_cell (j := 0) br
                      simp only [List.getElem?_toArray, List.getElem?_cons_zero] at cp cq cr
                      have r1 := blk_cell (j := 0) hA.b1
                      have r2 := blk_frozen 0 hA.b1
                      simp only [List.getElem?_toArray, List.getElem?_cons_zero] at r1
                      cases b with
                      | true =>
                        obtain ⟨x, hm, hx⟩ := hiff.1 rfl
                        have HC := Lib.hid (Sc.chk_bad (fun hM : Sc.May s => hx (by have := hM.2.2.2.2.2.2.2 x hm; revert this; rw [HLP.out, HLG.out]; exact id)))
                        clear hiff hx hm
                        gi_wp2_with fail
                        rw [HC.out]
                        exact (hA.res 1).leaves rfl (fun W' hW' => ⟨rfl, hW'⟩)
                      | false =>
                        have HL : Hid (∀ x ∈ s.lessons, Sc.lessonOk s.people.length s.groups.length x) := fun x hm => by
                          rcases Classical.em (Sc.lessonOk s.people.length s.groups.length x) with hx | hx
                          · exact hx
                          · have := hiff.2 ⟨x, hm, by rw [HLP.out, HLG.out] at hx; exact hx⟩
                            cases this
                        clear hiff
                        have HMAY : Hid (Sc.May s) := ⟨HALL.out, HT.out, (fun e => by have := HLS.out; rw [e] at this; exact hS0 this.symm), (fun e => by have := HLR.out; rw [e] at this; exact hR0 this.symm), HR.out, HP.out, HG.out, HL.out⟩
                        clear HALL HT HR HP HG HL
                        have HBIG : Hid (Sc.Big s ↔ (50 < f.nS ∨ 32 < f.nR ∨ 64 < f.nP ∨ 64 < f.nG ∨ 64 < f.nL)) := by show _ ↔ _; unfold Sc.Big; rw [HLS.out, HLR.out, HLP.out, HLG.out, HLL.out]
                        have HS0 := Lib.hid hS0
                        have HR0 := Lib.hid hR0
                        clear hS0 hR0
                        by_cases hq0 : 50 < f.nS
                        · have q0 : decide ((50 : Int) < (f.nS : Int)) = true := by simp; omega
                          have HC := Lib.hid (Sc.chk_big HMAY.out (HBIG.out.2 (by omega)))
                          gi_wp2_with fail
                          rw [HC.out]
                          exact (hA.res 2).leaves rfl (fun W' hW' => ⟨rfl, hW'⟩)
                        · have q0 : decide ((50 : Int) < (f.nS : Int)) = false := by simp; omega
                          by_cases hq1 : 32 < f.nR
                          · have q1 : decide ((32 : Int) < (f.nR : Int)) = true := by simp; omega
                            have HC := Lib.hid (Sc.chk_big HMAY.out (HBIG.out.2 (by omega)))
                            gi_wp2_with fail
                            rw [HC.out]
                            exact (hA.res 2).leaves rfl (fun W' hW' => ⟨rfl, hW'⟩)
                          · have q1 : decide ((32 : Int) < (f.nR : Int)) = false := by simp; omega
                            by_cases hq2 : 64 < f.nP
                            · have q2 : decide ((64 : Int) < (f.nP : Int)) = true := by simp; omega
                              have HC := Lib.hid (Sc.chk_big HMAY.out (HBIG.out.2 (by omega)))
                              gi_wp2_with fail
                              rw [HC.out]
                              exact (hA.res 2).leaves rfl (fun W' hW' => ⟨rfl, hW'⟩)
                            · have q2 : decide ((64 : Int) < (f.nP : Int)) = false := by simp; omega
                              by_cases hq3 : 64 < f.nG
                              · have q3 : decide ((64 : Int) < (f.nG : Int)) = true := by simp; omega
                                have HC := Lib.hid (Sc.chk_big HMAY.out (HBIG.out.2 (by omega)))
                                gi_wp2_with fail
                                rw [HC.out]
                                exact (hA.res 2).leaves rfl (fun W' hW' => ⟨rfl, hW'⟩)
                              · have q3 : decide ((64 : Int) < (f.nG : Int)) = false := by simp; omega
                                by_cases hq4 : 64 < f.nL
                                · have q4 : decide ((64 : Int) < (f.nL : Int)) = true := by simp; omega
                                  have HC := Lib.hid (Sc.chk_big HMAY.out (HBIG.out.2 (by omega)))
                                  gi_wp2_with fail
                                  rw [HC.out]
                                  exact (hA.res 2).leaves rfl (fun W' hW' => ⟨rfl, hW'⟩)
                                · have q4 : decide ((64 : Int) < (f.nL : Int)) = false := by simp; omega
                                  have HC := Lib.hid (Sc.chk_good HMAY.out (fun hb => by have := HBIG.out.1 hb; omega))
                                  gi_wp2_with fail
                                  rw [HC.out]
                                  exact (hA.res 0).leaves rfl (fun W' hW' => ⟨rfl, hW'⟩)
end Go.Proofs.YtfockoihmoljfaaGreatDoor
