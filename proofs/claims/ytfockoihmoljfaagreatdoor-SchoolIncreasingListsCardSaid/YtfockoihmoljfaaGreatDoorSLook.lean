/-
  The walks of school.Count, Name and Find.
-/
import Derived.Test.YtfockoihmoljfaaGreatDoorElemX
import Derived.Test.YtfockoihmoljfaaGreatDoorSChkW
import Derived.Test.YtfockoihmoljfaaGreatDoorLotS
import Derived.Test.YtfockoihmoljfaaGreatDoorLotA
import Derived.Test.YtfockoihmoljfaaGreatDoorLotR
namespace Go.Proofs.YtfockoihmoljfaaGreatDoor
open Go.RowKit Go.Shelf
set_option linter.unusedVariables false
set_option linter.unusedSimpArgs false

attribute [local go_sem] Oper.semAt_some
/-- A call's own cells, from its start on. -/
def Lk (w : World) (cs : List (Array Value × TypeId)) (X : World) : Prop := (∀ (j : Nat) (c : Array Value) (t : TypeId), cs[j]? = some (c, t) → X.heap[w.heap.size + j]? = some (.cells c t)) ∧ Below w.heap.size w X
section
variable {w X Y : World} {cs : List (Array Value × TypeId)}
theorem Lk.below (h : Lk w cs X) (hb : Below X.heap.size X Y) : Lk w cs Y := ⟨fun j c t hj => blk_below (h.1 j c t hj) hb, h.2.trans (hb.mono h.2.size)⟩
theorem Lk.put (h : Lk w cs X) {r : Nat} {o : Obj} (o' : Obj) (hr : w.heap.size ≤ r) (ho : X.heap[r]? = some o) (hc : o.isCells = false) : Lk w cs (X.putObj r o') :=
  ⟨fun j c t hj => (World.putObj_heap_other (fun e => by have := h.1 j c t hj; rw [e, ho] at this; cases this; cases hc)).trans (h.1 j c t hj), below_put h.2 o' hr ho⟩
theorem Lk.at_ (h : Lk w cs X) (j : Nat) {v : Value} {t : TypeId} (hj : cs[j]? = some (#[v], t)) : X.cell? ⟨w.heap.size + j, 0, none⟩ = some v := by
  have := blk_cell (j := 0) (h.1 j _ _ hj)
  simpa using this
theorem Lk.free (h : Lk w cs X) (j : Nat) {v : Value} {t : TypeId} (hj : cs[j]? = some (#[v], t)) : X.frozen? ⟨w.heap.size + j, 0, none⟩ = false := blk_frozen 0 (h.1 j _ _ hj)
theorem Lk.set (h : Lk w cs X) (j : Nat) {v : Value} {t : TypeId} (hj : cs[j]? = some (#[v], t)) (u : Value) : Lk w (cs.set j (#[u], t)) (X.setCell ⟨w.heap.size + j, 0, none⟩ u) := by
  refine ⟨fun i c s hi => ?_, h.2.setCell (by simp) _⟩
  rw [List.getElem?_set] at hi
  by_cases e : j = i
  · subst e
    rw [if_pos rfl] at hi
    split at hi
    · cases hi
      have := blk_set (k := 0) u (h.1 j _ _ hj)
      simpa using this
    · cases hi
  · rw [if_neg e] at hi
    exact blk_other _ (h.1 i c s hi) (by show w.heap.size + j ≠ w.heap.size + i; omega)
theorem kpf_set {m bK bS n6 : Nat} {p : Addr} (u : Value) (h1 : m ≤ p.block) (h2 : p.block < n6) (h3 : p.block ≠ bK) (h4 : p.block ≠ bS) : KpF m bK bS n6 X (X.setCell p u) :=
  ⟨(Below.refl _ _).setCell h1 _, heap_setCell_other X p bK u (Ne.symm h3), heap_setCell_other X p bS u (Ne.symm h4), fun k cs t fr hk hc => (heap_setCell_other X p k u (by omega)).trans hc⟩
theorem kpf_refl {m bK bS n6 : Nat} : KpF m bK bS n6 X X := ⟨Below.refl _ _, rfl, rfl, fun _ _ _ _ _ h => h⟩
theorem kpf_alloc {m bK bS n6 : Nat} (o : Obj) (hm : m ≤ X.heap.size) (hK : bK < X.heap.size) (hS : bS < X.heap.size) : KpF m bK bS n6 X (X.alloc o) :=
  ⟨(Below.refl _ _).alloc hm o, Below.heap_alloc _ _ _ hK, Below.heap_alloc _ _ _ hS, fun k cs t fr _ hc => (Below.heap_alloc _ _ _ (Array.getElem?_eq_some_iff.1 hc).1).trans hc⟩
theorem kpf_trans {m bK bS n6 : Nat} {Z : World} (h1 : KpF m bK bS n6 X Y) (h2 : KpF m bK bS n6 Y Z) : KpF m bK bS n6 X Z :=
  ⟨h1.1.trans h2.1, h2.2.1.trans h1.2.1, h2.2.2.1.trans h1.2.2.1, fun k cs t fr hk hc => h2.2.2.2 k cs t fr hk (h1.2.2.2 k cs t fr hk hc)⟩
theorem kpf_put {m bK bS n6 r : Nat} {o : Obj} (o' : Obj) (hm : m ≤ r) (hK : bK ≠ r) (hS : bS ≠ r) (ho : X.heap[r]? = some o) (hc : o.isCells = false) : KpF m bK bS n6 X (X.putObj r o') :=
  ⟨below_put (Below.refl _ _) o' hm ho, World.putObj_heap_other hK, World.putObj_heap_other hS, fun k cs t fr _ hk => (World.putObj_heap_other (fun e => by rw [e, ho] at hk; cases hk; cases hc)).trans hk⟩
/-- The sum of what Lk needs at its making. -/
theorem lk_new (w : World) : Lk w [] w := ⟨fun j c t hj => by simp at hj, Below.refl _ _⟩
theorem Lk.alloc (h : Lk w cs X) (hs : X.heap.size = w.heap.size + cs.length) (c : Array Value) (t : TypeId) : Lk w (cs ++ [(c, t)]) (X.alloc (.cells c t)) ∧ (X.alloc (.cells c t)).heap.size = w.heap.size + (cs ++ [(c, t)]).length := by
  refine ⟨⟨fun j c' t' hj => ?_, h.2.alloc (by omega) _⟩, by rw [World.size_alloc, hs]; simp; omega⟩
  rcases Nat.lt_or_ge j cs.length with h1 | h1
  · rw [List.getElem?_append_left h1] at hj
    have := h.1 j c' t' hj
    exact (Below.heap_alloc _ _ _ (Array.getElem?_eq_some_iff.1 this).1).trans this
  · obtain rfl : j = cs.length := by
      have := (List.getElem?_eq_some_iff.1 hj).1
      simp at this; omega
    rw [List.getElem?_append_right (by omega)] at hj
    simp at hj
    obtain ⟨rfl, rfl⟩ := hj
    rw [← hs]
    exact World.alloc_heap_new X _
end
theorem names_len {f : Sc.Five} {s : Sc.Sch} {w : World} {m : Nat} (h : Sc.RdSch w m f s) (k : Int) : (Sc.names s k).length ≤ 9223372036854775807 := by
  by_cases hk : 1 ≤ k ∧ k ≤ 5
  · exact h.lenNames hk.1 hk.2
  · unfold Sc.names
    rw [if_neg (by omega), if_neg (by omega), if_neg (by omega), if_neg (by omega), if_neg (by omega)]
    split
    · decide +kernel
    · split
      · decide +kernel
      · simp

set_option maxRecDepth 100000 in
set_option maxHeartbeats 8000000 in
theorem sCount_any (f : Sc.Five) (s : Sc.Sch) (k : Int) (w : World) (h : Sc.RdSch w w.heap.size f s) :
    Calls Tryz.prog 16 #[.agg f.vals, .int .i64 k] w fun e w' => e = .returned (.int .i64 ((Sc.names s k).length : Nat)) ∧ Below w.heap.size w w' := by
  obtain ⟨nms, hnms⟩ : ∃ nms, nms = Sc.names s k := ⟨_, rfl⟩
  rw [← hnms]
  have hnl : nms.length ≤ 9223372036854775807 := by rw [hnms]; exact names_len h k
  have HNMS := Lib.hid hnms
  clear hnms
  unfold Sc.Five.vals
  refine (callsIn_wide (n := 3)).1 ?_
  refine callsIn_of_wp_marks Tryz.func16 rfl trivial ?_ rfl
  simp only [Tryz.ntmps16, List.size_toArray, List.length_cons, List.length_nil, Nat.reduceAdd, Nat.reduceSub, Array.replicate_succ, Array.replicate_zero, List.push_toArray, List.append_toArray, List.nil_append, List.cons_append]
  have hL := lk_new w
  have hs : w.heap.size = w.heap.size + ([] : List (Array Value × TypeId)).length := rfl
  have hLs := hL.alloc hs #[.slice f.aS f.nS f.cS, .slice f.aR f.nR f.cR, .slice f.aP f.nP f.cP, .slice f.aG f.nG f.cG, .slice f.aL f.nL f.cL] 28
  clear hL hs
  obtain ⟨hL, hs⟩ := hLs
  obtain ⟨V1, hV⟩ : ∃ V1, V1 = w.alloc (.cells #[.slice f.aS f.nS f.cS, .slice f.aR f.nR f.cR, .slice f.aP f.nP f.cP, .slice f.aG f.nG f.cG, .slice f.aL f.nL f.cL] 28) := ⟨_, rfl⟩
  rw [← hV] at hL hs
  have HV1 := Lib.hid hV.symm
  clear hV
  have hLs := hL.alloc hs #[.int .i64 0] 3
  clear hL hs
  obtain ⟨hL, hs⟩ := hLs
  obtain ⟨V2, hV⟩ : ∃ V2, V2 = V1.alloc (.cells #[.int .i64 0] 3) := ⟨_, rfl⟩
  rw [← hV] at hL hs
  have HV2 := Lib.hid hV.symm
  clear hV
  rw [← HV1.out] at HV2
  simp only [List.nil_append, List.cons_append] at hL hs
  have HS := Lib.hid hs
  clear hs
  change Hid (V2.heap.size = w.heap.size + 2) at HS
  have b0 := hL.1 0 _ _ rfl
  rw [Nat.add_zero] at b0
  have c0 := blk_cell (j := 0) b0
  simp only [List.getElem?_toArray, List.getElem?_cons_zero, List.getElem?_cons_succ] at c0
  have c1 := blk_cell (j := 1) b0
  simp only [List.getElem?_toArray, List.getElem?_cons_zero, List.getElem?_cons_succ] at c1
  have c2 := blk_cell (j := 2) b0
  simp only [List.getElem?_toArray, List.getElem?_cons_zero, List.getElem?_cons_succ] at c2
  have c3 := blk_cell (j := 3) b0
  simp only [List.getElem?_toArray, List.getElem?_cons_zero, List.getElem?_cons_succ] at c3
  have c4 := blk_cell (j := 4) b0
  simp only [List.getElem?_toArray, List.getElem?_cons_zero, List.getElem?_cons_succ] at c4
  rw [← HV2.out] at c0 c1 c2 c3 c4
  gi_wp2_with fail
  rw [HV2.out]
  clear c0 c1 c2 c3 c4 b0 HV1 HV2
  refine ⟨trivial, ?_⟩
  refine CallsIn.mono (callsIn_wide.2 (elements_any f k V2)) ?_
  rintro e V9 ⟨rfl, hV9⟩
  have hbS : V9.heap[V2.heap.size]? = some (.cells f.vals 28) := by rw [hV9]; exact (Below.heap_alloc _ _ _ (by simp)).trans (World.alloc_heap_new V2 _)
  have hbK : V9.heap[V2.heap.size + 1]? = some (.cells #[.int .i64 k] 3) := by rw [hV9]; have := World.alloc_heap_new (V2.alloc (.cells f.vals 28)) (.cells #[.int .i64 k] 3); rwa [World.size_alloc] at this
  have hb9 : Below V2.heap.size V2 V9 := by rw [hV9]; exact ((Below.refl _ V2).alloc (Nat.le_refl _) _).alloc (by simp) _
  have HS9 : Hid (V9.heap.size = w.heap.size + 2 + 2) := by show V9.heap.size = _; rw [hV9, World.size_alloc, World.size_alloc, HS.out]
  clear hV9
  replace hL := hL.below hb9
  clear hb9
  rw [HS.out] at hbS hbK ⊢
  clear HS V2
  replace h := h.below hL.2
  have hit := elements_iter (w.heap.size + 2 + 1) (w.heap.size + 2) w.heap.size k f s V9 hbK hbS h hL.2.size
  rw [← HNMS.out] at hit
  clear HNMS
  have hz9 := HS9.out
  gi_wp2_with fail
  refine wpIn_range (gf := 87) (lb := #[.pointer (some ⟨w.heap.size + 2 + 1, 0, none⟩), .pointer (some ⟨w.heap.size + 2, 0, none⟩)]) rfl (enters_of Tryz.func87 (by kernel_rfl) rfl) hit
    (fun X o => (Below.refl _ X).alloc (Nat.le_refl _) o)
    (fun X Y k o hst _ hk _ => (hst.block k (Array.getElem?_eq_some_iff.1 hk).1).trans hk)
    (fun X o hs => kpf_alloc o (by omega) (by omega) (by omega))
    (fun X Y Z h1 h2 => kpf_trans h1 h2)
    (fun X r o o' hr hk hc => kpf_put o' (by omega) (by omega) (by omega) hk hc)
    (fun i args X r o o' hy _ _ _ => hy) (fun i args X hy => by obtain ⟨_, _, rfl⟩ := hy; rfl)
    (fun i X => Lk w [(#[.slice f.aS f.nS f.cS, .slice f.aR f.nR f.cR, .slice f.aP f.nP f.cP, .slice f.aG f.nG f.cG, .slice f.aL f.nL f.cL], 28), (#[.int .i64 (i : Int)], 3)] X ∧ V9.heap.size ≤ X.heap.size) (fun _ _ _ => False) (fun i X Y hi hb => ⟨hi.1.below hb, Nat.le_trans hi.2 hb.size⟩) (fun i X r o o' hi hr ho hc => ⟨hi.1.put o' (by omega) ho hc, by simpa using hi.2⟩)
    (fun c i X Y hx hb => hx.elim) (fun c i X r o o' hx hr ho hc => hx.elim)
    ⟨hL, Nat.le_refl _⟩
    (fun args => { tmps := #[.agg #[.slice f.aS f.nS f.cS, .slice f.aR f.nR f.cR, .slice f.aP f.nP f.cP, .slice f.aG f.nG f.cG, .slice f.aL f.nL f.cL], .int .i64 k, .pointer (some ⟨w.heap.size, 0, none⟩), undef, .int .i64 0, .pointer (some ⟨w.heap.size + 1, 0, none⟩), .agg #[.slice f.aS f.nS f.cS, .slice f.aR f.nR f.cR, .slice f.aP f.nP f.cP, .slice f.aG f.nG f.cG, .slice f.aL f.nL f.cL], .int .i64 k, .func (.func 87) #[] #[.pointer (some ⟨w.heap.size + 2 + 1, 0, none⟩), .pointer (some ⟨w.heap.size + 2, 0, none⟩)], args.getD 0 undef, args.getD 1 undef, undef, undef, undef], defers := [] }) ?assign ?body ?done ?stop
  case assign =>
    rintro l0 i args X K ⟨nm, _, rfl⟩ hK
    gi_wp2
    simpa using hK
  case body =>
    rintro l0 i args X hi ⟨hX, hXs⟩ ⟨nm, hnm, rfl⟩
    have cn := hX.at_ 1 rfl
    have fn1 := hX.free 1 rfl
    gi_wp2_with fail
    refine ⟨(KeepsOthers.setCell _ _ _).from _, kpf_set _ (by show _ ≤ w.heap.size + 1; omega) (by show w.heap.size + 1 < _; omega) (by show w.heap.size + 1 ≠ _; omega) (by show w.heap.size + 1 ≠ _; omega), ?_, by simpa using hXs⟩
    exact hX.set 1 rfl (.int .i64 ((i + 1 : Nat) : Int))
  case done =>
    rintro X ⟨hX, hXs⟩ hK
    have cn := hX.at_ 1 rfl
    gi_wp2_with fail
    refine leaves_marks (m := w.heap.size) ⟨V9.heap.size, rfl, by omega, hK, fun d' hd => by simp at hd, trivial⟩ fun W' hW' => ?_
    exact ⟨.int .i64 (nms.length : Int), by simp [results, Tryz.results16, go_sem], rfl, hX.2.trans hW'.1⟩
  case stop =>
    rintro c i X _ hx _
    exact hx.elim

set_option maxRecDepth 100000 in
set_option maxHeartbeats 8000000 in
theorem sName_any (f : Sc.Five) (s : Sc.Sch) (k x : Int) (w : World) (h : Sc.RdSch w w.heap.size f s) :
    Calls Tryz.prog 18 #[.agg f.vals, .int .i64 k, .int .i64 x] w fun e w' => e = .returned (.string (strOf (Sc.nameAt (Sc.names s k) x))) ∧ Below w.heap.size w w' := by
  obtain ⟨nms, hnms⟩ : ∃ nms, nms = Sc.names s k := ⟨_, rfl⟩
  rw [← hnms]
  have hnl : nms.length ≤ 9223372036854775807 := by rw [hnms]; exact names_len h k
  have HNMS := Lib.hid hnms
  clear hnms
  unfold Sc.Five.vals
  refine (callsIn_wide (n := 3)).1 ?_
  refine callsIn_of_wp_marks Tryz.func18 rfl trivial ?_ rfl
  simp only [Tryz.ntmps18, List.size_toArray, List.length_cons, List.length_nil, Nat.reduceAdd, Nat.reduceSub, Array.replicate_succ, Array.replicate_zero, List.push_toArray, List.append_toArray, List.nil_append, List.cons_append]
  have hL := lk_new w
  have hs : w.heap.size = w.heap.size + ([] : List (Array Value × TypeId)).length := rfl
  have hLs := hL.alloc hs #[.slice f.aS f.nS f.cS, .slice f.aR f.nR f.cR, .slice f.aP f.nP f.cP, .slice f.aG f.nG f.cG, .slice f.aL f.nL f.cL] 28
  clear hL hs
  obtain ⟨hL, hs⟩ := hLs
  obtain ⟨V1, hV⟩ : ∃ V1, V1 = w.alloc (.cells #[.slice f.aS f.nS f.cS, .slice f.aR f.nR f.cR, .slice f.aP f.nP f.cP, .slice f.aG f.nG f.cG, .slice f.aL f.nL f.cL] 28) := ⟨_, rfl⟩
  rw [← hV] at hL hs
  have HV1 := Lib.hid hV.symm
  clear hV
  have hLs := hL.alloc hs #[.int .i64 x] 3
  clear hL hs
  obtain ⟨hL, hs⟩ := hLs
  obtain ⟨V2, hV⟩ : ∃ V2, V2 = V1.alloc (.cells #[.int .i64 x] 3) := ⟨_, rfl⟩
  rw [← hV] at hL hs
  have HV2 := Lib.hid hV.symm
  clear hV
  rw [← HV1.out] at HV2
  have hLs := hL.alloc hs #[.string ⟨#[]⟩] 9
  clear hL hs
  obtain ⟨hL, hs⟩ := hLs
  obtain ⟨V3, hV⟩ : ∃ V3, V3 = V2.alloc (.cells #[.string ⟨#[]⟩] 9) := ⟨_, rfl⟩
  rw [← hV] at hL hs
  have HV3 := Lib.hid hV.symm
  clear hV
  rw [← HV2.out] at HV3
  simp only [List.nil_append, List.cons_append] at hL hs
  have HS := Lib.hid hs
  clear hs
  change Hid (V3.heap.size = w.heap.size + 3) at HS
  have b0 := hL.1 0 _ _ rfl
  rw [Nat.add_zero] at b0
  have c0 := blk_cell (j := 0) b0
  simp only [List.getElem?_toArray, List.getElem?_cons_zero, List.getElem?_cons_succ] at c0
  have c1 := blk_cell (j := 1) b0
  simp only [List.getElem?_toArray, List.getElem?_cons_zero, List.getElem?_cons_succ] at c1
  have c2 := blk_cell (j := 2) b0
  simp only [List.getElem?_toArray, List.getElem?_cons_zero, List.getElem?_cons_succ] at c2
  have c3 := blk_cell (j := 3) b0
  simp only [List.getElem?_toArray, List.getElem?_cons_zero, List.getElem?_cons_succ] at c3
  have c4 := blk_cell (j := 4) b0
  simp only [List.getElem?_toArray, List.getElem?_cons_zero, List.getElem?_cons_succ] at c4
  rw [← HV3.out] at c0 c1 c2 c3 c4
  gi_wp2_with fail
  rw [HV3.out]
  clear c0 c1 c2 c3 c4 b0 HV1 HV2 HV3
  refine ⟨trivial, ?_⟩
  refine CallsIn.mono (callsIn_wide.2 (elements_any f k V3)) ?_
  rintro e V9 ⟨rfl, hV9⟩
  have hbS : V9.heap[V3.heap.size]? = some (.cells f.vals 28) := by rw [hV9]; exact (Below.heap_alloc _ _ _ (by simp)).trans (World.alloc_heap_new V3 _)
  have hbK : V9.heap[V3.heap.size + 1]? = some (.cells #[.int .i64 k] 3) := by rw [hV9]; have := World.alloc_heap_new (V3.alloc (.cells f.vals 28)) (.cells #[.int .i64 k] 3); rwa [World.size_alloc] at this
  have hb9 : Below V3.heap.size V3 V9 := by rw [hV9]; exact ((Below.refl _ V3).alloc (Nat.le_refl _) _).alloc (by simp) _
  have HS9 : Hid (V9.heap.size = w.heap.size + 3 + 2) := by show V9.heap.size = _; rw [hV9, World.size_alloc, World.size_alloc, HS.out]
  clear hV9
  replace hL := hL.below hb9
  clear hb9
  rw [HS.out] at hbS hbK ⊢
  clear HS V3
  replace h := h.below hL.2
  have hit := elements_iter (w.heap.size + 3 + 1) (w.heap.size + 3) w.heap.size k f s V9 hbK hbS h hL.2.size
  rw [← HNMS.out] at hit
  clear HNMS
  have hz9 := HS9.out
  gi_wp2_with fail
  refine wpIn_range (gf := 87) (lb := #[.pointer (some ⟨w.heap.size + 3 + 1, 0, none⟩), .pointer (some ⟨w.heap.size + 3, 0, none⟩)]) rfl (enters_of Tryz.func87 (by kernel_rfl) rfl) hit
    (fun X o => (Below.refl _ X).alloc (Nat.le_refl _) o)
    (fun X Y k o hst _ hk _ => (hst.block k (Array.getElem?_eq_some_iff.1 hk).1).trans hk)
    (fun X o hs => kpf_alloc o (by omega) (by omega) (by omega))
    (fun X Y Z h1 h2 => kpf_trans h1 h2)
    (fun X r o o' hr hk hc => kpf_put o' (by omega) (by omega) (by omega) hk hc)
    (fun i args X r o o' hy _ _ _ => hy) (fun i args X hy => by obtain ⟨_, _, rfl⟩ := hy; rfl)
    (fun i X => Lk w [(#[.slice f.aS f.nS f.cS, .slice f.aR f.nR f.cR, .slice f.aP f.nP f.cP, .slice f.aG f.nG f.cG, .slice f.aL f.nL f.cL], 28), (#[.int .i64 x], 3), (#[.string ⟨#[]⟩], 9)] X ∧ V9.heap.size ≤ X.heap.size ∧ (x < 0 ∨ (i : Int) ≤ x)) (fun c i X => c = .ret ∧ Lk w [(#[.slice f.aS f.nS f.cS, .slice f.aR f.nR f.cR, .slice f.aP f.nP f.cP, .slice f.aG f.nG f.cG, .slice f.aL f.nL f.cL], 28), (#[.int .i64 x], 3), (#[.string (strOf (Sc.nameAt nms x))], 9)] X) (fun i X Y hi hb => ⟨hi.1.below hb, Nat.le_trans hi.2.1 hb.size, hi.2.2⟩) (fun i X r o o' hi hr ho hc => ⟨hi.1.put o' (by omega) ho hc, by simpa using hi.2.1, hi.2.2⟩)
    (fun c i X Y hx hb => ⟨hx.1, hx.2.below hb⟩) (fun c i X r o o' hx hr ho hc => ⟨hx.1, hx.2.put o' (by omega) ho hc⟩)
    ⟨hL, Nat.le_refl _, by omega⟩
    (fun args => { tmps := #[.agg #[.slice f.aS f.nS f.cS, .slice f.aR f.nR f.cR, .slice f.aP f.nP f.cP, .slice f.aG f.nG f.cG, .slice f.aL f.nL f.cL], .int .i64 k, .int .i64 x, .pointer (some ⟨w.heap.size, 0, none⟩), undef, .pointer (some ⟨w.heap.size + 1, 0, none⟩), .pointer (some ⟨w.heap.size + 2, 0, none⟩), args.getD 0 undef, args.getD 1 undef, .agg #[.slice f.aS f.nS f.cS, .slice f.aR f.nR f.cR, .slice f.aP f.nP f.cP, .slice f.aG f.nG f.cG, .slice f.aL f.nL f.cL], .int .i64 k, .func (.func 87) #[] #[.pointer (some ⟨w.heap.size + 3 + 1, 0, none⟩), .pointer (some ⟨w.heap.size + 3, 0, none⟩)], args.getD 0 undef, args.getD 1 undef, undef, undef, undef, undef], defers := [] }) ?assign ?body ?done ?stop
  case assign =>
    rintro l0 i args X K ⟨nm, _, rfl⟩ hK
    gi_wp2
    exact hK
  case body =>
    rintro l0 i args X hi ⟨hX, hXs, hxi⟩ ⟨nm, hnm, rfl⟩
    have hil := (List.getElem?_eq_some_iff.1 hnm).1
    have cx := hX.at_ 1 rfl
    have cr := hX.at_ 2 rfl
    have fr := hX.free 2 rfl
    by_cases hix : (i : Int) = x
    · have d1 : ((i : Int) == x) = true := by simp [hix]
      have HN : Hid (strOf nm = strOf (Sc.nameAt nms x)) := by
        show strOf nm = _
        rw [← hix, Sc.nameAt_yes hil, (List.getElem?_eq_some_iff.1 hnm).2]
      clear hix
      gi_wp2_with fail
      refine ⟨(KeepsOthers.setCell _ _ _).from _, rfl, ?_⟩
      rw [HN.out]
      exact hX.set 2 rfl _
    · have d1 : ((i : Int) == x) = false := by simp [hix]
      gi_wp2_with fail
      exact ⟨KeepsFrom.refl _ _, kpf_refl, hX, hXs, by omega⟩
  case done =>
    rintro X ⟨hX, hXs, hxi⟩ hK
    have cr := hX.at_ 2 rfl
    have fr := hX.free 2 rfl
    have HE := Lib.hid (Sc.nameAt_no (l := nms) (x := x) (by omega))
    gi_wp2_with fail
    have hX2 := hX.set 2 rfl (.string ⟨#[]⟩)
    refine leaves_marks (m := w.heap.size) (Marks.setCell (ds := [_]) ⟨V9.heap.size, rfl, by omega, hK, fun d' hd => by simp at hd, trivial⟩ (hX.1 2 _ _ rfl) _) fun W' hW' => ?_
    have c1 := blk_cell (j := 0) (hW'.2 _ _ _ _ (hX2.1 2 _ _ rfl))
    simp only [List.getElem?_toArray, List.getElem?_cons_zero, List.getElem?_cons_succ] at c1
    exact ⟨.string (strOf []), by simp [results, Tryz.results18, go_sem, c1]; rfl, by rw [HE.out], hX2.2.trans hW'.1⟩
  case stop =>
    rintro c i X _ ⟨rfl, hX⟩ hK
    gi_wp2_with fail
    refine leaves_marks (m := w.heap.size) ⟨V9.heap.size, rfl, by omega, hK, fun d' hd => by simp at hd, trivial⟩ fun W' hW' => ?_
    have c1 := blk_cell (j := 0) (hW'.2 _ _ _ _ (hX.1 2 _ _ rfl))
    simp only [List.getElem?_toArray, List.getElem?_cons_zero, List.getElem?_cons_succ] at c1
    exact ⟨.string (strOf (Sc.nameAt nms x)), by simp [results, Tryz.results18, go_sem, c1], rfl, hX.2.trans hW'.1⟩

set_option maxRecDepth 100000 in
set_option maxHeartbeats 8000000 in
theorem sFind_any (f : Sc.Five) (s : Sc.Sch) (k : Int) (nm : List UInt8) (w : World) (h : Sc.RdSch w w.heap.size f s) :
    Calls Tryz.prog 12 #[.agg f.vals, .int .i64 k, .string (strOf nm)] w fun e w' => e = .returned (.tuple #[.int .i64 (Sc.findR (Sc.names s k) nm).1, .bool (Sc.findR (Sc.names s k) nm).2]) ∧ Below w.heap.size w w' := by
  obtain ⟨nms, hnms⟩ : ∃ nms, nms = Sc.names s k := ⟨_, rfl⟩
  rw [← hnms]
  have hnl : nms.length ≤ 9223372036854775807 := by rw [hnms]; exact names_len h k
  have HNMS := Lib.hid hnms
  clear hnms
  unfold Sc.Five.vals
  refine (callsIn_wide (n := 3)).1 ?_
  refine callsIn_of_wp_marks Tryz.func12 rfl trivial ?_ rfl
  simp only [Tryz.ntmps12, List.size_toArray, List.length_cons, List.length_nil, Nat.reduceAdd, Nat.reduceSub, Array.replicate_succ, Array.replicate_zero, List.push_toArray, List.append_toArray, List.nil_append, List.cons_append]
  have hL := lk_new w
  have hs : w.heap.size = w.heap.size + ([] : List (Array Value × TypeId)).length := rfl
  have hLs := hL.alloc hs #[.slice f.aS f.nS f.cS, .slice f.aR f.nR f.cR, .slice f.aP f.nP f.cP, .slice f.aG f.nG f.cG, .slice f.aL f.nL f.cL] 28
  clear hL hs
  obtain ⟨hL, hs⟩ := hLs
  obtain ⟨V1, hV⟩ : ∃ V1, V1 = w.alloc (.cells #[.slice f.aS f.nS f.cS, .slice f.aR f.nR f.cR, .slice f.aP f.nP f.cP, .slice f.aG f.nG f.cG, .slice f.aL f.nL f.cL] 28) := ⟨_, rfl⟩
  rw [← hV] at hL hs
  have HV1 := Lib.hid hV.symm
  clear hV
  have hLs := hL.alloc hs #[.string (strOf nm)] 9
  clear hL hs
  obtain ⟨hL, hs⟩ := hLs
  obtain ⟨V2, hV⟩ : ∃ V2, V2 = V1.alloc (.cells #[.string (strOf nm)] 9) := ⟨_, rfl⟩
  rw [← hV] at hL hs
  have HV2 := Lib.hid hV.symm
  clear hV
  rw [← HV1.out] at HV2
  have hLs := hL.alloc hs #[.int .i64 0] 3
  clear hL hs
  obtain ⟨hL, hs⟩ := hLs
  obtain ⟨V3, hV⟩ : ∃ V3, V3 = V2.alloc (.cells #[.int .i64 0] 3) := ⟨_, rfl⟩
  rw [← hV] at hL hs
  have HV3 := Lib.hid hV.symm
  clear hV
  rw [← HV2.out] at HV3
  have hLs := hL.alloc hs #[.bool false] 4
  clear hL hs
  obtain ⟨hL, hs⟩ := hLs
  obtain ⟨V4, hV⟩ : ∃ V4, V4 = V3.alloc (.cells #[.bool false] 4) := ⟨_, rfl⟩
  rw [← hV] at hL hs
  have HV4 := Lib.hid hV.symm
  clear hV
  rw [← HV3.out] at HV4
  simp only [List.nil_append, List.cons_append] at hL hs
  have HS := Lib.hid hs
  clear hs
  change Hid (V4.heap.size = w.heap.size + 4) at HS
  have b0 := hL.1 0 _ _ rfl
  rw [Nat.add_zero] at b0
  have c0 := blk_cell (j := 0) b0
  simp only [List.getElem?_toArray, List.getElem?_cons_zero, List.getElem?_cons_succ] at c0
  have c1 := blk_cell (j := 1) b0
  simp only [List.getElem?_toArray, List.getElem?_cons_zero, List.getElem?_cons_succ] at c1
  have c2 := blk_cell (j := 2) b0
  simp only [List.getElem?_toArray, List.getElem?_cons_zero, List.getElem?_cons_succ] at c2
  have c3 := blk_cell (j := 3) b0
  simp only [List.getElem?_toArray, List.getElem?_cons_zero, List.getElem?_cons_succ] at c3
  have c4 := blk_cell (j := 4) b0
  simp only [List.getElem?_toArray, List.getElem?_cons_zero, List.getElem?_cons_succ] at c4
  rw [← HV4.out] at c0 c1 c2 c3 c4
  gi_wp2_with fail
  rw [HV4.out]
  clear c0 c1 c2 c3 c4 b0 HV1 HV2 HV3 HV4
  refine ⟨trivial, ?_⟩
  refine CallsIn.mono (callsIn_wide.2 (elements_any f k V4)) ?_
  rintro e V9 ⟨rfl, hV9⟩
  have hbS : V9.heap[V4.heap.size]? = some (.cells f.vals 28) := by rw [hV9]; exact (Below.heap_alloc _ _ _ (by simp)).trans (World.alloc_heap_new V4 _)
  have hbK : V9.heap[V4.heap.size + 1]? = some (.cells #[.int .i64 k] 3) := by rw [hV9]; have := World.alloc_heap_new (V4.alloc (.cells f.vals 28)) (.cells #[.int .i64 k] 3); rwa [World.size_alloc] at this
  have hb9 : Below V4.heap.size V4 V9 := by rw [hV9]; exact ((Below.refl _ V4).alloc (Nat.le_refl _) _).alloc (by simp) _
  have HS9 : Hid (V9.heap.size = w.heap.size + 4 + 2) := by show V9.heap.size = _; rw [hV9, World.size_alloc, World.size_alloc, HS.out]
  clear hV9
  replace hL := hL.below hb9
  clear hb9
  rw [HS.out] at hbS hbK ⊢
  clear HS V4
  replace h := h.below hL.2
  have hit := elements_iter (w.heap.size + 4 + 1) (w.heap.size + 4) w.heap.size k f s V9 hbK hbS h hL.2.size
  rw [← HNMS.out] at hit
  clear HNMS
  have hz9 := HS9.out
  gi_wp2_with fail
  refine wpIn_range (gf := 87) (lb := #[.pointer (some ⟨w.heap.size + 4 + 1, 0, none⟩), .pointer (some ⟨w.heap.size + 4, 0, none⟩)]) rfl (enters_of Tryz.func87 (by kernel_rfl) rfl) hit
    (fun X o => (Below.refl _ X).alloc (Nat.le_refl _) o)
    (fun X Y k o hst _ hk _ => (hst.block k (Array.getElem?_eq_some_iff.1 hk).1).trans hk)
    (fun X o hs => kpf_alloc o (by omega) (by omega) (by omega))
    (fun X Y Z h1 h2 => kpf_trans h1 h2)
    (fun X r o o' hr hk hc => kpf_put o' (by omega) (by omega) (by omega) hk hc)
    (fun i args X r o o' hy _ _ _ => hy) (fun i args X hy => by obtain ⟨_, _, rfl⟩ := hy; rfl)
    (fun i X => Lk w [(#[.slice f.aS f.nS f.cS, .slice f.aR f.nR f.cR, .slice f.aP f.nP f.cP, .slice f.aG f.nG f.cG, .slice f.aL f.nL f.cL], 28), (#[.string (strOf nm)], 9), (#[.int .i64 0], 3), (#[.bool false], 4)] X ∧ V9.heap.size ≤ X.heap.size ∧ ∀ y ∈ nms.take i, y ≠ nm) (fun c i X => c = .ret ∧ Lk w [(#[.slice f.aS f.nS f.cS, .slice f.aR f.nR f.cR, .slice f.aP f.nP f.cP, .slice f.aG f.nG f.cG, .slice f.aL f.nL f.cL], 28), (#[.string (strOf nm)], 9), (#[.int .i64 (Sc.findR nms nm).1], 3), (#[.bool (Sc.findR nms nm).2], 4)] X) (fun i X Y hi hb => ⟨hi.1.below hb, Nat.le_trans hi.2.1 hb.size, hi.2.2⟩) (fun i X r o o' hi hr ho hc => ⟨hi.1.put o' (by omega) ho hc, by simpa using hi.2.1, hi.2.2⟩)
    (fun c i X Y hx hb => ⟨hx.1, hx.2.below hb⟩) (fun c i X r o o' hx hr ho hc => ⟨hx.1, hx.2.put o' (by omega) ho hc⟩)
    ⟨hL, Nat.le_refl _, by simp⟩
    (fun args => { tmps := #[.agg #[.slice f.aS f.nS f.cS, .slice f.aR f.nR f.cR, .slice f.aP f.nP f.cP, .slice f.aG f.nG f.cG, .slice f.aL f.nL f.cL], .int .i64 k, .string (strOf nm), .pointer (some ⟨w.heap.size, 0, none⟩), undef, .pointer (some ⟨w.heap.size + 1, 0, none⟩), .pointer (some ⟨w.heap.size + 2, 0, none⟩), .pointer (some ⟨w.heap.size + 3, 0, none⟩), args.getD 0 undef, args.getD 1 undef, .agg #[.slice f.aS f.nS f.cS, .slice f.aR f.nR f.cR, .slice f.aP f.nP f.cP, .slice f.aG f.nG f.cG, .slice f.aL f.nL f.cL], .int .i64 k, .func (.func 87) #[] #[.pointer (some ⟨w.heap.size + 4 + 1, 0, none⟩), .pointer (some ⟨w.heap.size + 4, 0, none⟩)], args.getD 0 undef, args.getD 1 undef, undef, undef, undef, undef], defers := [] }) ?assign ?body ?done ?stop
  case assign =>
    rintro l0 i args X K ⟨nm, _, rfl⟩ hK
    gi_wp2
    exact hK
  case body =>
    rintro l0 i args X hi ⟨hX, hXs, hall⟩ ⟨y, hnm, rfl⟩
    have hil := (List.getElem?_eq_some_iff.1 hnm).1
    have hiy := (List.getElem?_eq_some_iff.1 hnm).2
    have cx := hX.at_ 1 rfl
    have cr := hX.at_ 2 rfl
    have fr := hX.free 2 rfl
    have cq := hX.at_ 3 rfl
    have fq := hX.free 3 rfl
    have se := str_beq y nm
    by_cases hix : y = nm
    · subst hix
      have d1 : ((strOf y).toList == (strOf y).toList) = true := by rw [se]; simp
      have HN := Lib.hid (Sc.findR_yes hil hall hiy)
      clear se hiy hall
      gi_wp2_with fail
      have hX2 := (hX.set 2 rfl (.int .i64 (i : Int)))
      have hX3 := hX2.set 3 rfl (.bool true)
      refine ⟨((KeepsOthers.setCell _ _ _).from _).trans ((KeepsOthers.setCell _ _ _).from _), rfl, ?_⟩
      rw [HN.out]
      exact hX3
    · have d1 : ((strOf y).toList == (strOf nm).toList) = false := by rw [se]; exact decide_eq_false hix
      have HN : Hid (∀ z ∈ nms.take (i + 1), z ≠ nm) := by
        intro z hz
        rw [List.take_succ_eq_append_getElem hil, List.mem_append, List.mem_singleton] at hz
        rcases hz with hz | rfl
        · exact hall z hz
        · rw [hiy]; exact hix
      clear se hiy hall
      gi_wp2_with fail
      exact ⟨KeepsFrom.refl _ _, kpf_refl, hX, hXs, HN.out⟩
  case done =>
    rintro X ⟨hX, hXs, hall⟩ hK
    have cr := hX.at_ 2 rfl
    have fr := hX.free 2 rfl
    have cq := hX.at_ 3 rfl
    have fq := hX.free 3 rfl
    rw [List.take_length] at hall
    have HN := Lib.hid (Sc.findR_no hall)
    clear hall
    gi_wp2_with fail
    have hX2 := (hX.set 2 rfl (.int .i64 0)).set 3 rfl (.bool false)
    refine leaves_marks (m := w.heap.size) (Marks.setCell (ds := [_]) (Marks.setCell (ds := [_]) ⟨V9.heap.size, rfl, by omega, hK, fun d' hd => by simp at hd, trivial⟩ (hX.1 2 _ _ rfl) _) ((hX.set 2 rfl (.int .i64 0)).1 3 _ _ rfl) _) fun W' hW' => ?_
    have c1 := blk_cell (j := 0) (hW'.2 _ _ _ _ (hX2.1 2 _ _ rfl))
    have c2 := blk_cell (j := 0) (hW'.2 _ _ _ _ (hX2.1 3 _ _ rfl))
    simp only [List.getElem?_toArray, List.getElem?_cons_zero, List.getElem?_cons_succ] at c1 c2
    exact ⟨.tuple #[.int .i64 0, .bool false], by simp [results, Tryz.results12, go_sem, c1, c2], by rw [HN.out], hX2.2.trans hW'.1⟩
  case stop =>
    rintro c i X _ ⟨rfl, hX⟩ hK
    gi_wp2_with fail
    refine leaves_marks (m := w.heap.size) ⟨V9.heap.size, rfl, by omega, hK, fun d' hd => by simp at hd, trivial⟩ fun W' hW' => ?_
    have c1 := blk_cell (j := 0) (hW'.2 _ _ _ _ (hX.1 2 _ _ rfl))
    have c2 := blk_cell (j := 0) (hW'.2 _ _ _ _ (hX.1 3 _ _ rfl))
    simp only [List.getElem?_toArray, List.getElem?_cons_zero, List.getElem?_cons_succ] at c1 c2
    exact ⟨.tuple #[.int .i64 (Sc.findR nms nm).1, .bool (Sc.findR nms nm).2], by simp [results, Tryz.results12, go_sem, c1, c2], rfl, hX.2.trans hW'.1⟩

end Go.Proofs.YtfockoihmoljfaaGreatDoor
