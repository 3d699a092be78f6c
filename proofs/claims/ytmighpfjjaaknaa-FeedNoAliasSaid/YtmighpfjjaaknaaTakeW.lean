/-
  feed.Take.
-/
import Derived.Test.YtmighpfjjaaknaaApplyW
import Derived.MapKept
import Derived.RangeFuncRecord
namespace Go.Proofs.Ytmighpfjjaaknaa
open Go.RowKit
set_option linter.unusedVariables false
set_option linter.unusedSimpArgs false

/-- A client; a message. -/
structure Cl where
  no : Int
  week : List Pl
structure Mg where
  kind : Int
  to : Int
  from_ : Int
  no : Int
  week : List Pl
  moves : List Mv
def zeroC : Cl := ⟨0, []⟩

/-- What a function that makes a week hands back. -/
def WeekPost (l : List Pl) (er : Int) (w : World) (e : Ending) (w' : World) : Prop :=
  ∃ v, e = .returned (.tuple #[.agg #[v], .int .i64 er]) ∧ w'.ownsRow w.heap.size 60 2 v l.length (pv l) ∧ Below w.heap.size w w'

theorem own_set {w : World} {base e size n : Nat} {v u : Value} {xs : List Value} (h : w.ownsRow base e size v n xs) {p : Addr} (hp : ∀ g, v.ownBlock = some g → p.block ≠ g) : (w.setCell p u).ownsRow base e size v n xs := by
  refine ⟨h.1, ?_⟩
  rcases h.2 with hn0 | ⟨g, cap, cur, rfl, e2, e3, e4⟩
  · exact .inl hn0
  · exact .inr ⟨g, cap, cur, rfl, e2, (heap_setCell_other w _ g _ (fun e => hp g rfl (by simpa [eq_comm] using e))).trans e3, e4⟩

set_option maxHeartbeats 1000000 in
theorem take1_any (b : Nat) (x0 x1 x2 x3 y : Value) (A : Option Addr) (n c : Nat) (l : List Pl) (w : World) (hb : w.heap[b]? = some (.cells #[x0, x1, x2, x3, .slice A n c, y] 32)) (h : RdP w w.heap.size A n c l) (hn : n ≤ 1073741824) :
    Calls Try.prog 36 #[.pointer (some ⟨b, 0, none⟩)] w (WeekPost l 0 w) := by
  have hm := h.max
  have hle := h.le
  have hlen := Lib.hid h.len
  have hbs : b < w.heap.size := (Array.getElem?_eq_some_iff.1 hb).1
  have c4 : w.cell? ⟨b, 4, none⟩ = some (.slice A n c) := cell_of_row w b 4 _ _ _ hb
  have hb1 := (Below.refl w.heap.size w).alloc (Nat.le_refl _) (.cells #[.slice none 0 0] 25)
  go_enter Try.func36, Try.ntmps36
  go_wp2_with fail
  refine (cloneP_any A n c l _ ((h.below hb1).more hb1.size) (by omega)).mono ?_
  rintro e w3 ⟨v, rfl, hown, hb3⟩
  obtain ⟨Av, cv, rfl, rv⟩ := own_rdK hown
  have z2 : w3.heap[w.heap.size]? = some (.cells #[.slice none 0 0] 25) := (hb3.block _ (by simp)).trans (heap_alloc_new w _)
  have u2 : w3.cell? ⟨w.heap.size, 0, none⟩ = some (.slice none 0 0) := cell_of_row w3 _ 0 _ _ _ z2
  have f2 : w3.frozen? ⟨w.heap.size, 0, none⟩ = false := frozen_of_row w3 _ 0 _ _ z2
  have hend : ∀ v : Value, (w3.setCell ⟨w.heap.size, 0, none⟩ v).heap[w.heap.size]? = some (.cells #[v] 25) := fun v => heap_setCell_same w3 _ 0 _ _ v z2
  have hbw : Below w.heap.size w w3 := hb1.trans (hb3.mono hb1.size)
  go_wp2_with fail
  refine bodyPost_end (results_cell_row2 rfl _ _ w.heap.size 25 #[.slice Av n cv] (0, 0) _ rfl (hend _) Try.underlying25 rfl infoWeek) rfl ?_
  refine ⟨.slice Av n cv, rfl, ?_, hbw.setCell (p := ⟨w.heap.size, 0, none⟩) (Nat.le_refl _) _⟩
  rw [hlen.out]
  exact own_set (own_mono hown hb1.size) (fun g hg => by have := (hown.lt g hg).1; simp at this; intro e; simp at e; omega)

/-- What the difference's closure answers. -/
def t2L (c : Cl) (f : Int) (ms : List Mv) : List Pl := if f = c.no then appL c.week ms else []
def t2E (c : Cl) (f : Int) (ms : List Mv) : Int := if f = c.no then appE c.week ms else 350

set_option maxHeartbeats 1000000 in
theorem take2_any (bm bc : Nat) (x0 x1 x3 x4 : Value) (f no : Int) (A A' : Option Addr) (n c m c' : Nat) (l : List Pl) (ms : List Mv) (w : World) (hbm : w.heap[bm]? = some (.cells #[x0, x1, .int .i64 f, x3, x4, .slice A' m c'] 32))
    (hbc : w.heap[bc]? = some (.cells #[.int .i64 no, .slice A n c] 27)) (h : RdP w w.heap.size A n c l) (h' : RdM w w.heap.size A' m c' ms) (hn : n ≤ 1073741824) :
    Calls Try.prog 37 #[.pointer (some ⟨bm, 0, none⟩), .pointer (some ⟨bc, 0, none⟩)] w (WeekPost (t2L ⟨no, l⟩ f ms) (t2E ⟨no, l⟩ f ms) w) := by
  have hm := h.max
  have hle := h.le
  have hlen := Lib.hid h.len
  have hbs : bm < w.heap.size := (Array.getElem?_eq_some_iff.1 hbm).1
  have hcs : bc < w.heap.size := (Array.getElem?_eq_some_iff.1 hbc).1
  have c2 : w.cell? ⟨bm, 2, none⟩ = some (.int .i64 f) := cell_of_row w bm 2 _ _ _ hbm
  have c5 : w.cell? ⟨bm, 5, none⟩ = some (.slice A' m c') := cell_of_row w bm 5 _ _ _ hbm
  have d0 : w.cell? ⟨bc, 0, none⟩ = some (.int .i64 no) := cell_of_row w bc 0 _ _ _ hbc
  have d1 : w.cell? ⟨bc, 1, none⟩ = some (.slice A n c) := cell_of_row w bc 1 _ _ _ hbc
  have hb1 := (Below.refl w.heap.size w).alloc (Nat.le_refl _) (.cells #[.slice none 0 0] 25)
  have z1 : (w.alloc (.cells #[.slice none 0 0] 25)).heap[w.heap.size]? = some (.cells #[.slice none 0 0] 25) := heap_alloc_new w _
  go_enter Try.func37, Try.ntmps37
  by_cases hf : f = no
  · subst hf
    have HR : Hid (t2L ⟨f, l⟩ f ms = appL l ms ∧ t2E ⟨f, l⟩ f ms = appE l ms) := by simp [Hid, t2L, t2E]
    have e1 : (f != f) = false := by simp
    go_wp2_with fail
    refine (apply_any A A' n c m c' l ms _ ((h.below hb1).more hb1.size) ((h'.below hb1).more hb1.size) hn).mono ?_
    rintro e w3 ⟨v, rfl, hown, hb3⟩
    generalize appE l ms = er at *
    generalize appL l ms = al at *
    obtain ⟨Av, cv, rfl, rv⟩ := own_rdK hown
    have z2 : w3.heap[w.heap.size]? = some (.cells #[.slice none 0 0] 25) := (hb3.block _ (by simp)).trans z1
    have u2 : w3.cell? ⟨w.heap.size, 0, none⟩ = some (.slice none 0 0) := cell_of_row w3 _ 0 _ _ _ z2
    have f2 : w3.frozen? ⟨w.heap.size, 0, none⟩ = false := frozen_of_row w3 _ 0 _ _ z2
    have hend : ∀ v : Value, (w3.setCell ⟨w.heap.size, 0, none⟩ v).heap[w.heap.size]? = some (.cells #[v] 25) := fun v => heap_setCell_same w3 _ 0 _ _ v z2
    have hbw : Below w.heap.size w w3 := hb1.trans (hb3.mono hb1.size)
    go_wp2_with fail
    first
      | refine bodyPost_ret (results_cell_row2 rfl _ _ w.heap.size 25 #[.slice Av al.length cv] (0, 0) _ rfl (hend _) Try.underlying25 rfl infoWeek) rfl ?_
      | refine bodyPost_end (results_cell_row2 rfl _ _ w.heap.size 25 #[.slice Av al.length cv] (0, 0) _ rfl (hend _) Try.underlying25 rfl infoWeek) rfl ?_
    refine ⟨.slice Av al.length cv, by rw [HR.out.2]; rfl, ?_, hbw.setCell (p := ⟨w.heap.size, 0, none⟩) (Nat.le_refl _) _⟩
    rw [HR.out.1]
    exact own_set (own_mono hown hb1.size) (fun g hg => by have := (hown.lt g hg).1; simp at this; intro e; simp at e; omega)
  · have HR : Hid (t2L ⟨no, l⟩ f ms = [] ∧ t2E ⟨no, l⟩ f ms = 350) := by simp [Hid, t2L, t2E, hf]
    have e1 : (f != no) = true := by simpa using hf
    go_wp2_with fail
    refine bodyPost_ret (results_cell_row2 rfl _ _ w.heap.size 25 #[.slice none 0 0] (0, 0) _ rfl z1 Try.underlying25 rfl infoWeek) rfl ?_
    refine ⟨.slice none 0 0, by rw [HR.out.2]; rfl, ?_, hb1⟩
    rw [HR.out.1]
    exact World.ownsRow_nil _ _ _ _

/-- What Take answers. -/
def takeC (c : Cl) (m : Mg) : Cl :=
  if (m.kind = 1 ∨ m.kind = 2) ∧ (0 ≤ c.no ∧ c.no ≤ 1099511627776) ∧ (1 ≤ m.no ∧ m.no ≤ 1099511627776) ∧ c.no < m.no then
    (if m.kind = 1 then ⟨m.no, m.week⟩ else if t2E c m.from_ m.moves = 0 then ⟨m.no, t2L c m.from_ m.moves⟩ else zeroC) else zeroC
def takeE (c : Cl) (m : Mg) : Int :=
  if (m.kind = 1 ∨ m.kind = 2) ∧ (0 ≤ c.no ∧ c.no ≤ 1099511627776) ∧ (1 ≤ m.no ∧ m.no ≤ 1099511627776) then
    (if m.no ≤ c.no then 341 else if m.kind = 1 then 0 else t2E c m.from_ m.moves) else 1

/-- A client's value. -/
def ClientPost (x : Cl) (er : Int) (w : World) (e : Ending) (w' : World) : Prop :=
  ∃ v, e = .returned (.tuple #[.agg #[.int .i64 x.no, v], .int .i64 er]) ∧ w'.ownsRow w.heap.size 60 2 v x.week.length (pv x.week) ∧ Below w.heap.size w w'

theorem run_insert_int {P : Program} {T K E : TypeId} (hT : P.underlying T = some (.map K E)) (hK : P.underlying K = some (.int .i64)) {w : World} {r : Nat} {es : Array MapEntry} {clock : Nat} (hb : w.heap[r]? = some (.map es clock)) (k : Int) (v : Value)
    (hf : Instr.findNow (.int .i64) (.int .i64 k) es.toList 0 = some none) :
    (Instr.mapUpdate T (.map (some r)) (.int .i64 k) v).run P w = .ok () (w.putObj r (.map (es.push ⟨.int .i64 k, v, clock⟩) (clock + 1))) := by
  simp [Instr.mapUpdate, run_underlying hT, MapKept.run_getObj_map hb, MapKept.run_checkKey hK (k := .int .i64 k) (by simp [MapKept.IsKey]), MapKept.run_findKey hK hf, MapKept.run_setObj_map _ hb, World.putObj]

theorem run_look_int {P : Program} {T K E : TypeId} {z : Value} (hT : P.underlying T = some (.map K E)) (hK : P.underlying K = some (.int .i64)) (hz : ∀ w, (zeroValue E).run P w = .ok z w) {w : World} {r : Nat} {es : Array MapEntry} {clock : Nat} (hb : w.heap[r]? = some (.map es clock)) (k : Int) (o : Option (Nat × Value))
    (hf : Instr.findNow (.int .i64) (.int .i64 k) es.toList 0 = some o) :
    (Instr.lookup T (.map (some r)) (.int .i64 k) true).run P w = .ok (.tuple #[(o.map (·.2)).getD z, .bool o.isSome]) w := by
  cases o <;> simp [Instr.lookup, run_underlying hT, MapKept.run_getObj_map hb, MapKept.run_checkKey hK (k := .int .i64 k) (by simp [MapKept.IsKey]), MapKept.run_findKey hK hf, hz]

/-- The map that Take makes. -/
def takeMap (b b' : Nat) : Array MapEntry := #[⟨.int .i64 1, .func (.func 36) #[] #[.pointer (some ⟨b', 0, none⟩)], 0⟩, ⟨.int .i64 2, .func (.func 37) #[] #[.pointer (some ⟨b', 0, none⟩), .pointer (some ⟨b, 0, none⟩)], 1⟩]

def takeF1 (b' : Nat) : Value := .func (.func 36) #[] #[.pointer (some ⟨b', 0, none⟩)]
def takeF2 (b b' : Nat) : Value := .func (.func 37) #[] #[.pointer (some ⟨b', 0, none⟩), .pointer (some ⟨b, 0, none⟩)]
theorem find_take (b b' : Nat) (k : Int) : Instr.findNow (.int .i64) (.int .i64 k) (takeMap b b').toList 0 = some (if k = 1 then some (0, takeF1 b') else if k = 2 then some (1, takeF2 b b') else none) := by
  by_cases h1 : k = 1
  · subst h1; rfl
  · by_cases h2 : k = 2
    · subst h2; rfl
    · have e1 : (k == 1) = false := by simpa using h1
      have e2 : (k == 2) = false := by simpa using h2
      rw [if_neg h1, if_neg h2]
      simp only [takeMap, Instr.findNow, Instr.sameNow, if_true, e1, e2]

theorem infoClient : (Try.prog.info? 27).map (·.size) = some 2 := by kernel_rfl
theorem hzero {w w' : World} {C : Cl} {E : Int} {er : Int} (hC : C = zeroC) (hE : E = er) (hb : Below w.heap.size w w') : ClientPost C E w (.returned (.tuple #[.agg #[.int .i64 0, .slice none 0 0], .int .i64 er])) w' := by
  subst hC hE
  exact ⟨.slice none 0 0, rfl, World.ownsRow_nil _ _ _ _, hb⟩

set_option maxHeartbeats 4000000 in
theorem take_any (kind to f no cno : Int) (A Am A' : Option Addr) (n c nm cm m c' : Nat) (l lm : List Pl) (ms : List Mv) (w : World) (h : RdP w w.heap.size A n c l) (hm : RdP w w.heap.size Am nm cm lm) (h' : RdM w w.heap.size A' m c' ms) (hn : n ≤ 1073741824) (hnm : nm ≤ 1073741824) :
    Calls Try.prog 21 #[.agg #[.int .i64 cno, .slice A n c], .agg #[.int .i64 kind, .int .i64 to, .int .i64 f, .int .i64 no, .slice Am nm cm, .slice A' m c']] w
      (ClientPost (takeC ⟨cno, l⟩ ⟨kind, to, f, no, lm, ms⟩) (takeE ⟨cno, l⟩ ⟨kind, to, f, no, lm, ms⟩) w) := by
  have hlen := Lib.hid h.len
  have hmm := @run_makeMap Try.prog
  obtain ⟨W4, hW4⟩ : ∃ W4, W4 = (((w.alloc (.cells #[.int .i64 cno, .slice A n c] 27)).alloc (.cells #[.int .i64 kind, .int .i64 to, .int .i64 f, .int .i64 no, .slice Am nm cm, .slice A' m c'] 32)).alloc (.cells #[.int .i64 0, .slice none 0 0] 27)) := ⟨_, rfl⟩
  have hs4 : W4.heap.size = w.heap.size + 1 + 1 + 1 := by rw [hW4]; simp
  have y0 : W4.heap[w.heap.size]? = some (.cells #[.int .i64 cno, .slice A n c] 27) := by
    rw [hW4]; exact (Below.heap_alloc _ _ _ (by simp; omega)).trans ((Below.heap_alloc _ _ _ (by simp)).trans (heap_alloc_new _ _))
  have y1 : W4.heap[w.heap.size + 1]? = some (.cells #[.int .i64 kind, .int .i64 to, .int .i64 f, .int .i64 no, .slice Am nm cm, .slice A' m c'] 32) := by
    rw [hW4]; refine (Below.heap_alloc _ _ _ (by simp)).trans ?_
    have := heap_alloc_new (w.alloc (.cells #[.int .i64 cno, .slice A n c] 27)) (.cells #[.int .i64 kind, .int .i64 to, .int .i64 f, .int .i64 no, .slice Am nm cm, .slice A' m c'] 32)
    rwa [World.size_alloc] at this
  have y2 : W4.heap[w.heap.size + 1 + 1]? = some (.cells #[.int .i64 0, .slice none 0 0] 27) := by
    rw [hW4]
    have := heap_alloc_new ((w.alloc (.cells #[.int .i64 cno, .slice A n c] 27)).alloc (.cells #[.int .i64 kind, .int .i64 to, .int .i64 f, .int .i64 no, .slice Am nm cm, .slice A' m c'] 32)) (.cells #[.int .i64 0, .slice none 0 0] 27)
    rwa [World.size_alloc, World.size_alloc] at this
  have hb4 : Below w.heap.size w W4 := by
    rw [hW4]; exact (((Below.refl _ w).alloc (Nat.le_refl _) _).alloc (by simp) _).alloc (by simp; omega) _
  go_enter Try.func21, Try.ntmps21
  go_wp2_with fail
  rw [← hW4]
  clear hW4
  have hnew : (W4.alloc (.map #[] 0)).heap[w.heap.size + 1 + 1 + 1]? = some (.map #[] 0) := by rw [← hs4]; exact heap_alloc_new _ _
  rw [run_insert_int Try.underlying75 Try.underlying3 hnew 1 _ rfl]
  obtain ⟨W5, hW5⟩ : ∃ W5, W5 = ((W4.alloc (.map #[] 0)).putObj (w.heap.size + 1 + 1 + 1) (.map ((#[] : Array MapEntry).push ⟨.int .i64 1, .func (.func 36) #[] #[.pointer (some ⟨w.heap.size + 1, 0, none⟩)], 0⟩) (0 + 1))) := ⟨_, rfl⟩
  rw [← hW5]
  have hnew5 : W5.heap[w.heap.size + 1 + 1 + 1]? = some (.map ((#[] : Array MapEntry).push ⟨.int .i64 1, .func (.func 36) #[] #[.pointer (some ⟨w.heap.size + 1, 0, none⟩)], 0⟩) (0 + 1)) := by
    rw [hW5]; exact World.putObj_heap_same (by rw [World.size_alloc, hs4]; omega)
  have hb5 : Below W4.heap.size W4 W5 := by
    rw [hW5]
    refine ((Below.refl _ _).alloc (Nat.le_refl _) _).trans ⟨rfl, rfl, rfl, by simp, fun k hk => World.putObj_heap_other (by omega)⟩
  clear hW5 hnew
  have HS4 := Lib.hid hs4
  clear hs4
  go_wp2_with fail
  rw [run_insert_int Try.underlying75 Try.underlying3 hnew5 2 _ rfl]
  obtain ⟨W6, hW6⟩ : ∃ W6, W6 = (W5.putObj (w.heap.size + 1 + 1 + 1) (.map (((#[] : Array MapEntry).push ⟨.int .i64 1, .func (.func 36) #[] #[.pointer (some ⟨w.heap.size + 1, 0, none⟩)], 0⟩).push
    ⟨.int .i64 2, .func (.func 37) #[] #[.pointer (some ⟨w.heap.size + 1, 0, none⟩), .pointer (some ⟨w.heap.size, 0, none⟩)], 0 + 1⟩) (0 + 1 + 1))) := ⟨_, rfl⟩
  rw [← hW6]
  have hmap : W6.heap[w.heap.size + 1 + 1 + 1]? = some (.map (takeMap w.heap.size (w.heap.size + 1)) 2) := by
    rw [hW6]; exact World.putObj_heap_same (Array.getElem?_eq_some_iff.1 hnew5).1
  have hb6 : Below W4.heap.size W4 W6 := by
    rw [hW6]
    exact hb5.trans ⟨rfl, rfl, rfl, by simp, fun k hk => World.putObj_heap_other (by have := HS4.out; omega)⟩
  have hs6 : w.heap.size + 1 + 1 + 1 < W6.heap.size := (Array.getElem?_eq_some_iff.1 hmap).1
  clear hW6 hb5 hnew5
  have z0 := (hb6.block _ (by have := HS4.out; omega)).trans y0
  have z1 := (hb6.block _ (by have := HS4.out; omega)).trans y1
  have z2 := (hb6.block _ (by have := HS4.out; omega)).trans y2
  have hbw : Below w.heap.size w W6 := hb4.trans (hb6.mono hb4.size)
  clear y0 y1 y2 hb6 hb4 HS4
  have a0 : W6.cell? ⟨w.heap.size, 0, none⟩ = some (.int .i64 cno) := cell_of_row W6 _ 0 _ _ _ z0
  have a1 : W6.cell? ⟨w.heap.size, 1, none⟩ = some (.slice A n c) := cell_of_row W6 _ 1 _ _ _ z0
  have b0 : W6.cell? ⟨w.heap.size + 1, 0, none⟩ = some (.int .i64 kind) := cell_of_row W6 _ 0 _ _ _ z1
  have b3 : W6.cell? ⟨w.heap.size + 1, 3, none⟩ = some (.int .i64 no) := cell_of_row W6 _ 3 _ _ _ z1
  have r0 : W6.cell? ⟨w.heap.size + 1 + 1, 0, none⟩ = some (.int .i64 0) := cell_of_row W6 _ 0 _ _ _ z2
  have r1 : W6.cell? ⟨w.heap.size + 1 + 1, 1, none⟩ = some (.slice none 0 0) := cell_of_row W6 _ 1 _ _ _ z2
  have f0 : W6.frozen? ⟨w.heap.size + 1 + 1, 0, none⟩ = false := frozen_of_row W6 _ 0 _ _ z2
  have f1 : W6.frozen? ⟨w.heap.size + 1 + 1, 1, none⟩ = false := frozen_of_row W6 _ 1 _ _ z2
  have hend : ∀ u v : Value, ((W6.setCell ⟨w.heap.size + 1 + 1, 0, none⟩ u).setCell ⟨w.heap.size + 1 + 1, 1, none⟩ v).heap[w.heap.size + 1 + 1]? = some (.cells #[u, v] 27) := fun u v =>
    heap_setCell_same _ _ 1 _ _ v (heap_setCell_same W6 _ 0 _ _ u z2)
  have hbe : ∀ u v : Value, Below w.heap.size w ((W6.setCell ⟨w.heap.size + 1 + 1, 0, none⟩ u).setCell ⟨w.heap.size + 1 + 1, 1, none⟩ v) := fun u v =>
    (hbw.setCell (p := ⟨w.heap.size + 1 + 1, 0, none⟩) (by simp; omega) u).setCell (p := ⟨w.heap.size + 1 + 1, 1, none⟩) (by simp; omega) v
  have hlk := run_look_int Try.underlying75 Try.underlying3 (z := .nilFunc) (fun w => by kernel_rfl) hmap kind _ (find_take _ _ kind)
  by_cases hk1 : kind = 1
  · subst hk1
    rw [if_pos rfl] at hlk
    simp only [Option.map_some, Option.getD_some, Option.isSome_some, takeF1, takeF2] at hlk
    go_wp2_with fail
    refine (within_any _ _ _ _).mono ?_
    rintro e w2 ⟨rfl, rfl⟩
    by_cases hc : 0 ≤ cno ∧ cno ≤ 1099511627776
    · have dc : decide (0 ≤ cno ∧ cno ≤ 1099511627776) = true := decide_eq_true hc
      go_wp2_with fail
      refine (within_any _ _ _ _).mono ?_
      rintro e w2 ⟨rfl, rfl⟩
      by_cases hno : 1 ≤ no ∧ no ≤ 1099511627776
      · have dn : decide (1 ≤ no ∧ no ≤ 1099511627776) = true := decide_eq_true hno
        by_cases hold : no ≤ cno
        · have dl : decide (no ≤ cno) = true := decide_eq_true hold
          go_wp2_with fail
          refine bodyPost_ret (results_cell_row2 rfl _ _ (w.heap.size + 1 + 1) 27 #[.int .i64 0, .slice none 0 0] (0, 0) _ rfl (hend _ _) Try.underlying27 rfl infoClient) rfl ?_
          refine hzero ?_ ?_ (hbe _ _)
          · unfold takeC; rw [if_neg (by simp; omega)]
          · unfold takeE; rw [if_pos (by simp; omega), if_pos hold]
        · have dl : decide (no ≤ cno) = false := decide_eq_false hold
          go_wp2_with fail
          refine (take1_any (w.heap.size + 1) _ _ _ _ _ Am nm cm lm W6 z1 ((hm.below hbw).more hbw.size) hnm).mono ?_
          rintro e w7 ⟨v, rfl, hown, hb7⟩
          obtain ⟨Av, cv, rfl, rv⟩ := own_rdK hown
          have hs7 := hb7.size
          have x1 := (hb7.block _ (by omega)).trans z1
          have x2 := (hb7.block _ (by omega)).trans z2
          have b3' : w7.cell? ⟨w.heap.size + 1, 3, none⟩ = some (.int .i64 no) := cell_of_row w7 _ 3 _ _ _ x1
          have r0' : w7.cell? ⟨w.heap.size + 1 + 1, 0, none⟩ = some (.int .i64 0) := cell_of_row w7 _ 0 _ _ _ x2
          have r1' : w7.cell? ⟨w.heap.size + 1 + 1, 1, none⟩ = some (.slice none 0 0) := cell_of_row w7 _ 1 _ _ _ x2
          have f0' : w7.frozen? ⟨w.heap.size + 1 + 1, 0, none⟩ = false := frozen_of_row w7 _ 0 _ _ x2
          have f1' : w7.frozen? ⟨w.heap.size + 1 + 1, 1, none⟩ = false := frozen_of_row w7 _ 1 _ _ x2
          have hbw7 : Below w.heap.size w w7 := hbw.trans (hb7.mono hbw.size)
          have hlt7 : w.heap.size + 1 + 1 < w7.heap.size := by omega
          have hlt6 : w.heap.size + 1 < w7.heap.size := by omega
          have hend7 : ∀ (u v : Value) (o : Obj), (((w7.setCell ⟨w.heap.size + 1 + 1, 0, none⟩ u).setCell ⟨w.heap.size + 1 + 1, 1, none⟩ v).alloc o).heap[w.heap.size + 1 + 1]? = some (.cells #[u, v] 27) := fun u v o => (Below.heap_alloc _ _ _ (by simp; omega)).trans (heap_setCell_same _ _ 1 _ _ v (heap_setCell_same w7 _ 0 _ _ u x2))
          have hbe7 : ∀ (u v : Value) (o : Obj), Below w.heap.size w (((w7.setCell ⟨w.heap.size + 1 + 1, 0, none⟩ u).setCell ⟨w.heap.size + 1 + 1, 1, none⟩ v).alloc o) := fun u v o => ((hbw7.setCell (p := ⟨w.heap.size + 1 + 1, 0, none⟩) (by simp; omega) u).setCell (p := ⟨w.heap.size + 1 + 1, 1, none⟩) (by simp; omega) v).alloc (by simp; omega) o
          have hne7 : ∀ g, (Value.slice Av lm.length cv).ownBlock = some g → (w.heap.size + 1 + 1 : Nat) ≠ g := fun g hg => by have := (hown.lt g hg).1; omega
          have hown7 : ∀ (u v : Value) (o : Obj), (((w7.setCell ⟨w.heap.size + 1 + 1, 0, none⟩ u).setCell ⟨w.heap.size + 1 + 1, 1, none⟩ v).alloc o).ownsRow w.heap.size 60 2 (.slice Av lm.length cv) lm.length (pv lm) := fun u v o => (own_set (own_set (own_mono hown hbw.size) hne7) hne7).alloc o
          clear z0 z1 z2 a0 a1 b0 b3 r0 r1 f0 f1 hend hbe hlk hmap hmm
          have e1 : takeC ⟨cno, l⟩ ⟨1, to, f, no, lm, ms⟩ = ⟨no, lm⟩ := by unfold takeC; rw [if_pos (by simp; omega), if_pos rfl]
          have e2 : takeE ⟨cno, l⟩ ⟨1, to, f, no, lm, ms⟩ = 0 := by unfold takeE; rw [if_pos (by simp; omega), if_neg (by dsimp only; omega), if_pos rfl]
          go_wp2_with fail
          refine bodyPost_ret (results_cell_row2 rfl _ _ (w.heap.size + 1 + 1) 27 #[.int .i64 no, .slice Av lm.length cv] (0, 0) _ rfl (hend7 _ _ _) Try.underlying27 rfl infoClient) rfl ?_
          rw [e1, e2]
          exact ⟨_, rfl, hown7 _ _ _, hbe7 _ _ _⟩
      · have dn : decide (1 ≤ no ∧ no ≤ 1099511627776) = false := decide_eq_false hno
        go_wp2_with fail
        refine bodyPost_ret (results_cell_row2 rfl _ _ (w.heap.size + 1 + 1) 27 #[.int .i64 0, .slice none 0 0] (0, 0) _ rfl (hend _ _) Try.underlying27 rfl infoClient) rfl ?_
        refine hzero ?_ ?_ (hbe _ _)
        · unfold takeC; rw [if_neg (by simp; omega)]
        · unfold takeE; rw [if_neg (by simp; omega)]
    · have dc : decide (0 ≤ cno ∧ cno ≤ 1099511627776) = false := decide_eq_false hc
      go_wp2_with fail
      refine bodyPost_ret (results_cell_row2 rfl _ _ (w.heap.size + 1 + 1) 27 #[.int .i64 0, .slice none 0 0] (0, 0) _ rfl (hend _ _) Try.underlying27 rfl infoClient) rfl ?_
      refine hzero ?_ ?_ (hbe _ _)
      · unfold takeC; rw [if_neg (by simp; omega)]
      · unfold takeE; rw [if_neg (by simp; omega)]
  · by_cases hk2 : kind = 2
    · subst hk2
      rw [if_neg (by omega), if_pos rfl] at hlk
      simp only [Option.map_some, Option.getD_some, Option.isSome_some, takeF1, takeF2] at hlk
      go_wp2_with fail
      refine (within_any _ _ _ _).mono ?_
      rintro e w2 ⟨rfl, rfl⟩
      by_cases hc : 0 ≤ cno ∧ cno ≤ 1099511627776
      · have dc : decide (0 ≤ cno ∧ cno ≤ 1099511627776) = true := decide_eq_true hc
        go_wp2_with fail
        refine (within_any _ _ _ _).mono ?_
        rintro e w2 ⟨rfl, rfl⟩
        by_cases hno : 1 ≤ no ∧ no ≤ 1099511627776
        · have dn : decide (1 ≤ no ∧ no ≤ 1099511627776) = true := decide_eq_true hno
          by_cases hold : no ≤ cno
          · have dl : decide (no ≤ cno) = true := decide_eq_true hold
            go_wp2_with fail
            refine bodyPost_ret (results_cell_row2 rfl _ _ (w.heap.size + 1 + 1) 27 #[.int .i64 0, .slice none 0 0] (0, 0) _ rfl (hend _ _) Try.underlying27 rfl infoClient) rfl ?_
            refine hzero ?_ ?_ (hbe _ _)
            · unfold takeC; rw [if_neg (by simp; omega)]
            · unfold takeE; rw [if_pos (by simp; omega), if_pos hold]
          · have dl : decide (no ≤ cno) = false := decide_eq_false hold
            go_wp2_with fail
            refine (take2_any (w.heap.size + 1) w.heap.size _ _ _ _ f cno A A' n c m c' l ms W6 z1 z0 ((h.below hbw).more hbw.size) ((h'.below hbw).more hbw.size) hn).mono ?_
            rintro e w7 ⟨v, rfl, hown, hb7⟩
            obtain ⟨Av, cv, rfl, rv⟩ := own_rdK hown
            have hs7 := hb7.size
            have x1 := (hb7.block _ (by omega)).trans z1
            have x2 := (hb7.block _ (by omega)).trans z2
            have b3' : w7.cell? ⟨w.heap.size + 1, 3, none⟩ = some (.int .i64 no) := cell_of_row w7 _ 3 _ _ _ x1
            have r0' : w7.cell? ⟨w.heap.size + 1 + 1, 0, none⟩ = some (.int .i64 0) := cell_of_row w7 _ 0 _ _ _ x2
            have r1' : w7.cell? ⟨w.heap.size + 1 + 1, 1, none⟩ = some (.slice none 0 0) := cell_of_row w7 _ 1 _ _ _ x2
            have f0' : w7.frozen? ⟨w.heap.size + 1 + 1, 0, none⟩ = false := frozen_of_row w7 _ 0 _ _ x2
            have f1' : w7.frozen? ⟨w.heap.size + 1 + 1, 1, none⟩ = false := frozen_of_row w7 _ 1 _ _ x2
            have hbw7 : Below w.heap.size w w7 := hbw.trans (hb7.mono hbw.size)
            have hlt7 : w.heap.size + 1 + 1 < w7.heap.size := by omega
            have hlt6 : w.heap.size + 1 < w7.heap.size := by omega
            have hend7 : ∀ (u v : Value) (o : Obj), (((w7.setCell ⟨w.heap.size + 1 + 1, 0, none⟩ u).setCell ⟨w.heap.size + 1 + 1, 1, none⟩ v).alloc o).heap[w.heap.size + 1 + 1]? = some (.cells #[u, v] 27) := fun u v o => (Below.heap_alloc _ _ _ (by simp; omega)).trans (heap_setCell_same _ _ 1 _ _ v (heap_setCell_same w7 _ 0 _ _ u x2))
            have hbe7 : ∀ (u v : Value) (o : Obj), Below w.heap.size w (((w7.setCell ⟨w.heap.size + 1 + 1, 0, none⟩ u).setCell ⟨w.heap.size + 1 + 1, 1, none⟩ v).alloc o) := fun u v o => ((hbw7.setCell (p := ⟨w.heap.size + 1 + 1, 0, none⟩) (by simp; omega) u).setCell (p := ⟨w.heap.size + 1 + 1, 1, none⟩) (by simp; omega) v).alloc (by simp; omega) o
            have hne7 : ∀ g, (Value.slice Av (t2L ⟨cno, l⟩ f ms).length cv).ownBlock = some g → (w.heap.size + 1 + 1 : Nat) ≠ g := fun g hg => by have := (hown.lt g hg).1; omega
            have hown7 : ∀ (u v : Value) (o : Obj), (((w7.setCell ⟨w.heap.size + 1 + 1, 0, none⟩ u).setCell ⟨w.heap.size + 1 + 1, 1, none⟩ v).alloc o).ownsRow w.heap.size 60 2 (.slice Av (t2L ⟨cno, l⟩ f ms).length cv) (t2L ⟨cno, l⟩ f ms).length (pv (t2L ⟨cno, l⟩ f ms)) := fun u v o => (own_set (own_set (own_mono hown hbw.size) hne7) hne7).alloc o
            clear z0 z1 z2 a0 a1 b0 b3 r0 r1 f0 f1 hend hbe hlk hmap hmm
            by_cases her : t2E ⟨cno, l⟩ f ms = 0
            · have de : (t2E ⟨cno, l⟩ f ms != 0) = false := by simpa using her
              have e1 : takeC ⟨cno, l⟩ ⟨2, to, f, no, lm, ms⟩ = ⟨no, t2L ⟨cno, l⟩ f ms⟩ := by unfold takeC; rw [if_pos (by simp; omega), if_neg (by simp), if_pos her]
              have e2 : takeE ⟨cno, l⟩ ⟨2, to, f, no, lm, ms⟩ = t2E ⟨cno, l⟩ f ms := by unfold takeE; rw [if_pos (by simp; omega), if_neg (by dsimp only; omega), if_neg (by simp)]
              generalize t2E ⟨cno, l⟩ f ms = er at *
              generalize t2L ⟨cno, l⟩ f ms = tl at *
              go_wp2_with fail
              refine bodyPost_ret (results_cell_row2 rfl _ _ (w.heap.size + 1 + 1) 27 #[.int .i64 no, .slice Av tl.length cv] (0, 0) _ rfl (hend7 _ _ _) Try.underlying27 rfl infoClient) rfl ?_
              rw [e1, e2]
              exact ⟨.slice Av tl.length cv, by first | rfl | (rw [her]; rfl), hown7 _ _ _, hbe7 _ _ _⟩
            · have de : (t2E ⟨cno, l⟩ f ms != 0) = true := by simpa using her
              have e1 : takeC ⟨cno, l⟩ ⟨2, to, f, no, lm, ms⟩ = zeroC := by unfold takeC; rw [if_pos (by simp; omega), if_neg (by simp), if_neg her]
              have e2 : takeE ⟨cno, l⟩ ⟨2, to, f, no, lm, ms⟩ = t2E ⟨cno, l⟩ f ms := by unfold takeE; rw [if_pos (by simp; omega), if_neg (by dsimp only; omega), if_neg (by simp)]
              generalize t2E ⟨cno, l⟩ f ms = er at *
              generalize t2L ⟨cno, l⟩ f ms = tl at *
              go_wp2_with fail
              refine bodyPost_ret (results_cell_row2 rfl _ _ (w.heap.size + 1 + 1) 27 #[.int .i64 0, .slice none 0 0] (0, 0) _ rfl (hend7 _ _ _) Try.underlying27 rfl infoClient) rfl ?_
              exact hzero e1 e2 (hbe7 _ _ _)
        · have dn : decide (1 ≤ no ∧ no ≤ 1099511627776) = false := decide_eq_false hno
          go_wp2_with fail
          refine bodyPost_ret (results_cell_row2 rfl _ _ (w.heap.size + 1 + 1) 27 #[.int .i64 0, .slice none 0 0] (0, 0) _ rfl (hend _ _) Try.underlying27 rfl infoClient) rfl ?_
          refine hzero ?_ ?_ (hbe _ _)
          · unfold takeC; rw [if_neg (by simp; omega)]
          · unfold takeE; rw [if_neg (by simp; omega)]
      · have dc : decide (0 ≤ cno ∧ cno ≤ 1099511627776) = false := decide_eq_false hc
        go_wp2_with fail
        refine bodyPost_ret (results_cell_row2 rfl _ _ (w.heap.size + 1 + 1) 27 #[.int .i64 0, .slice none 0 0] (0, 0) _ rfl (hend _ _) Try.underlying27 rfl infoClient) rfl ?_
        refine hzero ?_ ?_ (hbe _ _)
        · unfold takeC; rw [if_neg (by simp; omega)]
        · unfold takeE; rw [if_neg (by simp; omega)]
    · rw [if_neg hk1, if_neg hk2] at hlk
      simp only [Option.map_none, Option.getD_none, Option.isSome_none] at hlk
      go_wp2_with fail
      refine bodyPost_ret (results_cell_row2 rfl _ _ (w.heap.size + 1 + 1) 27 #[.int .i64 0, .slice none 0 0] (0, 0) _ rfl (hend _ _) Try.underlying27 rfl infoClient) rfl ?_
      refine hzero ?_ ?_ (hbe _ _)
      · unfold takeC; rw [if_neg (by simp; omega)]
      · unfold takeE; rw [if_neg (by simp; omega)]
end Go.Proofs.Ytmighpfjjaaknaa
