/- A map with whole numbers for keys, in a block of memory. -/
import Derived.Test.YtmonkoclbcahiaaHpD
import Derived.MapKept
import Derived.MapFrom
import Derived.Maps.Range
namespace Go.Proofs.Ytmonkoclbcahiaa.Hp
open Go.RowKit Go.MapKept
set_option linter.unusedVariables false
set_option linter.unusedSimpArgs false
def MapWf (es : Array MapEntry) (clock : Nat) : Prop :=
  (∀ x ∈ es.toList, ∃ k, x.key = .int .i64 k) ∧ es.toList.Pairwise (fun x y => x.key ≠ y.key) ∧ es.toList.Pairwise (fun x y => x.born ≠ y.born) ∧ ∀ x ∈ es.toList, x.born < clock
/-- block b is a map that holds just M -/
def MapAt (w : World) (b : Nat) (M : Int → Option Value) : Prop :=
  ∃ es clock, w.heap[b]? = some (.map es clock) ∧ MapWf es clock ∧ ∀ k v, M k = some v ↔ ∃ e ∈ es.toList, e.key = .int .i64 k ∧ e.val = v
theorem MapAt.chg {S : Nat → Prop} {w w' : World} {b : Nat} {M : Int → Option Value} (h : MapAt w b M) (hc : Chg S w w') (h1 : ¬ S b) : MapAt w' b M := by
  obtain ⟨es, c, hb, hr⟩ := h
  exact ⟨es, c, hc.blk hb h1, hr⟩
theorem MapAt.lt {w : World} {b : Nat} {M : Int → Option Value} (h : MapAt w b M) : b < w.heap.size := by
  obtain ⟨es, c, hb, _⟩ := h
  exact blt hb
theorem MapAt.new (w : World) : MapAt (w.alloc (.map #[] 0)) w.heap.size (fun _ => none) :=
  ⟨#[], 0, bnew w _, ⟨by simp, by simp, by simp, by simp⟩, by simp⟩
theorem isKey_int {P : Program} {kt : TypeId} (k : Int) : IsKey (.int .i64) (.int .i64 k) := by simp [IsKey]
theorem MapAt.keys {es : Array MapEntry} {clock : Nat} (h : MapWf es clock) : ∀ x ∈ es.toList, IsKey (.int .i64) x.key := by
  intro x hx
  obtain ⟨k, e⟩ := h.1 x hx
  rw [e]; exact isKey_int (P := default) (kt := 0) k
/-- what the search finds -/
theorem find_at {es : Array MapEntry} {clock : Nat} (h : MapWf es clock) (k : Int) :
    (Instr.findNow (.int .i64) (.int .i64 k) es.toList 0 = some none ∧ ∀ x ∈ es.toList, x.key ≠ .int .i64 k) ∨ ∃ j e, Instr.findNow (.int .i64) (.int .i64 k) es.toList 0 = some (some (j, e.val)) ∧ es.toList[j]? = some e ∧ e.key = .int .i64 k := by
  rcases findNow_spec (isKey_int (P := default) (kt := 0) k) es.toList 0 (MapAt.keys h) with h1 | ⟨j, e, h1, h2, h3⟩
  · exact .inl h1
  · exact .inr ⟨j, e, by simpa using h1, h2, h3⟩
theorem run_lookup_some {P : Program} {w : World} {b : Nat} {M : Int → Option Value} (t kt et : TypeId) (ht : P.underlying t = some (.map kt et)) (hk : P.underlying kt = some (.int .i64)) (h : MapAt w b M) (k : Int) (v : Value) (hv : M k = some v) (c : Bool) :
    (Instr.lookup t (.map (some b)) (.int .i64 k) c).run P w = .ok (if c then .tuple #[v, .bool true] else v) w := by
  obtain ⟨es, cl, hb, hwf, hM⟩ := h
  obtain ⟨e, he, hek, hev⟩ := (hM k v).mp hv
  rcases find_at hwf k with ⟨_, h2⟩ | ⟨j, e', h1, h2, h3⟩
  · exact absurd hek (h2 e he)
  · have h4 : M k = some e'.val := (hM k e'.val).mpr ⟨e', List.mem_of_getElem? h2, h3, rfl⟩
    have h5 : e'.val = v := by rw [hv] at h4; exact (Option.some.inj h4).symm
    simp [Instr.lookup, run_underlying ht, MapKept.run_getObj_map hb, run_checkKey hk (isKey_int (P := P) (kt := kt) k), run_findKey hk h1, Result.andThen, h5]
theorem run_lookup_none {P : Program} {w : World} {b : Nat} {M : Int → Option Value} (t kt et : TypeId) (ht : P.underlying t = some (.map kt et)) (hk : P.underlying kt = some (.int .i64)) (h : MapAt w b M) (k : Int) (hv : M k = none) (z : Value) (hz : (zeroValue et).run P w = .ok z w) (c : Bool) :
    (Instr.lookup t (.map (some b)) (.int .i64 k) c).run P w = .ok (if c then .tuple #[z, .bool false] else z) w := by
  obtain ⟨es, cl, hb, hwf, hM⟩ := h
  rcases find_at hwf k with ⟨h1, _⟩ | ⟨j, e', h1, h2, h3⟩
  · simp [Instr.lookup, run_underlying ht, MapKept.run_getObj_map hb, run_checkKey hk (isKey_int (P := P) (kt := kt) k), run_findKey hk h1, Result.andThen, hz]
  · have h4 : M k = some e'.val := (hM k e'.val).mpr ⟨e', List.mem_of_getElem? h2, h3, rfl⟩
    rw [hv] at h4; cases h4
def updM (M : Int → Option Value) (k : Int) (v : Value) : Int → Option Value := fun j => if j = k then some v else M j
theorem chg_block {w : World} {b : Nat} {o o' : Obj} (hb : w.heap[b]? = some o) : Chg (· = b) w { w with heap := w.heap.setIfInBounds b o' } :=
  ⟨rfl, rfl, rfl, by simp, fun k hk hn => by
    show (w.heap.setIfInBounds b o')[k]? = _
    exact (heap_set hb).2 k hn⟩
theorem run_update {P : Program} {w : World} {b : Nat} {M : Int → Option Value} (t kt et : TypeId) (ht : P.underlying t = some (.map kt et)) (hk : P.underlying kt = some (.int .i64)) (h : MapAt w b M) (k : Int) (v : Value) :
    ∃ w', (Instr.mapUpdate t (.map (some b)) (.int .i64 k) v).run P w = .ok () w' ∧ MapAt w' b (updM M k v) ∧ Chg (· = b) w w' := by
  obtain ⟨es, cl, hb, hwf, hM⟩ := h
  obtain ⟨w1, w2, w3, w4⟩ := hwf
  rcases find_at ⟨w1, w2, w3, w4⟩ k with ⟨h1, h2⟩ | ⟨j, e, h1, h2, h3⟩
  · refine ⟨_, by simp [Instr.mapUpdate, run_underlying ht, MapKept.run_getObj_map hb, run_checkKey hk (isKey_int (P := P) (kt := kt) k), run_findKey hk h1, MapKept.run_setObj_map _ hb, Result.andThen]; rfl, ⟨_, _, (heap_set hb).1, ⟨?_, ?_, ?_, ?_⟩, ?_⟩, chg_block hb⟩
    · intro x hx
      simp at hx
      rcases hx with hx | rfl
      · exact w1 x (by simpa using hx)
      · exact ⟨k, rfl⟩
    · rw [Array.toList_push, List.pairwise_append]
      exact ⟨w2, by simp, fun x hx y hy => by simp at hy; subst hy; exact h2 x hx⟩
    · rw [Array.toList_push, List.pairwise_append]
      exact ⟨w3, by simp, fun x hx y hy => by simp at hy; subst hy; have := w4 x hx; show x.born ≠ cl; omega⟩
    · intro x hx
      simp at hx
      rcases hx with hx | rfl
      · have := w4 x (by simpa using hx); omega
      · show cl < cl + 1; omega
    · intro a u
      unfold updM
      rw [Array.toList_push]
      by_cases c : a = k
      · subst c
        rw [if_pos rfl]
        constructor
        · intro e; exact ⟨⟨.int .i64 a, v, cl⟩, by simp, rfl, Option.some.inj e⟩
        · rintro ⟨e, he, e1, e2⟩
          rw [List.mem_append] at he
          rcases he with he | he
          · exact absurd e1 (h2 e he)
          · simp at he; subst he; rw [← e2]
      · rw [if_neg c]
        constructor
        · intro e
          obtain ⟨x, hx, e1, e2⟩ := (hM a u).mp e
          exact ⟨x, List.mem_append_left _ hx, e1, e2⟩
        · rintro ⟨e, he, e1, e2⟩
          rw [List.mem_append] at he
          rcases he with he | he
          · exact (hM a u).mpr ⟨e, he, e1, e2⟩
          · simp at he; subst he
            simp at e1
            exact absurd e1.symm c
  · have hj : es[j]? = some e := by simpa using h2
    have hjl : j < es.size := (Array.getElem?_eq_some_iff.1 hj).1
    obtain ⟨f, hf⟩ : ∃ f : MapEntry → MapEntry, f = fun e => { e with key := .int .i64 k, val := v } := ⟨_, rfl⟩
    have hg : ∀ i, (es.toList.modify j f)[i]? = if j = i then (es.toList[i]?).map f else es.toList[i]? := fun i => by rw [List.getElem?_modify]; split <;> simp
    have hkey : (es.toList.modify j f).map (·.key) = es.toList.map (·.key) := by
      apply List.ext_getElem?
      intro i
      rw [List.getElem?_map, List.getElem?_map, hg]
      by_cases c : j = i
      · subst c; rw [if_pos rfl, h2, hf]; simp [h3]
      · rw [if_neg c]
    have hborn : (es.toList.modify j f).map (·.born) = es.toList.map (·.born) := by
      apply List.ext_getElem?
      intro i
      rw [List.getElem?_map, List.getElem?_map, hg]
      by_cases c : j = i
      · subst c; rw [if_pos rfl, h2, hf]; simp
      · rw [if_neg c]
    refine ⟨_, by simp [Instr.mapUpdate, run_underlying ht, MapKept.run_getObj_map hb, run_checkKey hk (isKey_int (P := P) (kt := kt) k), run_findKey hk h1, hj, h3, run_keyThatStays (isKey_int (P := P) (kt := kt) k), MapKept.run_setObj_map _ hb, Result.andThen]; rfl, ⟨es.modify j f, cl, ?_, ⟨?_, ?_, ?_, ?_⟩, ?_⟩, chg_block hb⟩
    · rw [hf]; exact (heap_set hb).1
    · intro x hx
      rw [Array.toList_modify] at hx
      have : x.key ∈ (es.toList.modify j f).map (·.key) := List.mem_map_of_mem hx
      rw [hkey] at this
      obtain ⟨y, hy, e1⟩ := List.mem_map.mp this
      obtain ⟨k', e2⟩ := w1 y hy
      exact ⟨k', by rw [← e1, e2]⟩
    · rw [Array.toList_modify]
      have : ((es.toList.modify j f).map (·.key)).Pairwise (· ≠ ·) := by rw [hkey]; exact List.pairwise_map.mpr w2
      exact List.pairwise_map.mp this
    · rw [Array.toList_modify]
      have : ((es.toList.modify j f).map (·.born)).Pairwise (· ≠ ·) := by rw [hborn]; exact List.pairwise_map.mpr w3
      exact List.pairwise_map.mp this
    · intro x hx
      rw [Array.toList_modify] at hx
      have : x.born ∈ (es.toList.modify j f).map (·.born) := List.mem_map_of_mem hx
      rw [hborn] at this
      obtain ⟨y, hy, e1⟩ := List.mem_map.mp this
      rw [← e1]; exact w4 y hy
    · intro a u
      rw [Array.toList_modify]
      unfold updM
      have uniq : ∀ x ∈ es.toList, x.key = .int .i64 k → x = e := by
        intro x hx hxk
        exact entry_eq_of_key w2 hx (List.mem_of_getElem? h2) (by rw [hxk, h3])
      have mem1 : f e ∈ es.toList.modify j f := List.mem_of_getElem? (i := j) (by rw [hg, if_pos rfl, h2]; rfl)
      have mem2 : ∀ x ∈ es.toList.modify j f, x = f e ∨ (x ∈ es.toList ∧ x.key ≠ .int .i64 k) := by
        intro x hx
        obtain ⟨i, hi⟩ := List.getElem?_of_mem hx
        rw [hg] at hi
        by_cases c : j = i
        · subst c; rw [if_pos rfl, h2] at hi; exact .inl (Option.some.inj hi).symm
        · rw [if_neg c] at hi
          refine .inr ⟨List.mem_of_getElem? hi, fun hxk => ?_⟩
          -- one key at two places
          have hxe := uniq x (List.mem_of_getElem? hi) hxk
          subst hxe
          have hil : i < es.toList.length := (List.getElem?_eq_some_iff.mp hi).1
          have hjl' : j < es.toList.length := (List.getElem?_eq_some_iff.mp h2).1
          have e1 := (List.getElem?_eq_some_iff.mp hi).2
          have e2 := (List.getElem?_eq_some_iff.mp h2).2
          rcases Nat.lt_or_gt_of_ne c with hlt | hlt
          · exact List.pairwise_iff_getElem.mp w2 j i hjl' hil hlt (by rw [e1, e2])
          · exact List.pairwise_iff_getElem.mp w2 i j hil hjl' hlt (by rw [e1, e2])
      by_cases c : a = k
      · subst c
        rw [if_pos rfl]
        constructor
        · intro hu; exact ⟨f e, mem1, by rw [hf], by rw [hf]; exact Option.some.inj hu⟩
        · rintro ⟨x, hx, e1, e2⟩
          rcases mem2 x hx with rfl | ⟨_, h5⟩
          · rw [← e2, hf]
          · exact absurd e1 h5
      · rw [if_neg c]
        constructor
        · intro hu
          obtain ⟨x, hx, e1, e2⟩ := (hM a u).mp hu
          obtain ⟨i, hi⟩ := List.getElem?_of_mem hx
          have hne : j ≠ i := by
            intro hji; subst hji; rw [h2] at hi
            have := Option.some.inj hi
            subst this
            rw [h3] at e1
            simp at e1; exact c e1.symm
          exact ⟨x, List.mem_of_getElem? (i := i) (by rw [hg, if_neg hne, hi]), e1, e2⟩
        · rintro ⟨x, hx, e1, e2⟩
          rcases mem2 x hx with rfl | ⟨h5, _⟩
          · rw [hf] at e1; simp at e1; exact absurd e1.symm c
          · exact (hM a u).mpr ⟨x, h5, e1, e2⟩
theorem run_clear_map {P : Program} {w : World} {b : Nat} {M : Int → Option Value} (t kt et : TypeId) (ht : P.underlying t = some (.map kt et)) (h : MapAt w b M) :
    ∃ w', (∀ ty, (Builtin.clear_ #[t] ty #[.map (some b)]).run P w = .ok (.tuple #[]) w') ∧ MapAt w' b (fun _ => none) ∧ Chg (· = b) w w' := by
  obtain ⟨es, cl, hb, hwf, hM⟩ := h
  refine ⟨{ w with heap := w.heap.setIfInBounds b (.map #[] cl) }, fun ty => ?_, ⟨#[], cl, (heap_set hb).1, ⟨by simp, by simp, by simp, by simp⟩, by simp⟩, chg_block hb⟩
  simp [Builtin.clear_, run_underlying ht, MapKept.run_getObj_map hb, MapKept.run_setObj_map _ hb, Result.andThen]
section
variable {P : Program} {ops : Array Oper} {rest : List Oper} {o : Oper} {a : Act} {w : World} {Q : Exit → Act → World → Prop}
theorem lookup_at (hgd : o.guard = none) (t : TypeId) (m x : Operand) (c : Bool) (ho : o.op = .lookup t m x c) (M X v : Value) (hm : a.eval m = M) (hx : a.eval x = X) (hr : (Instr.lookup t M X c).run P w = .ok v w)
    (h : wpList P ops Q rest (a.put o.dst v) w) : wpList P ops Q (o :: rest) a w := by
  refine wpList_plain hgd fun K hK => ?_
  unfold Oper.wp
  simp [execOp, ho, hm, hx, hr, Result.andThen]
  exact hK _ _ h
theorem update_at (hgd : o.guard = none) (t kt et : TypeId) (m x v : Operand) (ho : o.op = .mapUpdate t m x v) (ht : P.underlying t = some (.map kt et)) (hk : P.underlying kt = some (.int .i64)) (b : Nat) (M : Int → Option Value) (k : Int) (V : Value)
    (hm : a.eval m = .map (some b)) (hx : a.eval x = .int .i64 k) (hv : a.eval v = V) (hM : MapAt w b M)
    (h : ∀ w', MapAt w' b (updM M k V) → Chg (· = b) w w' → wpList P ops Q rest (a.put o.dst undef) w') : wpList P ops Q (o :: rest) a w := by
  refine wpList_plain hgd fun K hK => ?_
  obtain ⟨w', hr, h1, h2⟩ := run_update t kt et ht hk hM k V
  unfold Oper.wp
  simp [execOp, ho, hm, hx, hv, hr, Result.andThen]
  exact hK _ _ (h w' h1 h2)
end
end Go.Proofs.Ytmonkoclbcahiaa.Hp
