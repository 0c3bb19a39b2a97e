/- Trees: an array of entries, one for each page. -/
import Derived.Test.YtimdojkhdneecaaTreeAc
namespace Go.Proofs.Ytimdojkhdneecaa.Tree
open Go.RowKit Go.Proofs.Ytimdojkhdneecaa.Hp Go.Proofs.Ytimdojkhdneecaa.Ram Go.Proofs.Ytimdojkhdneecaa.Word Go.Proofs.Ytimdojkhdneecaa.WordP Go.Proofs.Ytimdojkhdneecaa.Pool
set_option linter.unusedVariables false
set_option linter.unusedSimpArgs false
def cellsL (v : Option Value) : List Value := match v with | some (.agg cs) => cs.toList | _ => []
def flatE (n : Nat) : List Value := (List.replicate n [Value.int .i64 0, Value.int .i64 0, Value.bool false]).flatten
theorem app_flat {l1 l2 : List Value} {n : Nat} (a : Nat) (h1 : l1 = flatE a) (h2 : l2 = flatE a) (h : a + a = n) : List.append l1 l2 = flatE n := by
  subst h1 h2 h
  unfold flatE
  rw [← List.replicate_append_replicate, List.flatten_append]
  rfl
set_option maxRecDepth 100000 in
theorem zero_flat : cellsL Try.t40.zero = flatE 4096 := by
  refine app_flat 2048 ?_ ?_ rfl
  all_goals refine app_flat 1024 ?_ ?_ rfl
  all_goals refine app_flat 512 ?_ ?_ rfl
  all_goals refine app_flat 256 ?_ ?_ rfl
  all_goals kernel_rfl
theorem agg_ofL {v : Option Value} {l : List Value} (h : cellsL v = l) (hn : l ≠ []) : v = some (.agg l.toArray) := by
  unfold cellsL at h
  split at h
  · subst h; simp
  · exact absurd h.symm hn
theorem flat_at : ∀ (n q : Nat), q < n → (flatE n)[q * 3]? = some (.int .i64 0) ∧ (flatE n)[q * 3 + 1]? = some (.int .i64 0) ∧ (flatE n)[q * 3 + 2]? = some (.bool false)
  | 0, q, h => by omega
  | n + 1, q, h => by
    have e : flatE (n + 1) = [Value.int .i64 0, Value.int .i64 0, Value.bool false] ++ flatE n := by unfold flatE; rw [List.replicate_succ, List.flatten_cons]
    rw [e]
    cases q with
    | zero => exact ⟨rfl, rfl, rfl⟩
    | succ q =>
      obtain ⟨h1, h2, h3⟩ := flat_at n q (by omega)
      have k : ∀ j, (q + 1) * 3 + j = 3 + (q * 3 + j) := fun j => by omega
      have g : ∀ j, ([Value.int .i64 0, Value.int .i64 0, Value.bool false] ++ flatE n)[(q + 1) * 3 + j]? = (flatE n)[q * 3 + j]? := fun j => by
        rw [k, List.getElem?_append_right (by simp)]
        congr 1
        simp
      exact ⟨by have := g 0; rw [Nat.add_zero, Nat.add_zero] at this; rw [this]; exact h1, by rw [g 1]; exact h2, by rw [g 2]; exact h3⟩
theorem flat_len (n : Nat) : (flatE n).length = n * 3 := by
  induction n with
  | zero => rfl
  | succ n ih =>
    have e : flatE (n + 1) = [Value.int .i64 0, Value.int .i64 0, Value.bool false] ++ flatE n := by unfold flatE; rw [List.replicate_succ, List.flatten_cons]
    rw [e, List.length_append, ih]
    simp; omega
def EC (C : Array Value) (L : Nat → Ent) : Prop := C.size = 12288 ∧ ∀ q, q < 4096 → C[q * 3]? = some (.int .i64 (L q).1) ∧ C[q * 3 + 1]? = some (.int .i64 (L q).2.1) ∧ C[q * 3 + 2]? = some (.bool (L q).2.2)
def EArr (w : World) (g : Nat) (L : Nat → Ent) : Prop := ∃ C, Blk w g C 40 ∧ EC C L
theorem zero_E : ∃ Z : Array Value, (∀ w, (zeroValue 40).run Try.prog w = .ok (.agg Z) w) ∧ Z ≠ #[] ∧ EC Z (fun _ => noE) := by
  have hne : flatE 4096 ≠ [] := fun h => by have := flat_len 4096; rw [h] at this; simp at this
  have hz := agg_ofL zero_flat hne
  refine ⟨(flatE 4096).toArray, fun w => ?_, fun h => ?_, by rw [List.size_toArray, flat_len], fun q hq => ?_⟩
  · unfold zeroValue
    rw [Sem.run_bind, Try.typeInfo40, Result.andThen_ok, hz]
    rfl
  · have := congrArg Array.size h
    rw [List.size_toArray, flat_len] at this
    simp at this
  · obtain ⟨h1, h2, h3⟩ := flat_at 4096 q hq
    exact ⟨by rw [List.getElem?_toArray]; exact h1, by rw [List.getElem?_toArray]; exact h2, by rw [List.getElem?_toArray]; exact h3⟩
section
variable {w w' : World} {g : Nat} {L : Nat → Ent}
theorem EArr.chg {S : Nat → Prop} (h : EArr w g L) (hc : Chg S w w') (hn : ¬ S g) : EArr w' g L := by
  obtain ⟨C, h1, h2⟩ := h
  exact ⟨C, hc.blk h1 hn, h2⟩
theorem EArr.at_ (h : EArr w g L) {q : Nat} (hq : q < 4096) : w.cell? ⟨g, q * 3, none⟩ = some (.int .i64 (L q).1) ∧ w.cell? ⟨g, q * 3 + 1, none⟩ = some (.int .i64 (L q).2.1) ∧ w.cell? ⟨g, q * 3 + 2, none⟩ = some (.bool (L q).2.2) ∧ ∀ i, w.frozen? ⟨g, i, none⟩ = false := by
  obtain ⟨C, h1, h2, h3⟩ := h
  obtain ⟨a, b, c⟩ := h3 q hq
  exact ⟨by rw [bcell h1]; exact a, by rw [bcell h1]; exact b, by rw [bcell h1]; exact c, fun i => bfroz h1 i⟩
theorem EArr.lt (h : EArr w g L) : g < w.heap.size := by
  obtain ⟨C, h1, _⟩ := h
  exact blt h1
theorem EArr.set (h : EArr w g L) {q : Nat} (hq : q < 4096) (x : Ent) : EArr (((w.setCell ⟨g, q * 3, none⟩ (.int .i64 x.1)).setCell ⟨g, q * 3 + 1, none⟩ (.int .i64 x.2.1)).setCell ⟨g, q * 3 + 2, none⟩ (.bool x.2.2)) g (updL L q x) ∧
    Chg (· = g) w (((w.setCell ⟨g, q * 3, none⟩ (.int .i64 x.1)).setCell ⟨g, q * 3 + 1, none⟩ (.int .i64 x.2.1)).setCell ⟨g, q * 3 + 2, none⟩ (.bool x.2.2)) := by
  obtain ⟨C, h1, hs, h3⟩ := h
  refine ⟨⟨_, bset (bset (bset h1 (q * 3) _) (q * 3 + 1) _) (q * 3 + 2) _, by simp [hs], fun r hr => ?_⟩, (((Chg.refl (· = g) w).set (p := ⟨g, q * 3, none⟩) (.inl rfl) _).set (p := ⟨g, q * 3 + 1, none⟩) (.inl rfl) _).set (p := ⟨g, q * 3 + 2, none⟩) (.inl rfl) _⟩
  have key : ∀ i, i < 12288 → (((C.setIfInBounds (q * 3) (.int .i64 x.1)).setIfInBounds (q * 3 + 1) (.int .i64 x.2.1)).setIfInBounds (q * 3 + 2) (.bool x.2.2))[i]? = if i = q * 3 + 2 then some (.bool x.2.2) else if i = q * 3 + 1 then some (.int .i64 x.2.1) else if i = q * 3 then some (.int .i64 x.1) else C[i]? := fun i hi => by
    rw [Array.getElem?_setIfInBounds]
    by_cases c1 : i = q * 3 + 2
    · rw [if_pos c1.symm, if_pos c1, if_pos (by simp [hs]; omega)]
    · rw [if_neg (fun e => c1 e.symm), if_neg c1, Array.getElem?_setIfInBounds]
      by_cases c2 : i = q * 3 + 1
      · rw [if_pos c2.symm, if_pos c2, if_pos (by simp [hs]; omega)]
      · rw [if_neg (fun e => c2 e.symm), if_neg c2, Array.getElem?_setIfInBounds]
        by_cases c3 : i = q * 3
        · rw [if_pos c3.symm, if_pos c3, if_pos (by omega)]
        · rw [if_neg (fun e => c3 e.symm), if_neg c3]
  obtain ⟨a, b, c⟩ := h3 r hr
  by_cases c0 : r = q
  · subst c0
    have e : updL L r x r = x := if_pos rfl
    rw [e]
    refine ⟨?_, ?_, ?_⟩
    · rw [key _ (by omega), if_neg (by omega), if_neg (by omega), if_pos rfl]
    · rw [key _ (by omega), if_neg (by omega), if_pos rfl]
    · rw [key _ (by omega), if_pos rfl]
  · have e : updL L q x r = L r := if_neg c0
    rw [e]
    refine ⟨?_, ?_, ?_⟩
    · rw [key _ (by omega), if_neg (by omega), if_neg (by omega), if_neg (by omega)]; exact a
    · rw [key _ (by omega), if_neg (by omega), if_neg (by omega), if_neg (by omega)]; exact b
    · rw [key _ (by omega), if_neg (by omega), if_neg (by omega), if_neg (by omega)]; exact c
end
end Go.Proofs.Ytimdojkhdneecaa.Tree
