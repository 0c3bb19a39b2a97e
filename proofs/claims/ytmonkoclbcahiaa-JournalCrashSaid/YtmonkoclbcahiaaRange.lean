/- 'for k, v := range m' over a map with whole numbers for keys. -/
import Derived.Test.YtmonkoclbcahiaaMap
import Derived.Maps.RangeWalk
namespace Go.Proofs.Ytmonkoclbcahiaa.Hp
open Go.RowKit Go.MapKept
set_option linter.unusedVariables false
set_option linter.unusedSimpArgs false
/-- block r goes through the map in block b, which is M; 'left': is it still to come -/
def Ranging (w : World) (b r : Nat) (M : Int → Option Value) (left : Int → Bool) : Prop :=
  ∃ es clock since seen c0, w.heap[b]? = some (.map es clock) ∧ MapWf es clock ∧ (∀ k v, M k = some v ↔ ∃ e ∈ es.toList, e.key = .int .i64 k ∧ e.val = v) ∧
    w.heap[r]? = some (.mapIter (some b) since seen c0) ∧ (∀ x ∈ es.toList, x.born < since) ∧ (∀ x ∈ es.toList, ∀ k, x.key = .int .i64 k → left k = !seen.contains x.born) ∧ (∀ k, left k = true → M k ≠ none) ∧ since ≤ c0 ∧ since ≤ clock
theorem Ranging.map {w : World} {b r : Nat} {M : Int → Option Value} {left : Int → Bool} (h : Ranging w b r M left) : MapAt w b M := by
  obtain ⟨es, clock, _, _, _, h1, h2, h3, _⟩ := h
  exact ⟨es, clock, h1, h2, h3⟩
theorem Ranging.chg {S : Nat → Prop} {w w' : World} {b r : Nat} {M : Int → Option Value} {left : Int → Bool} (h : Ranging w b r M left) (hc : Chg S w w') (h1 : ¬ S b) (h2 : ¬ S r) : Ranging w' b r M left := by
  obtain ⟨es, clock, since, seen, c0, hb, a, c, hr, rest⟩ := h
  exact ⟨es, clock, since, seen, c0, hc.blk hb h1, a, c, hc.blk hr h2, rest⟩
theorem Ranging.ne {w : World} {b r : Nat} {M : Int → Option Value} {left : Int → Bool} (h : Ranging w b r M left) : r ≠ b := by
  obtain ⟨es, clock, since, seen, c0, hb, a, c, hr, rest⟩ := h
  intro e
  rw [e, hb] at hr
  cases hr
theorem Ranging.lt {w : World} {b r : Nat} {M : Int → Option Value} {left : Int → Bool} (h : Ranging w b r M left) : r < w.heap.size := by
  obtain ⟨es, clock, since, seen, c0, hb, a, c, hr, rest⟩ := h
  exact blt hr
theorem range_run {P : Program} {w : World} {b : Nat} {M : Int → Option Value} {t k e : TypeId} (h : MapAt w b M) (ht : P.underlying t = some (.map k e)) :
    ∃ w', (Instr.range t (.map (some b))).run P w = .ok (.pointer (some ⟨w.heap.size, 0, none⟩)) w' ∧ Ranging w' b w.heap.size M (fun k => (M k).isSome) ∧ Chg NoB w w' := by
  have hlt := h.lt
  obtain ⟨es, clock, hb, hwf, hM⟩ := h
  refine ⟨_, run_range_map w t k e b es clock ht hb, ⟨es, clock, clock, #[], clock, ((MapKept.heap_alloc w _).2 b hlt).trans hb, hwf, hM, (MapKept.heap_alloc w _).1, hwf.2.2.2, fun x hx k hk => ?_, fun k hk => ?_, Nat.le_refl _, Nat.le_refl _⟩, (Chg.refl NoB w).alloc _⟩
  · show (M k).isSome = _
    rw [(hM k x.val).mpr ⟨x, hx, hk, rfl⟩]; simp
  · intro e
    have hk' : (M k).isSome = true := hk
    rw [e] at hk'; cases hk'
theorem next_run {P : Program} {w : World} {b r : Nat} {M : Int → Option Value} {left : Int → Bool} (h : Ranging w b r M left) (ty : TypeId) :
    ((∀ k, left k = false) ∧ (Instr.next (.pointer (some ⟨r, 0, none⟩)) false ty).run P w = .ok (.tuple #[.bool false]) w) ∨
    ∃ k v w', left k = true ∧ M k = some v ∧ (Instr.next (.pointer (some ⟨r, 0, none⟩)) false ty).run P w = .ok (.tuple #[.bool true, .int .i64 k, v]) w' ∧ Ranging w' b r M (fun j => left j && !(j == k)) ∧
      w'.rangeLeft b r < w.rangeLeft b r ∧ Chg (· = r) w w' ∧ (Instr.entry (.pointer (some ⟨r, 0, none⟩))).run P w' = .ok (.tuple #[.int .i64 k, v]) w' := by
  have hne := h.ne
  obtain ⟨es, clock, since, seen, c0, hb, hwf, hM, hr, hold, hl1, hl2, hsc, hsk⟩ := h
  have hnd : (es.toList.map (·.born)).Nodup := by rw [List.nodup_iff_pairwise_ne, List.pairwise_map]; exact hwf.2.2.1
  rcases run_next_at (P := P) w ty r b since c0 seen es clock hr hb hold hsc with ⟨h0, hrun⟩ | ⟨e, he, w1, hal, hrun⟩
  · refine .inl ⟨fun k => ?_, hrun⟩
    cases hk : left k
    · rfl
    · cases hv : M k with
      | none => exact absurd hv (hl2 k hk)
      | some v =>
        obtain ⟨x, hx, hxk, _⟩ := (hM k v).mp hv
        rw [hl1 x hx k hxk, all_seen es seen h0 x hx] at hk
        cases hk
  · obtain ⟨hem, hes⟩ := mem_left he
    obtain ⟨k, hk⟩ := hwf.1 e hem
    have hr1 : w1.heap[r]? = some (.mapIter (some b) since seen c0) := by rcases hal with rfl | rfl <;> exact hr
    have hb1 : w1.heap[b]? = some (.map es clock) := by rcases hal with rfl | rfl <;> exact hb
    have hset := heap_set (o' := .mapIter (some b) since (seen.push e.born) clock) hr1
    have hb' : (ChangeMaps.setBlock w1 r (.mapIter (some b) since (seen.push e.born) clock)).heap[b]? = some (.map es clock) := (hset.2 b (fun e1 => hne e1.symm)).trans hb1
    rw [hk] at hrun
    have hen := run_entry_at (P := P) _ r b since seen es clock e hset.1 hb' hem hnd
    rw [hk] at hen
    refine .inr ⟨k, e.val, _, by rw [hl1 e hem k hk, hes]; rfl, (hM k e.val).mpr ⟨e, hem, hk, rfl⟩, hrun, ⟨es, clock, since, seen.push e.born, clock, hb', hwf, hM, hset.1, hold, fun x hx j hj => ?_, fun j hj => hl2 j (by simp at hj; exact hj.1), hsk, hsk⟩, ?_, ?_, hen⟩
    · show (left j && !(j == k)) = _
      rw [hl1 x hx j hj, contains_push]
      by_cases c : j = k
      · subst c
        have : x = e := entry_eq_of_key hwf.2.1 hx hem (by rw [hj, hk])
        subst this
        simp
      · have : (x.born == e.born) = false := by
          rw [beq_eq_false_iff_ne]
          intro hbe
          have := born_inj hnd hx hem hbe
          subst this
          rw [hk] at hj
          exact c (by simpa using hj.symm)
        rw [this]
        simp [c]
    · simp only [World.rangeLeft, hb, hr, hb', hset.1, ChangeMaps.setBlock] at *
      exact left_shrinks es seen e he
    · have h1 : Chg (· = r) w w1 := by rcases hal with rfl | rfl; exact Chg.refl _ _; exact (Chg.refl _ _).drew
      exact h1.trans (chg_block hr1) (fun _ _ x => x)
section
variable {P : Program} {ops : Array Oper} {rest : List Oper} {o : Oper} {a : Act} {w : World} {Q : Exit → Act → World → Prop}
theorem range_at (hg : o.guard = none) (m : Operand) (t : TypeId) (hop : o.op = Op.range t m) (k e : TypeId) (ht : P.underlying t = some (.map k e)) (b : Nat) (M : Int → Option Value)
    (hm : a.eval m = .map (some b)) (h : MapAt w b M)
    (hK : ∀ w', Ranging w' b w.heap.size M (fun k => (M k).isSome) → Chg NoB w w' → wpList P ops Q rest (a.put o.dst (.pointer (some ⟨w.heap.size, 0, none⟩))) w') :
    wpList P ops Q (o :: rest) a w := by
  refine wpList_plain hg fun K' hK' => ?_
  obtain ⟨w', hrun, r1, r2⟩ := range_run h ht
  unfold Oper.wp
  simp [execOp, hop, hm, hrun, Result.andThen]
  exact hK' _ _ (hK w' r1 r2)
theorem next_at (hg : o.guard = none) (it : Operand) (hop : o.op = Op.next it false) (b r : Nat) (M : Int → Option Value) (left : Int → Bool)
    (hit : a.eval it = .pointer (some ⟨r, 0, none⟩)) (h : Ranging w b r M left)
    (hDone : (∀ k, left k = false) → wpList P ops Q rest (a.put o.dst (.tuple #[.bool false])) w)
    (hMore : ∀ k v w', left k = true → M k = some v → Ranging w' b r M (fun j => left j && !(j == k)) → w'.rangeLeft b r < w.rangeLeft b r → Chg (· = r) w w' → (Instr.entry (.pointer (some ⟨r, 0, none⟩))).run P w' = .ok (.tuple #[.int .i64 k, v]) w' →
      wpList P ops Q rest (a.put o.dst (.tuple #[.bool true, .int .i64 k, v])) w') :
    wpList P ops Q (o :: rest) a w := by
  refine wpList_plain hg fun K' hK' => ?_
  unfold Oper.wp
  rcases next_run (P := P) h o.type with ⟨h0, hrun⟩ | ⟨k, v, w', h1, h2, hrun, h3, h4, h5, hen⟩
  · simp [execOp, hop, hit, hrun, Result.andThen]
    exact hK' _ _ (hDone h0)
  · simp [execOp, hop, hit, hrun, Result.andThen]
    exact hK' _ _ (hMore k v w' h1 h2 h3 h4 h5 hen)
theorem clear_at (hg : o.guard = none) (m : Operand) (t k e : TypeId) (hop : o.op = Op.call { callee := Callee.builtin Builtin.clear, args := #[m], argTypes := #[t] }) (ht : P.underlying t = some (.map k e)) (b : Nat) (M : Int → Option Value)
    (hm : a.eval m = .map (some b)) (h : MapAt w b M)
    (hK : ∀ w', MapAt w' b (fun _ => none) → Chg (· = b) w w' → wpList P ops Q rest (a.put o.dst (.tuple #[])) w') :
    wpList P ops Q (o :: rest) a w := by
  refine wpList_plain hg fun K' hK' => ?_
  obtain ⟨w', hrun, r1, r2⟩ := run_clear_map (P := P) t k e ht h
  unfold Oper.wp
  simp [execOp, hop, resolve, invoke, builtin, hm, hrun, Result.andThen]
  exact hK' _ _ (hK w' r1 r2)
end
end Go.Proofs.Ytmonkoclbcahiaa.Hp
