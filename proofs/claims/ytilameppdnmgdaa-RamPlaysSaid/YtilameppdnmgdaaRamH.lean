/- Memory of frames: RamPlays: a great array's zero, its stores, acts that came in, the state. -/
import Derived.Test.YtilameppdnmgdaaRamG
import Derived.Test.YtilameppdnmgdaaRunsE
import Derived.Test.YtilameppdnmgdaaHpE
import Derived.Deep.QuietTactic
import Derived.BigQuiet
import Derived.Laws.CopyRow
namespace Go.Proofs.Ytilameppdnmgdaa.Ram
open Go.RowKit Go.Proofs.Ytilameppdnmgdaa.Hp
set_option linter.unusedVariables false
set_option linter.unusedSimpArgs false
def cellsOf? (v : Option Value) : List Value := match v with | some (.agg cs) => cs.toList | _ => []
theorem app_rep {l1 l2 : List Value} {z : Value} {n : Nat} (a : Nat) (h1 : l1 = List.replicate a z) (h2 : l2 = List.replicate a z) (h : a + a = n) : List.append l1 l2 = List.replicate n z := by
  subst h1 h2 h
  exact List.replicate_append_replicate
theorem zero_bads : cellsOf? Try.t54.zero = List.replicate 1024 (.int .i64 0) := by kernel_rfl
set_option maxRecDepth 100000 in
theorem zero_list : cellsOf? Try.t53.zero = List.replicate 65536 (.int .u8 0) := by
  refine app_rep 32768 ?_ ?_ rfl
  all_goals refine app_rep 16384 ?_ ?_ rfl
  all_goals refine app_rep 8192 ?_ ?_ rfl
  all_goals refine app_rep 4096 ?_ ?_ rfl
  all_goals refine app_rep 2048 ?_ ?_ rfl
  all_goals refine app_rep 1024 ?_ ?_ rfl
  all_goals kernel_rfl
theorem agg_of {v : Option Value} {l : List Value} (h : cellsOf? v = l) (hn : l ≠ []) : v = some (.agg l.toArray) := by
  unfold cellsOf? at h
  split at h
  · subst h; simp
  · exact absurd h.symm hn
theorem rep_facts (n : Nat) (z : Value) (hn : 0 < n) : ((List.replicate n z).toArray).size = n ∧ (List.replicate n z).toArray ≠ #[] ∧ (∀ i, i < n → ((List.replicate n z).toArray)[i]? = some z) ∧ List.replicate n z ≠ [] := by
  refine ⟨by simp, fun h => ?_, fun i hi => by simp [hi], fun h => ?_⟩
  · have := congrArg Array.size h
    simp at this; omega
  · rw [List.replicate_eq_nil_iff] at h; omega
theorem zero_run {t : TypeId} {T : TypeInfo} {n : Nat} {z : Value} (ht : ∀ w, (typeInfo t).run Try.prog w = .ok T w) (hz : cellsOf? T.zero = List.replicate n z) (hn : 0 < n) (w : World) : (zeroValue t).run Try.prog w = .ok (.agg (List.replicate n z).toArray) w := by
  have hz := agg_of hz (rep_facts n z hn).2.2.2
  unfold zeroValue
  rw [Sem.run_bind, ht, Result.andThen_ok, hz]
  rfl
/-- the list's zero, its cells a letter -/
theorem zero_L : ∃ Z : Array Value, (∀ w, (zeroValue 53).run Try.prog w = .ok (.agg Z) w) ∧ Z.size = 65536 ∧ Z ≠ #[] ∧ ∀ i, i < 65536 → Z[i]? = some (.int .u8 0) :=
  ⟨_, zero_run Try.typeInfo53 zero_list (Nat.succ_pos _), (rep_facts _ _ (Nat.succ_pos _)).1, (rep_facts _ _ (Nat.succ_pos _)).2.1, (rep_facts _ _ (Nat.succ_pos _)).2.2.1⟩
theorem zero_B : ∃ Z : Array Value, (∀ w, (zeroValue 54).run Try.prog w = .ok (.agg Z) w) ∧ Z.size = 1024 ∧ Z ≠ #[] ∧ ∀ i, i < 1024 → Z[i]? = some (.int .i64 0) :=
  ⟨_, zero_run Try.typeInfo54 zero_bads (Nat.succ_pos _), (rep_facts _ _ (Nat.succ_pos _)).1, (rep_facts _ _ (Nat.succ_pos _)).2.1, (rep_facts _ _ (Nat.succ_pos _)).2.2.1⟩
section
variable {P : Program} {ops : Array Oper} {rest : List Oper} {o : Oper} {a : Act} {Q : Exit → Act → World → Prop}
/-- a store of many cells into a block -/
theorem store_spl {w : World} (hgd : o.guard = none) (ty : TypeId) (x y : Operand) (ho : o.op = .store ty x y) (cells : Array Value) (hi : (P.info? ty).map (·.size) = some cells.size) (g off : Nat) (C : Array Value) (T : TypeId) (hx : a.eval x = .pointer (some ⟨g, off, none⟩)) (hy : a.eval y = .agg cells)
    (hb : Blk w g C T) (hfit : off + cells.size ≤ C.size) (h1 : ∀ v ∈ cells.toList, v.oneCell' = true) (h : ∀ w', Blk w' g (splA C off cells.toList) T → Chg (· = g) w w' → wpList P ops Q rest (a.put o.dst undef) w') : wpList P ops Q (o :: rest) a w := by
  have hst := run_storeCells_at P g off T cells.toList 0 C w hb (by simpa using hfit) h1
  have hrun : (storeVar ty ⟨g, off, none⟩ (.agg cells)).run P w = .ok () (w.setRow g (splA C off cells.toList)) := by
    cases hq : P.info? ty with
    | none => simp [hq] at hi
    | some i =>
      have hs : cells.size = i.size := by simp [hq] at hi; omega
      have e : (C.toList.take (off + 0) ++ cells.toList ++ C.toList.drop (off + 0 + cells.toList.length)).toArray = splA C off cells.toList := by simp [splA]
      rw [e] at hst
      simp [storeVar, sizeOf, typeInfo, hq, Value.cells, hs, hst]
  refine wpList_plain hgd fun K hK => ?_
  unfold Oper.wp execOp
  simp only [ho, hx, hy, Instr.storeAt, Instr.sureAddr, Sem.run_bind, Sem.run_pure, Result.andThen_ok, hrun]
  have hc : Chg (· = g) w (w.setRow g (splA C off cells.toList)) := ⟨rfl, rfl, rfl, by simp [World.setRow], fun k _ hk => setRow_other w g k _ hk⟩
  exact hK _ _ (h _ (setRow_heap w g C _ T _ hb) hc)
end
theorem run_sliceAt_lh {P : Program} (w : World) (t : TypeId) (a : Addr) (ht : P.underlying t = some (.array (P.arrayLen t) (P.elem t))) (N : Nat) (hN : P.arrayLen t = N) (i : TypeInfo) (hi : P.info? (P.elem t) = some i) (h1' : i.size = 1) (kl kh : IntKind) (l h : Int) (h0 : 0 ≤ l) (h1 : l ≤ h) (h2 : h ≤ N) :
    (Instr.sliceAt t (.pointer (some a)) (some (.int kl l)) (some (.int kh h)) none).run P w = .ok (.slice (some (if N = l.toNat then a else a.add l.toNat)) (h.toNat - l.toNat) (N - l.toNat)) w := by
  subst hN
  have eh : (h.toNat : Int) = h := Int.toNat_of_nonneg (by omega)
  simp [Instr.sliceAt, Instr.sureAddr, run_underlying ht, Instr.sliceBounds, run_sliceBound, sizeOf, typeInfo, hi, h1', *, eh, (by omega : 0 ≤ l), (by omega : 0 ≤ h)]
theorem run_sliceAt_l {P : Program} (w : World) (t : TypeId) (a : Addr) (ht : P.underlying t = some (.array (P.arrayLen t) (P.elem t))) (N : Nat) (hN : P.arrayLen t = N) (i : TypeInfo) (hi : P.info? (P.elem t) = some i) (h1' : i.size = 1) (kl : IntKind) (l : Int) (h0 : 0 ≤ l) (h2 : l ≤ N) :
    (Instr.sliceAt t (.pointer (some a)) (some (.int kl l)) none none).run P w = .ok (.slice (some (if N = l.toNat then a else a.add l.toNat)) (N - l.toNat) (N - l.toNat)) w := by
  subst hN
  simp [Instr.sliceAt, Instr.sureAddr, run_underlying ht, Instr.sliceBounds, run_sliceBound, sizeOf, typeInfo, hi, h1', *, (by omega : 0 ≤ l)]
end Go.Proofs.Ytilameppdnmgdaa.Ram
