/- More words for blocks of memory: a row of cells that is read at once. -/
import Derived.Test.YtmjnbbdlnplmjaaDoorHpB
import Derived.Laws.Rows
import Derived.Laws.Cells
namespace Go.Proofs.YtmjnbbdlnplmjaaDoor.Hp
open Go.RowKit
set_option linter.unusedVariables false
set_option linter.unusedSimpArgs false
theorem add_lit' (g i j : Nat) : (⟨g, i, none⟩ : Addr).add j = ⟨g, i + j, none⟩ := by unfold Addr.add; split <;> simp_all
theorem run_loadVar_at {P : Program} (w : World) (g off : Nat) (ty : TypeId) (cs : Array Value) (d : TypeDesc) (hc : ∀ j v, cs[j]? = some v → w.cell? ⟨g, off + j, none⟩ = some v)
    (hu : P.underlying ty = some d) (hd : (match d with | .struct _ | .array _ _ => true | _ => false) = true) (hi : (P.info? ty).map (·.size) = some cs.size) :
    (loadVar ty ⟨g, off, none⟩).run P w = .ok (.agg cs) w := by
  have hl : (loadCells ⟨g, off, none⟩ cs.toList.length).run P w = .ok cs.toList.toArray w :=
    run_loadCells_list (P := P) w ⟨g, off, none⟩ cs.toList (fun j v hv => by
      rw [add_lit']
      exact hc j v (by simpa using hv))
  obtain ⟨i, hi1, hi2⟩ := Option.map_eq_some_iff.1 hi
  rw [Array.length_toList, Array.toArray_toList] at hl
  cases d <;> first | (simp at hd; done) | simp [loadVar, isAgg, run_underlying hu, sizeOf, typeInfo, hi1, hi2, hl]
section
variable {P : Program} {ops : Array Oper} {rest : List Oper} {o : Oper} {a : Act} {w : World} {Q : Exit → Act → World → Prop}
theorem load_at (hgd : o.guard = none) (ty : TypeId) (x : Operand) (ho : o.op = .load ty x)
    (ad : Addr) (hx : a.eval x = .pointer (some ad)) (v : Value) (hr : (loadVar ty ad).run P w = .ok v w)
    (h : wpList P ops Q rest (a.put o.dst v) w) : wpList P ops Q (o :: rest) a w := by
  refine wpList_plain hgd fun K hK => ?_
  unfold Oper.wp execOp
  simp only [ho, hx, Instr.loadAt, Instr.sureAddr, Sem.run_bind, Sem.run_pure, Result.andThen_ok, hr]
  exact hK _ _ h
theorem index_at (hgd : o.guard = none) (ty : TypeId) (x i : Operand) (ho : o.op = .index ty x i)
    (X I v : Value) (hx : a.eval x = X) (hi : a.eval i = I) (hr : (Instr.index ty X I).run P w = .ok v w)
    (h : wpList P ops Q rest (a.put o.dst v) w) : wpList P ops Q (o :: rest) a w := by
  refine wpList_plain hgd fun K hK => ?_
  unfold Oper.wp execOp
  simp only [ho, hx, hi, Sem.run_bind, Sem.run_pure, Result.andThen_ok, hr]
  exact hK _ _ h
end
/-- a struct out of an array of structs -/
theorem run_index_agg {P : Program} (w : World) (t e : TypeId) (n : Nat) (cs : Array Value) (i : Nat) (hi : i < n) (ht : P.underlying t = some (.array n e)) (d : TypeDesc) (hu : P.underlying e = some d) (hd : (match d with | .struct _ | .array _ _ => true | _ => false) = true)
    (sz : Nat) (hs : (P.info? e).map (·.size) = some sz) : (Instr.index t (.agg cs) (.int .i64 i)).run P w = .ok (.agg (cs.extract (i * sz) (i * sz + sz))) w := by
  obtain ⟨j, hj1, hj2⟩ := Option.map_eq_some_iff.1 hs
  cases d <;> first | (simp at hd; done) | simp [Instr.index, asIntOf, run_underlying ht, run_underlying hu, sizeOf, typeInfo, hj1, hj2, hi, part, isAgg]
end Go.Proofs.YtmjnbbdlnplmjaaDoor.Hp
