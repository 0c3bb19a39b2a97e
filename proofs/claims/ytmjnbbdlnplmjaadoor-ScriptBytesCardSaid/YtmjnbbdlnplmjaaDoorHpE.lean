/- Slices of structs that came in: their cells. -/
import Derived.Test.YtmjnbbdlnplmjaaDoorHpD
import Derived.Deep.Slices
import Derived.Deep.Fields
import Derived.ChangeSame
namespace Go.Proofs.YtmjnbbdlnplmjaaDoor.Hp
open Go.RowKit Go.ChangeShapes Go.WideShapes Go.Deep
set_option linter.unusedVariables false
set_option linter.unusedSimpArgs false
section
variable {H : Type} {enc : TypeId × Value → H} {P : Program} {w : World} {base : Nat} {spare : Nat → Bool} {held : Bool}
/-- Each element's cells, and the datum of each field. -/
theorem open_elems {t e : TypeId} {fs : Array Field} {fuel : Nat} {cs : List Value} {x : DataW H × List MemPlace} (ht : P.underlying t = some (.slice e)) (he : P.underlying e = some (.struct fs)) (h : DataW.trod enc P w base spare held fuel t cs = some x) :
    cs = [.slice none 0 0] ∨ ∃ (a : Addr) (len cap : Nat), cs = [.slice (some a) len cap] ∧ len ≤ cap ∧ cap ≤ maxLen ∧
      ∀ i, i < len → ∃ (l : List Value) (n : Nat), l.length = P.cellsOf e ∧ (∀ (j : Nat) (v : Value), l[j]? = some v → w.cell? (a.add (i * P.cellsOf e + j)) = some v) ∧
        ∀ (j : Nat) (f : Field), fs[j]? = some f → ∃ y, DataW.trod enc P w base spare held n f.type ((l.drop f.offset).take (P.cellsOf f.type)) = some y := by
  rcases open_slice ht h with ⟨h0, _⟩ | ⟨a, len, cap, m, n, D, Pl, hcs, hb, hl, hm, hmm, hx, hi⟩
  · exact .inl h0
  · refine .inr ⟨a, len, cap, hcs, hl, hm, fun i hil => ?_⟩
    have him : i < m := by rw [hmm]; split <;> omega
    obtain ⟨l, hc, htr⟩ := hi i him
    obtain ⟨_, hcl, hat⟩ := World.cells?_some hc
    obtain ⟨ys, n', hn', hy, hlen, hyl, hf⟩ := DataW.trod_struct he htr
    refine ⟨l, n', hcl, fun j v hj => ?_, fun j f hj => ?_⟩
    · have hjl : j < P.cellsOf e := by rw [← hcl]; exact (List.getElem?_eq_some_iff.1 hj).1
      have := hat j hjl
      rw [Go.Deep.add_add] at this
      rw [this, hj]
    · have hjl : j < ys.length := by rw [hyl]; exact (Array.getElem?_eq_some_iff.1 hj).1
      exact ⟨ys[j], (hf j f hj).trans (List.getElem?_eq_getElem hjl)⟩
/-- a field that is a slice of whole numbers -/
theorem row_of_trod {t e : TypeId} {k : IntKind} {fuel : Nat} {v : Value} {x : DataW H × List MemPlace} (ht : P.underlying t = some (.slice e)) (he : P.underlying e = some (.int k)) (hc : P.cellsOf e = 1)
    (h : DataW.trod enc P w base spare held fuel t [v] = some x) (hsp : ∀ b, spare b = true) : ∃ a len cap zs, v = .slice a len cap ∧ IsRow k w a len cap zs := by
  rcases open_ints ht he hc h with ⟨hcs, _⟩ | ⟨a, l, c, zs, hcs, _, hl, hm, hz, _, hcell, hwz⟩
  · exact ⟨none, 0, 0, [], by simpa using hcs, .inl ⟨rfl, rfl, rfl, rfl⟩⟩
  · refine ⟨some a, l, c, zs, by simpa using hcs, .inr ⟨a, rfl, hl, hm, ?_, hcell, hwz⟩⟩
    rw [hz, hsp]; rfl
end
theorem add_field (a : Addr) (m j : Nat) (h : 0 < j) : a.add (m + j) = ⟨(a.add m).block, (a.add m).off + j, none⟩ := by
  unfold Addr.add
  rw [if_neg (by omega)]
  split
  · subst_vars; simp
  · simp [Nat.add_assoc]
theorem run_loadVar_any {P : Program} (w : World) (ad : Addr) (ty : TypeId) (cs : Array Value) (d : TypeDesc) (hc : ∀ j v, cs[j]? = some v → w.cell? (ad.add j) = some v)
    (hu : P.underlying ty = some d) (hd : (match d with | .struct _ | .array _ _ => true | _ => false) = true) (hi : (P.info? ty).map (·.size) = some cs.size) :
    (loadVar ty ad).run P w = .ok (.agg cs) w := by
  have hl : (loadCells ad cs.toList.length).run P w = .ok cs.toList.toArray w :=
    run_loadCells_list (P := P) w ad cs.toList (fun j v hv => hc j v (by simpa using hv))
  obtain ⟨i, hi1, hi2⟩ := Option.map_eq_some_iff.1 hi
  rw [Array.length_toList, Array.toArray_toList] at hl
  cases d <;> first | (simp at hd; done) | simp [loadVar, isAgg, run_underlying hu, sizeOf, typeInfo, hi1, hi2, hl]
end Go.Proofs.YtmjnbbdlnplmjaaDoor.Hp
