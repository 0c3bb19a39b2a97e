/- Steps of regions that draw: appends of other slices' elements; small facts of new blocks. -/
import Derived.Test.YtimdojkhdneecaaHpC
import Derived.Deep.AppendLies
import Derived.Laws.OwnMore
import Derived.Deep.RegionHeld3
namespace Go.Proofs.Ytimdojkhdneecaa.Step
open Go.RowKit Go.Proofs.Ytimdojkhdneecaa.Hp
set_option linter.unusedVariables false
set_option linter.unusedSimpArgs false
section
variable {P : Program} {ops : Array Oper} {o : Oper} {a : Act} {K : Act → World → Prop} {Q : Exit → Act → World → Prop} {E : Prop}
/-- an append of another slice's elements, at a step of a region that draws -/
theorem step_append_src {w : World} (base : Nat) (hgd : o.guard = none) (s x : Operand) (t e : TypeId) (ho : o.op = .call { callee := .builtin .append, args := #[s, x], argTypes := #[t, t] })
    (z : Value) (bytes : Nat) (ht : P.underlying t = some (.slice e)) (hinfo : (P.info? e).map (fun i => (i.zero, i.size, i.bytes)) = some (some z, 1, bytes)) (hz : z.cells.size = 1)
    (v : Value) (n : Nat) (ys : List Value) (hs : a.eval s = v) (hbase : base ≤ w.heap.size) (hown : w.ownsRow base e 1 v n ys) (xs : List Value) (sp : Option Addr) (c : Nat) (hx : a.eval x = .slice sp xs.length c) (hnil : sp = none → c = 0)
    (hsrc : 0 < xs.length → ∃ ad, sp = some ad ∧ ∀ j v, xs[j]? = some v → w.cell? (ad.add j) = some v) (hu : ∀ u ∈ xs, u.oneCell' = true)
    (h1 : n + xs.length ≤ 9223372036854775807) (h2 : (n + xs.length) * bytes ≤ 140737488355328)
    (h : ∀ v' w', w'.ownsRow base e 1 v' (n + xs.length) (ys ++ xs) → Chg (fun i => v.ownBlock = some i) w w' → K (a.put o.dst v') w') :
    if Region.wanted o (yielded ops a.tmps) = true then Oper.wp P o a w K Q else E := by
  have hw : Region.wanted o (yielded ops a.tmps) = true := by simp [Region.wanted, hgd]
  rw [if_pos hw]
  obtain ⟨i0, hi, hz0, hz1, hz2⟩ := info_parts hinfo
  cases sp with
  | none =>
    have hx0 : xs = [] := by
      by_cases c : 0 < xs.length
      · obtain ⟨ad, hh, _⟩ := hsrc c; cases hh
      · exact List.eq_nil_of_length_eq_zero (by omega)
    subst hx0
    obtain rfl := hnil rfl
    have hrun := run_append_owned_none (P := P) (w := w) base t o.type e i0 1 ht hi v n ys hown
    unfold Oper.wp execOp
    have hx' : a.eval x = .slice none 0 0 := hx
    simp only [ho, resolve, invoke, builtin, Sem.run_bind, Sem.run_pure, Result.andThen_ok, List.map_toArray, List.map_cons, List.map_nil, hs, hx', hrun]
    exact h v w (by simpa using hown) (Chg.refl _ _)
  | some ad =>
    have hsrc2 : ∀ j u, xs[j]? = some u → w.cell? (ad.add j) = some u := by
      intro j u hj
      obtain ⟨ad', hh, hc⟩ := hsrc (by have := (List.getElem?_eq_some_iff.1 hj).1; omega)
      obtain rfl := Option.some.inj hh
      exact hc j u hj
    refine wp_append_own w s x t ho base e i0 z 1 bytes ht hi hz0 hz1 hz2 hz (by decide) v n ys hs hown ad xs.length c xs hx (by simp) hsrc2 hu (by unfold maxLen; omega) h2 hbase ?_
    intro v' w' hown' hgrow _
    exact h v' w' hown' (Chg.of_grownBy hgrow (fun j hj => .inl hj))
end
/-- the literal []T{} -/
theorem own_lit (w : World) (base : Nat) (e : TypeId) (hb : base ≤ w.heap.size) : (w.alloc (.cells #[] e)).ownsRow base e 1 (.slice (some ⟨w.heap.size, 0, none⟩) 0 0) 0 [] :=
  ⟨rfl, .inr ⟨w.heap.size, 0, #[], rfl, hb, bnew w _, by omega, by unfold maxLen; omega, rfl, rfl⟩⟩
theorem chg_new {w0 W w' : World} {g l c : Nat} (h : Chg NoB w0 W) (hg : w0.heap.size ≤ g) (hc : Chg (fun i => (Value.slice (some ⟨g, 0, none⟩) l c).ownBlock = some i) W w') : Chg NoB w0 w' :=
  h.trans hc (fun i hi x => by simp [Value.ownBlock] at x; omega)
theorem one_src {W : World} {g : Nat} {u : Value} (hb : W.cell? ⟨g, 0, none⟩ = some u) : 0 < [u].length → ∃ ad, some (⟨g, 0, none⟩ : Addr) = some ad ∧ ∀ j v, [u][j]? = some v → W.cell? (ad.add j) = some v := fun _ => ⟨_, rfl, fun j v hj => by
  have : j = 0 := by
    have := (List.getElem?_eq_some_iff.1 hj).1
    simp at this; omega
  subst this
  have e : (⟨g, 0, none⟩ : Addr).add 0 = ⟨g, 0, none⟩ := rfl
  rw [e, hb]
  simpa using hj⟩
theorem cell_new (W : World) (u : Value) (T : TypeId) : (W.alloc (.cells #[u] T)).cell? ⟨W.heap.size, 0, none⟩ = some u := by
  rw [bcell (bnew W _) 0]; rfl
theorem own_drew {w : World} {base n : Nat} {e : TypeId} {v : Value} {xs : List Value} (h : w.ownsRow base e 1 v n xs) : w.drew.ownsRow base e 1 v n xs := h
theorem own_alloc {w : World} {base n : Nat} {e : TypeId} {v : Value} {xs : List Value} (h : w.ownsRow base e 1 v n xs) (o : Obj) : (w.alloc o).ownsRow base e 1 v n xs := h.alloc o
theorem cell_1 (W : World) (L : Obj) (u : Value) (T : TypeId) : ((W.alloc L).alloc (.cells #[u] T)).cell? ⟨W.heap.size + 1, 0, none⟩ = some u := by
  have := cell_new (W.alloc L) u T
  rwa [World.size_alloc] at this
theorem cell_2 (W : World) (L : Obj) (u : Value) (T : TypeId) : ((W.alloc (.cells #[u] T)).alloc L).cell? ⟨W.heap.size, 0, none⟩ = some u :=
  ((Chg.refl NoB _).alloc L).cell (cell_new W u T) (fun x => x)
theorem cell_drew {W : World} {p : Addr} {v : Option Value} (h : W.cell? p = v) : W.drew.cell? p = v := h
theorem lit_1 (W : World) (L : Obj) (base : Nat) (e : TypeId) (h : base ≤ W.heap.size) : ((W.alloc L).alloc (.cells #[] e)).ownsRow base e 1 (.slice (some ⟨W.heap.size + 1, 0, none⟩) 0 0) 0 [] := by
  have := own_lit (W.alloc L) base e (by rw [World.size_alloc]; omega)
  rwa [World.size_alloc] at this
end Go.Proofs.Ytimdojkhdneecaa.Step
