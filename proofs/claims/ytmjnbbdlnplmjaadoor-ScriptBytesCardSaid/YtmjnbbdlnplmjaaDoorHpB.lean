/- More words for blocks of memory: copies, cuts. -/
import Derived.Test.YtmjnbbdlnplmjaaDoorHp
import Derived.Laws.CopyOwn
import Derived.Laws.Slices
import Derived.Laws.AppendOwnNone
import Derived.Lib.SliceRun
namespace Go.Proofs.YtmjnbbdlnplmjaaDoor.Hp
open Go.RowKit
set_option linter.unusedVariables false
set_option linter.unusedSimpArgs false
/-- cells with some of them put in the place of others -/
def splA (C : Array Value) (off : Nat) (xs : List Value) : Array Value := (C.toList.take off ++ xs ++ C.toList.drop (off + xs.length)).toArray
theorem splA_size (C : Array Value) (off : Nat) (xs : List Value) (h : off + xs.length ≤ C.size) : (splA C off xs).size = C.size := by simp [splA]; omega
theorem splA_in (C : Array Value) (off : Nat) (xs : List Value) (h : off + xs.length ≤ C.size) (j : Nat) (hj : j < xs.length) : (splA C off xs)[off + j]? = xs[j]? := by
  have h1 : (C.toList.take off).length = off := by simp; omega
  simp only [splA, List.getElem?_toArray, List.append_assoc]
  rw [List.getElem?_append_right (by omega), h1, Nat.add_sub_cancel_left, List.getElem?_append_left hj]
theorem splA_out (C : Array Value) (off : Nat) (xs : List Value) (h : off + xs.length ≤ C.size) (i : Nat) (hi : i < off ∨ off + xs.length ≤ i) : (splA C off xs)[i]? = C[i]? := by
  have h1 : (C.toList.take off).length = off := by simp; omega
  simp only [splA, List.getElem?_toArray, List.append_assoc]
  rcases hi with hi | hi
  · rw [List.getElem?_append_left (by omega), List.getElem?_take, if_pos hi]; simp
  · rw [List.getElem?_append_right (by omega), h1, List.getElem?_append_right (by omega), List.getElem?_drop]
    rw [show off + xs.length + (i - off - xs.length) = i from by omega]; simp
section
variable {P : Program} {ops : Array Oper} {rest : List Oper} {o : Oper} {a : Act} {Q : Exit → Act → World → Prop}
/-- copy into a block. -/
theorem copy_into {w0 w : World} {S : Nat → Prop} (hgd : o.guard = none) (d s : Operand) (dT sT : TypeId) (ho : o.op = .call { callee := .builtin .copy, args := #[d, s], argTypes := #[dT, sT] })
    (elem : TypeId) (hu : P.underlying dT = some (.slice elem)) (hsz : (P.info? elem).map (·.size) = some 1)
    (dp sp : Option Addr) (dLen dCap sLen sCap : Nat) (hd : a.eval d = .slice dp dLen dCap) (hs : a.eval s = .slice sp sLen sCap)
    (g off : Nat) (C : Array Value) (T : TypeId) (hg : Blk w g C T) (xs : List Value) (hn : xs.length = Nat.min sLen dLen) (hdp : 0 < xs.length → dp = some ⟨g, off, none⟩)
    (hsrc : 0 < xs.length → ∃ ad, sp = some ad ∧ ∀ j v, xs[j]? = some v → w.cell? (ad.add j) = some v) (hfit : off + xs.length ≤ C.size) (h1 : ∀ v ∈ xs, v.oneCell' = true)
    (hC : Chg S w0 w) (hS : S g ∨ w0.heap.size ≤ g)
    (h : ∀ w', Blk w' g (splA C off xs) T → Chg (· = g) w w' → Chg S w0 w' → wpList P ops Q rest (a.put o.dst (goInt xs.length)) w') :
    wpList P ops Q (o :: rest) a w := by
  by_cases h0 : xs.length = 0
  · obtain rfl : xs = [] := List.eq_nil_of_length_eq_zero h0
    refine wpList_copy_nothing hgd d s dT sT ho elem hu hsz dp sp dLen dCap sLen sCap hd hs (by simpa using hn.symm) ?_
    exact h w (by simpa [splA] using hg) (Chg.refl _ _) hC
  · obtain rfl := hdp (by omega)
    obtain ⟨ad, rfl, hsrc2⟩ := hsrc (by omega)
    refine wpList_copy_own hgd d s dT sT ho elem hu hsz g off dLen dCap ad sLen sCap hd hs C T hg xs hn hsrc2 hfit h1 ?_
    have e : (C.toList.take off ++ (xs ++ C.toList.drop (off + xs.length))).toArray = splA C off xs := by simp [splA]
    rw [e]
    have hc : Chg (· = g) w (w.setRow g (splA C off xs)) := ⟨rfl, rfl, rfl, by simp [World.setRow], fun k _ hk => setRow_other w g k _ hk⟩
    exact h _ (setRow_heap w g C _ T _ hg) hc (hC.trans ⟨rfl, rfl, rfl, by simp [World.setRow], fun k _ hk => setRow_other w g k _ (fun e => hk e)⟩ (fun i hi hh => hS.elim (fun x => by subst hh; exact x) (fun x => by subst hh; omega)))
end
theorem run_sliceAt_lhm {P : Program} (w : World) (t : TypeId) (a : Addr) (ht : P.underlying t = some (.array (P.arrayLen t) (P.elem t))) (N : Nat) (hN : P.arrayLen t = N) (i : TypeInfo) (hi : P.info? (P.elem t) = some i) (h1' : i.size = 1) (kl kh km : IntKind) (l h m : Int) (h0 : 0 ≤ l) (h1 : l ≤ h) (h2 : h ≤ m) (h3 : m ≤ N) :
    (Instr.sliceAt t (.pointer (some a)) (some (.int kl l)) (some (.int kh h)) (some (.int km m))).run P w = .ok (.slice (some (if m.toNat = l.toNat then a else a.add l.toNat)) (h.toNat - l.toNat) (m.toNat - l.toNat)) w := by
  subst hN
  have eh : (h.toNat : Int) = h := Int.toNat_of_nonneg (by omega)
  have em : (m.toNat : Int) = m := Int.toNat_of_nonneg (by omega)
  simp [Instr.sliceAt, Instr.sureAddr, run_underlying ht, Instr.sliceBounds, run_sliceBound, sizeOf, typeInfo, hi, h1', *, eh, em, (by omega : 0 ≤ l), (by omega : 0 ≤ h), (by omega : 0 ≤ m)]
section
variable {P : Program} {ops : Array Oper} {rest : List Oper} {o : Oper} {a : Act} {Q : Exit → Act → World → Prop}
/-- append of all that another slice holds: onto a slice of the call's own. -/
theorem append_src {w0 w : World} {S : Nat → Prop} (hgd : o.guard = none) (s x : Operand) (t e : TypeId) (ho : o.op = .call { callee := .builtin .append, args := #[s, x], argTypes := #[t, t] })
    (z : Value) (bytes : Nat) (ht : P.underlying t = some (.slice e)) (hinfo : (P.info? e).map (fun i => (i.zero, i.size, i.bytes)) = some (some z, 1, bytes)) (hz : z.cells.size = 1)
    (v : Value) (n : Nat) (ys : List Value) (hs : a.eval s = v) (hC : Chg S w0 w) (hown : w.ownsRow w0.heap.size e 1 v n ys) (xs : List Value) (sp : Option Addr) (c : Nat) (hx : a.eval x = .slice sp xs.length c) (hnil : sp = none → c = 0)
    (hsrc : 0 < xs.length → ∃ ad, sp = some ad ∧ ∀ j v, xs[j]? = some v → w.cell? (ad.add j) = some v) (hu : ∀ u ∈ xs, u.oneCell' = true)
    (h1 : n + xs.length ≤ 9223372036854775807) (h2 : (n + xs.length) * bytes ≤ 140737488355328)
    (h : ∀ v' w', w'.ownsRow w0.heap.size e 1 v' (n + xs.length) (ys ++ xs) → Chg S w0 w' → wpList P ops Q rest (a.put o.dst v') w') :
    wpList P ops Q (o :: rest) a w := by
  obtain ⟨i0, hi, hz0, hz1, hz2⟩ := info_parts hinfo
  cases sp with
  | none =>
    have hx0 : xs = [] := by
      by_cases c : 0 < xs.length
      · obtain ⟨ad, hh, _⟩ := hsrc c; cases hh
      · exact List.eq_nil_of_length_eq_zero (by omega)
    subst hx0
    obtain rfl := hnil rfl
    refine wpList_append_own_none hgd s x t ho w0.heap.size e i0 1 ht hi v n ys hs hown hx ?_
    exact h v w (by simpa using hown) hC
  | some ad =>
    have hsrc2 : ∀ j u, xs[j]? = some u → w.cell? (ad.add j) = some u := by
      intro j u hj
      obtain ⟨ad', hh, hc⟩ := hsrc (by have := (List.getElem?_eq_some_iff.1 hj).1; omega)
      obtain rfl := Option.some.inj hh
      exact hc j u hj
    refine wpList_append_own _ hgd s x t ho w0.heap.size e i0 z 1 bytes ht hi hz0 hz1 hz2 hz (by decide) v n ys hs hown ad xs.length c xs hx (by simp) hsrc2 hu (by unfold maxLen; omega) h2 hC.size ?_
    intro v' w' hown' hgrow _
    refine h v' w' hown' ?_
    refine hC.trans (Chg.of_grownBy (S := fun k => w0.heap.size ≤ k) hgrow ?_) (fun i hi hh => by omega)
    intro k hk
    left
    rcases hown.2 with ⟨rfl, _⟩ | ⟨g, cap, cur, rfl, hb, _⟩
    · simp [Value.ownBlock] at hk
    · have : g = k := by simpa [Value.ownBlock] using hk
      omega
end
/-- clear of a slice over a block's cells. -/
theorem run_clear_blk {P : Program} (w : World) (t e : TypeId) (z : Value) (bytes : Nat) (ht : P.underlying t = some (.slice e)) (hinfo : (P.info? e).map (fun i => (i.zero, i.size, i.bytes)) = some (some z, 1, bytes)) (hz : z.cells = #[z]) (h1 : z.oneCell' = true)
    (g o n c : Nat) (hn : 0 < n) (C : Array Value) (T : TypeId) (hg : Blk w g C T) (hfit : o + n ≤ C.size) :
    ∃ w', (∀ ty, (Builtin.clear_ #[t] ty #[.slice (some ⟨g, o, none⟩) n c]).run P w = .ok (.tuple #[]) w') ∧ Blk w' g (splA C o (List.replicate n z)) T ∧ Chg (· = g) w w' := by
  obtain ⟨i0, hi, hz0, hz1, hz2⟩ := info_parts hinfo
  have hzc : (Builtin.zeroCells z.cells n).toList = List.replicate n z := by
    rw [hz]
    apply List.ext_getElem
    · simp [Builtin.zeroCells]
    · intro i h1 h2; simp [Builtin.zeroCells, Nat.mod_one]
  have hst := run_storeCells_at P g o T (List.replicate n z) 0 C w hg (by simpa using hfit) (fun v hv => by rw [List.eq_of_mem_replicate hv]; exact h1)
  refine ⟨w.setRow g (splA C o (List.replicate n z)), fun ty => ?_, setRow_heap w g C _ T _ hg, ⟨rfl, rfl, rfl, by simp [World.setRow], fun k _ hk => setRow_other w g k _ hk⟩⟩
  obtain ⟨m, rfl⟩ : ∃ m, n = m + 1 := ⟨n - 1, by omega⟩
  simp only [Nat.add_zero] at hst
  simp [Builtin.clear_, run_underlying ht, zeroValue, typeInfo, hi, hz0, hzc, hst, splA]
end Go.Proofs.YtmjnbbdlnplmjaaDoor.Hp
