/- Words for blocks of memory and what a call changes. -/
import Derived.Test.YtmjnbbdlnplmjaaDoorProg
import Derived.WalkKit
import Derived.Deep.QuietTactic
import Derived.BigQuiet
import Derived.Laws.MakeOwn
import Derived.Lib.Hide
import Derived.Deep.DeepCutAuto
import Derived.Deep.CutBlock
import Derived.Deep.LoopGhost
import Derived.IntWalk
namespace Go.Proofs.YtmjnbbdlnplmjaaDoor.Hp
open Go.RowKit
set_option linter.unusedVariables false
set_option linter.unusedSimpArgs false
/-- Outside the blocks S the world w' is as w was; new blocks may be there. -/
structure Chg (S : Nat → Prop) (w w' : World) : Prop where
  os : w'.os = w.os
  tape : w'.tape = w.tape
  output : w'.output = w.output
  size : w.heap.size ≤ w'.heap.size
  block : ∀ k, k < w.heap.size → ¬ S k → w'.heap[k]? = w.heap[k]?
def NoB : Nat → Prop := fun _ => False
abbrev Blk (w : World) (g : Nat) (C : Array Value) (T : Nat) : Prop := w.heap[g]? = some (.cells C T (0, 0))
theorem Chg.refl (S : Nat → Prop) (w : World) : Chg S w w := ⟨rfl, rfl, rfl, Nat.le_refl _, fun _ _ _ => rfl⟩
theorem Chg.trans {S S' : Nat → Prop} {a b c : World} (h : Chg S a b) (k : Chg S' b c) (hs : ∀ i, i < a.heap.size → S' i → S i) : Chg S a c :=
  ⟨k.os.trans h.os, k.tape.trans h.tape, k.output.trans h.output, Nat.le_trans h.size k.size,
    fun i hi hn => (k.block i (Nat.lt_of_lt_of_le hi h.size) (fun x => hn (hs i hi x))).trans (h.block i hi hn)⟩
theorem Chg.mono {S S' : Nat → Prop} {a b : World} (h : Chg S a b) (hs : ∀ i, i < a.heap.size → S i → S' i) : Chg S' a b :=
  ⟨h.os, h.tape, h.output, h.size, fun i hi hn => h.block i hi (fun x => hn (hs i hi x))⟩
theorem Chg.alloc {S : Nat → Prop} {a b : World} (h : Chg S a b) (o : Obj) : Chg S a (b.alloc o) :=
  ⟨h.os, h.tape, h.output, Nat.le_trans h.size (by simp), fun i hi hn => (Below.heap_alloc b o i (Nat.lt_of_lt_of_le hi h.size)).trans (h.block i hi hn)⟩
theorem Chg.set {S : Nat → Prop} {a b : World} (h : Chg S a b) {p : Addr} (hp : S p.block ∨ a.heap.size ≤ p.block) (v : Value) : Chg S a (b.setCell p v) := by
  refine ⟨h.os, h.tape, h.output, by simpa [World.setCell] using h.size, fun i hi hn => ?_⟩
  rw [Below.heap_setCell b p v i (fun e => ?_)]
  · exact h.block i hi hn
  · subst e; exact hp.elim hn (fun x => by omega)
theorem Chg.drew {S : Nat → Prop} {a b : World} (h : Chg S a b) : Chg S a b.drew := ⟨h.os, h.tape, h.output, h.size, h.block⟩
theorem Chg.drewN {S : Nat → Prop} {a b : World} (h : Chg S a b) (n : Nat) : Chg S a (b.drewN n) := ⟨h.os, h.tape, h.output, h.size, h.block⟩
theorem Chg.below {S : Nat → Prop} {a b : World} (h : Chg S a b) {B : Nat} (hB : B ≤ a.heap.size) (hs : ∀ i, S i → B ≤ i) : Below B a b :=
  ⟨h.os, h.tape, h.output, h.size, fun k hk => h.block k (by omega) (fun x => by have := hs k x; omega)⟩
theorem Chg.of_below {S : Nat → Prop} {a b : World} (h : Below a.heap.size a b) : Chg S a b := ⟨h.os, h.tape, h.output, h.size, fun k hk _ => h.block k hk⟩
theorem Chg.of_grownBy {S : Nat → Prop} {a b : World} {row : Option Nat} (h : a.grownBy b row) (hr : ∀ k, row = some k → S k ∨ a.heap.size ≤ k) : Chg S a b :=
  ⟨h.os, h.tape, h.output, h.size, fun k hk hn => h.block k hk (fun e => (hr k e.symm).elim hn (fun x => by omega))⟩
theorem blt {w : World} {g : Nat} {o : Obj} (h : w.heap[g]? = some o) : g < w.heap.size := (Array.getElem?_eq_some_iff.1 h).1
theorem Chg.blk {S : Nat → Prop} {a b : World} (h : Chg S a b) {g : Nat} {o : Obj} (hb : a.heap[g]? = some o) (hn : ¬ S g) : b.heap[g]? = some o := (h.block g (blt hb) hn).trans hb
theorem Chg.cell {S : Nat → Prop} {a b : World} (h : Chg S a b) {p : Addr} {v : Value} (hb : a.cell? p = some v) (hn : ¬ S p.block) : b.cell? p = some v :=
  (World.cell?_of_block (w := a) (h.block p.block (World.block_lt_of_cell? a p hb) hn)).trans hb
theorem bcell {w : World} {g : Nat} {C : Array Value} {T : Nat} (h : Blk w g C T) (i : Nat) : w.cell? ⟨g, i, none⟩ = C[i]? := by simp [World.cell?, h]
theorem bfroz {w : World} {g : Nat} {C : Array Value} {T : Nat} (h : Blk w g C T) (i : Nat) : w.frozen? ⟨g, i, none⟩ = false := by simp [World.frozen?, h]
theorem bset {w : World} {g : Nat} {C : Array Value} {T : Nat} (h : Blk w g C T) (i : Nat) (v : Value) : Blk (w.setCell ⟨g, i, none⟩ v) g (C.setIfInBounds i v) T := by
  unfold Blk at *
  simp only [World.setCell, Array.getElem?_modify, if_pos, h]
  simp
theorem bfar {w : World} {g : Nat} {o : Obj} (h : w.heap[g]? = some o) {p : Addr} (hp : g ≠ p.block) (v : Value) : (w.setCell p v).heap[g]? = some o := (Below.heap_setCell w p v g hp).trans h
theorem balloc {w : World} {g : Nat} {o : Obj} (h : w.heap[g]? = some o) (o' : Obj) : (w.alloc o').heap[g]? = some o := (Below.heap_alloc w o' g (blt h)).trans h
theorem bnew (w : World) (o : Obj) : (w.alloc o).heap[w.heap.size]? = some o := by show (w.heap.push o)[w.heap.size]? = _; simp
/-- makeSlice of n zeroes of one cell. -/
theorem run_make1 {P : Program} (t e : TypeId) (z : Value) (bytes : Nat) (ht : P.underlying t = some (.slice e)) (hinfo : (P.info? e).map (fun i => (i.zero, i.size, i.bytes)) = some (some z, 1, bytes)) (hz : z.cells = #[z])
    (n : Int) (h0 : 0 ≤ n) (hn : (bytes : Int) * n ≤ 281474976710656) (hn2 : n ≤ 9223372036854775807) (w : World) :
    (Instr.makeSlice t (.int .i64 n) (.int .i64 n)).run P w = .ok (.slice (some ⟨w.heap.size, 0, none⟩) n.toNat n.toNat) (w.alloc (.cells (Array.replicate n.toNat z) e)) := by
  obtain ⟨i0, hi, hz0, hz1, hz2⟩ := info_parts hinfo
  rw [run_make w t e i0 z ht hi hz0 .i64 .i64 n n h0 (Int.le_refl _) (by rw [hz2]; exact hn) hn2]
  have : madeCells z.cells (n.toNat * i0.size) = Array.replicate n.toNat z := by
    rw [hz1, hz, Nat.mul_one]
    apply Array.ext
    · simp [madeCells]
    · intro i h1 h2; simp [madeCells, Nat.mod_one]
  rw [this]
theorem bnew' {w : World} {n : Nat} (h : n = w.heap.size) (o : Obj) : (w.alloc o).heap[n]? = some o := by subst h; exact bnew w o
/-- A slice of whole numbers that is read. -/
def Rd (w : World) (k : IntKind) (A : Option Addr) (xs : List Int) : Prop :=
  xs.length ≤ 140737488351232 ∧ (0 < xs.length → ∃ ad, A = some ad ∧ ∀ j, j < xs.length → w.cell? (ad.add j) = some (.int k (xs.getD j 0)))
def Off (A : Option Addr) (S : Nat → Prop) : Prop := ∀ ad, A = some ad → ¬ S ad.block
theorem add_block' (a : Addr) (i : Nat) : (a.add i).block = a.block := by unfold Addr.add; split <;> rfl
theorem Rd.chg {S : Nat → Prop} {w w' : World} {k : IntKind} {A : Option Addr} {xs : List Int} (h : Rd w k A xs) (hc : Chg S w w') (ho : 0 < xs.length → Off A S) : Rd w' k A xs :=
  ⟨h.1, fun hn => by
    obtain ⟨ad, e, hcell⟩ := h.2 hn
    exact ⟨ad, e, fun j hj => hc.cell (hcell j hj) (by rw [add_block']; exact ho hn ad e)⟩⟩
theorem Rd.at_ {w : World} {k : IntKind} {A : Option Addr} {xs : List Int} (h : Rd w k A xs) (j : Nat) (hj : j < xs.length) : ∃ ad, A = some ad ∧ w.cell? (ad.add j) = some (.int k (xs.getD j 0)) := by
  obtain ⟨ad, e, hc⟩ := h.2 (by omega)
  exact ⟨ad, e, hc j hj⟩
theorem Rd.lt {w : World} {k : IntKind} {A : Option Addr} {xs : List Int} (h : Rd w k A xs) (hn : 0 < xs.length) (ad : Addr) (e : A = some ad) : ad.block < w.heap.size := by
  obtain ⟨ad', e', hc⟩ := h.2 hn
  have : ad' = ad := by rw [e'] at e; exact Option.some.inj e
  subst this
  have := World.block_lt_of_cell? w _ (hc 0 hn)
  rwa [add_block'] at this
theorem take_succ_getD (xs : List Int) (j : Nat) (h : j < xs.length) : xs.take (j + 1) = xs.take j ++ [xs.getD j 0] := by
  rw [List.take_succ_eq_append_getElem h]; simp [h]
section
variable {P : Program} {ops : Array Oper} {rest : List Oper} {o : Oper} {a : Act} {Q : Exit → Act → World → Prop}
/-- append of one value that lies in a new block: a slice of the call's own. -/
theorem append_one {w0 w : World} {S : Nat → Prop} (hgd : o.guard = none) (s x : Operand) (t e : TypeId) (ho : o.op = .call { callee := .builtin .append, args := #[s, x], argTypes := #[t, t] })
    (z : Value) (bytes : Nat) (ht : P.underlying t = some (.slice e)) (hinfo : (P.info? e).map (fun i => (i.zero, i.size, i.bytes)) = some (some z, 1, bytes)) (hz : z.cells.size = 1)
    (v : Value) (n : Nat) (xs : List Value) (hs : a.eval s = v) (hC : Chg S w0 w) (hown : w.ownsRow w0.heap.size e 1 v n xs) (u : Value) (T : TypeId) (hx : a.eval x = .slice (some ⟨w.heap.size, 0, none⟩) 1 1) (hu : u.oneCell' = true)
    (h1 : n + 1 ≤ 9223372036854775807) (h2 : (n + 1) * bytes ≤ 140737488355328)
    (h : ∀ v' w', w'.ownsRow w0.heap.size e 1 v' (n + 1) (xs ++ [u]) → Chg S w0 w' → wpList P ops Q rest (a.put o.dst v') w') :
    wpList P ops Q (o :: rest) a (w.alloc (.cells #[u] T)) := by
  obtain ⟨i0, hi, hz0, hz1, hz2⟩ := info_parts hinfo
  refine wpList_append_own _ hgd s x t ho w0.heap.size e i0 z 1 bytes ht hi hz0 hz1 hz2 hz (by decide) v n xs hs (hown.alloc _) ⟨w.heap.size, 0, none⟩ 1 1 [u] hx rfl ?_ ?_ (by unfold maxLen; omega) h2 (by have := hC.size; simp; omega) ?_
  · intro j u' hj
    have hb : Blk (w.alloc (.cells #[u] T)) w.heap.size #[u] T := bnew w _
    have : j = 0 := by
      have := (List.getElem?_eq_some_iff.1 hj).1
      simp at this; omega
    subst this
    have e : (⟨w.heap.size, 0, none⟩ : Addr).add 0 = ⟨w.heap.size, 0, none⟩ := rfl
    rw [e, bcell hb 0]
    simpa using hj
  · intro u' hu'
    have : u' = u := by simpa using hu'
    subst this; exact hu
  · intro v' w' hown' hgrow _
    refine h v' w' hown' ?_
    have hC2 : Chg S w0 (w.alloc (.cells #[u] T)) := hC.alloc _
    refine hC2.trans (Chg.of_grownBy (S := fun k => w0.heap.size ≤ k) hgrow ?_) ?_
    · intro k hk
      left
      rcases (hown.alloc (.cells #[u] T)).2 with ⟨rfl, _⟩ | ⟨g, cap, cur, rfl, hb, _⟩
      · simp [Value.ownBlock] at hk
      · have : g = k := by simpa [Value.ownBlock] using hk
        omega
    · intro i hi hh; omega
end
/-- What is owned, read. -/
theorem own_rd {w : World} {base n : Nat} {e : TypeId} {k : IntKind} {v : Value} {xs : List Int} (h : w.ownsRow base e 1 v n (xs.map (Value.int k))) (hn : n ≤ 140737488351232) :
    ∃ A c, v = .slice A n c ∧ xs.length = n ∧ n ≤ c ∧ Rd w k A xs ∧ Off A (fun i => i < base) := by
  have hl : xs.length = n := by have := h.1; simpa using this
  rcases h.2 with ⟨rfl, rfl⟩ | ⟨g, cap, cur, rfl, hb, hh, h1, h2, h3⟩
  · exact ⟨none, 0, rfl, hl, by omega, ⟨by omega, fun hp => absurd hp (by omega)⟩, fun ad e => by cases e⟩
  · refine ⟨_, cap, rfl, hl, h1, ⟨by omega, fun hp => ⟨_, rfl, fun j hj => ?_⟩⟩, fun ad e => ?_⟩
    · refine h.cells (g := g) rfl j _ ?_
      simp [hj]
    · have : ad = ⟨g, 0, none⟩ := (Option.some.inj e).symm
      subst this
      show ¬ (g < base)
      omega
theorem Rd.old {w : World} {k : IntKind} {A : Option Addr} {xs : List Int} (h : Rd w k A xs) {S : Nat → Prop} (hS : ∀ i, S i → w.heap.size ≤ i) : 0 < xs.length → Off A S :=
  fun hn ad e hh => by have := h.lt hn ad e; have := hS _ hh; omega
/-- A slice of whole numbers that came in: all its numbers, up to the capacity. -/
def IsRow (k : IntKind) (w : World) (a : Option Addr) (len cap : Nat) (zs : List Int) : Prop :=
  (a = none ∧ len = 0 ∧ cap = 0 ∧ zs = []) ∨
  ∃ x, a = some x ∧ len ≤ cap ∧ cap ≤ maxLen ∧ zs.length = cap ∧ (∀ i, i < zs.length → w.cell? (x.add i) = some (.int k (zs.getD i 0))) ∧ ∀ n ∈ zs, (Lit.int k n).wf = true
theorem rd_of_row {k : IntKind} {w : World} {a : Option Addr} {len cap : Nat} {zs : List Int} (h : IsRow k w a len cap zs) (hl : len ≤ 140737488351232) :
    Rd w k a (zs.take len) ∧ (zs.take len).length = len ∧ len ≤ cap ∧ ∀ n ∈ zs.take len, (Lit.int k n).wf = true := by
  rcases h with ⟨rfl, rfl, rfl, rfl⟩ | ⟨x, rfl, h1, h2, h3, h4, h5⟩
  · exact ⟨⟨by simp, fun hh => absurd hh (by simp)⟩, rfl, Nat.le_refl _, fun n hn => by simp at hn⟩
  · have hlen : (zs.take len).length = len := by rw [List.length_take]; omega
    refine ⟨⟨by omega, fun hh => ⟨x, rfl, fun j hj => ?_⟩⟩, hlen, h1, fun n hn => h5 n (List.mem_of_mem_take hn)⟩
    rw [hlen] at hj
    rw [h4 j (by omega)]
    simp [hj, List.getD_eq_getElem?_getD, List.getElem?_take]
end Go.Proofs.YtmjnbbdlnplmjaaDoor.Hp
