/- Several texts in one (a claim holds at most 60 files). -/
import Derived.Test.YtolojkfpokmdkaaRRProg
import Derived.WalkKit
import Derived.Deep.QuietTactic
import Derived.BigQuiet
import Derived.Laws.MakeOwn
import Derived.Lib.Hide
import Derived.Deep.DeepCutAuto
import Derived.Deep.CutBlock
import Derived.Deep.LoopGhost
import Derived.IntWalk
import Derived.Laws.CopyOwn
import Derived.Laws.Slices
import Derived.Laws.AppendOwnNone
import Derived.Lib.SliceRun
import Derived.Lib.AppendZerosOnto
import Derived.Laws.Rows
import Derived.Laws.Cells
import Derived.Deep.Slices
import Derived.Deep.Fields
import Derived.ChangeSame
import Derived.Deep.AppendLies
import Derived.Laws.OwnMore
import Derived.MapKept
import Derived.MapFrom
import Derived.Maps.Range
import Derived.Maps.RangeWalk
import Derived.Laws.BitsLemmas
import Derived.OpenShut
-- XHp
namespace Go.Proofs.YtolojkfpokmdkaaRR.Hp
open Go.RowKit
set_option linter.unusedVariables false
set_option linter.unusedSimpArgs false
/-- Outside the blocks S the world w' is as w was; new blocks may be there. -/
structure Chg (S : Nat → Prop) (w w' : World) : Prop where
  os : w'.os = w.os
  tape : w'.tape = w.tape
  output : w'.output = w.output
  size : w.heap.size ≤ w'.heap.size
  block : ∀ k, k < w.heap.size → ¬ S k → w'.heap[k]? = w.heap[k]?
def NoB : Nat → Prop := fun _ => False
abbrev Blk (w : World) (g : Nat) (C : Array Value) (T : Nat) : Prop := w.heap[g]? = some (.cells C T (0, 0))
theorem Chg.refl (S : Nat → Prop) (w : World) : Chg S w w := ⟨rfl, rfl, rfl, Nat.le_refl _, fun _ _ _ => rfl⟩
theorem Chg.trans {S S' : Nat → Prop} {a b c : World} (h : Chg S a b) (k : Chg S' b c) (hs : ∀ i, i < a.heap.size → S' i → S i) : Chg S a c :=
  ⟨k.os.trans h.os, k.tape.trans h.tape, k.output.trans h.output, Nat.le_trans h.size k.size,
    fun i hi hn => (k.block i (Nat.lt_of_lt_of_le hi h.size) (fun x => hn (hs i hi x))).trans (h.block i hi hn)⟩
theorem Chg.mono {S S' : Nat → Prop} {a b : World} (h : Chg S a b) (hs : ∀ i, i < a.heap.size → S i → S' i) : Chg S' a b :=
  ⟨h.os, h.tape, h.output, h.size, fun i hi hn => h.block i hi (fun x => hn (hs i hi x))⟩
theorem Chg.alloc {S : Nat → Prop} {a b : World} (h : Chg S a b) (o : Obj) : Chg S a (b.alloc o) :=
  ⟨h.os, h.tape, h.output, Nat.le_trans h.size (by simp), fun i hi hn => (Below.heap_alloc b o i (Nat.lt_of_lt_of_le hi h.size)).trans (h.block i hi hn)⟩
theorem Chg.set {S : Nat → Prop} {a b : World} (h : Chg S a b) {p : Addr} (hp : S p.block ∨ a.heap.size ≤ p.block) (v : Value) : Chg S a (b.setCell p v) := by
  refine ⟨h.os, h.tape, h.output, by simpa [World.setCell] using h.size, fun i hi hn => ?_⟩
  rw [Below.heap_setCell b p v i (fun e => ?_)]
  · exact h.block i hi hn
  · subst e; exact hp.elim hn (fun x => by omega)
theorem Chg.drew {S : Nat → Prop} {a b : World} (h : Chg S a b) : Chg S a b.drew := ⟨h.os, h.tape, h.output, h.size, h.block⟩
theorem Chg.drewN {S : Nat → Prop} {a b : World} (h : Chg S a b) (n : Nat) : Chg S a (b.drewN n) := ⟨h.os, h.tape, h.output, h.size, h.block⟩
theorem Chg.below {S : Nat → Prop} {a b : World} (h : Chg S a b) {B : Nat} (hB : B ≤ a.heap.size) (hs : ∀ i, S i → B ≤ i) : Below B a b :=
  ⟨h.os, h.tape, h.output, h.size, fun k hk => h.block k (by omega) (fun x => by have := hs k x; omega)⟩
theorem Chg.of_below {S : Nat → Prop} {a b : World} (h : Below a.heap.size a b) : Chg S a b := ⟨h.os, h.tape, h.output, h.size, fun k hk _ => h.block k hk⟩
theorem Chg.of_grownBy {S : Nat → Prop} {a b : World} {row : Option Nat} (h : a.grownBy b row) (hr : ∀ k, row = some k → S k ∨ a.heap.size ≤ k) : Chg S a b :=
  ⟨h.os, h.tape, h.output, h.size, fun k hk hn => h.block k hk (fun e => (hr k e.symm).elim hn (fun x => by omega))⟩
theorem blt {w : World} {g : Nat} {o : Obj} (h : w.heap[g]? = some o) : g < w.heap.size := (Array.getElem?_eq_some_iff.1 h).1
theorem Chg.blk {S : Nat → Prop} {a b : World} (h : Chg S a b) {g : Nat} {o : Obj} (hb : a.heap[g]? = some o) (hn : ¬ S g) : b.heap[g]? = some o := (h.block g (blt hb) hn).trans hb
theorem Chg.cell {S : Nat → Prop} {a b : World} (h : Chg S a b) {p : Addr} {v : Value} (hb : a.cell? p = some v) (hn : ¬ S p.block) : b.cell? p = some v :=
  (World.cell?_of_block (w := a) (h.block p.block (World.block_lt_of_cell? a p hb) hn)).trans hb
theorem bcell {w : World} {g : Nat} {C : Array Value} {T : Nat} (h : Blk w g C T) (i : Nat) : w.cell? ⟨g, i, none⟩ = C[i]? := by simp [World.cell?, h]
theorem bfroz {w : World} {g : Nat} {C : Array Value} {T : Nat} (h : Blk w g C T) (i : Nat) : w.frozen? ⟨g, i, none⟩ = false := by simp [World.frozen?, h]
theorem bset {w : World} {g : Nat} {C : Array Value} {T : Nat} (h : Blk w g C T) (i : Nat) (v : Value) : Blk (w.setCell ⟨g, i, none⟩ v) g (C.setIfInBounds i v) T := by
  unfold Blk at *
  simp only [World.setCell, Array.getElem?_modify, if_pos, h]
  simp
theorem bfar {w : World} {g : Nat} {o : Obj} (h : w.heap[g]? = some o) {p : Addr} (hp : g ≠ p.block) (v : Value) : (w.setCell p v).heap[g]? = some o := (Below.heap_setCell w p v g hp).trans h
theorem balloc {w : World} {g : Nat} {o : Obj} (h : w.heap[g]? = some o) (o' : Obj) : (w.alloc o').heap[g]? = some o := (Below.heap_alloc w o' g (blt h)).trans h
theorem bnew (w : World) (o : Obj) : (w.alloc o).heap[w.heap.size]? = some o := by show (w.heap.push o)[w.heap.size]? = _; simp
/-- makeSlice of n zeroes of one cell. -/
theorem run_make1 {P : Program} (t e : TypeId) (z : Value) (bytes : Nat) (ht : P.underlying t = some (.slice e)) (hinfo : (P.info? e).map (fun i => (i.zero, i.size, i.bytes)) = some (some z, 1, bytes)) (hz : z.cells = #[z])
    (n : Int) (h0 : 0 ≤ n) (hn : (bytes : Int) * n ≤ 281474976710656) (hn2 : n ≤ 9223372036854775807) (w : World) :
    (Instr.makeSlice t (.int .i64 n) (.int .i64 n)).run P w = .ok (.slice (some ⟨w.heap.size, 0, none⟩) n.toNat n.toNat) (w.alloc (.cells (Array.replicate n.toNat z) e)) := by
  obtain ⟨i0, hi, hz0, hz1, hz2⟩ := info_parts hinfo
  rw [run_make w t e i0 z ht hi hz0 .i64 .i64 n n h0 (Int.le_refl _) (by rw [hz2]; exact hn) hn2]
  have : madeCells z.cells (n.toNat * i0.size) = Array.replicate n.toNat z := by
    rw [hz1, hz, Nat.mul_one]
    apply Array.ext
    · simp [madeCells]
    · intro i h1 h2; simp [madeCells, Nat.mod_one]
  rw [this]
theorem bnew' {w : World} {n : Nat} (h : n = w.heap.size) (o : Obj) : (w.alloc o).heap[n]? = some o := by subst h; exact bnew w o
/-- A slice of whole numbers that is read. -/
def Rd (w : World) (k : IntKind) (A : Option Addr) (xs : List Int) : Prop :=
  xs.length ≤ 140737488351232 ∧ (0 < xs.length → ∃ ad, A = some ad ∧ ∀ j, j < xs.length → w.cell? (ad.add j) = some (.int k (xs.getD j 0)))
def Off (A : Option Addr) (S : Nat → Prop) : Prop := ∀ ad, A = some ad → ¬ S ad.block
theorem add_block' (a : Addr) (i : Nat) : (a.add i).block = a.block := by unfold Addr.add; split <;> rfl
theorem Rd.chg {S : Nat → Prop} {w w' : World} {k : IntKind} {A : Option Addr} {xs : List Int} (h : Rd w k A xs) (hc : Chg S w w') (ho : 0 < xs.length → Off A S) : Rd w' k A xs :=
  ⟨h.1, fun hn => by
    obtain ⟨ad, e, hcell⟩ := h.2 hn
    exact ⟨ad, e, fun j hj => hc.cell (hcell j hj) (by rw [add_block']; exact ho hn ad e)⟩⟩
theorem Rd.at_ {w : World} {k : IntKind} {A : Option Addr} {xs : List Int} (h : Rd w k A xs) (j : Nat) (hj : j < xs.length) : ∃ ad, A = some ad ∧ w.cell? (ad.add j) = some (.int k (xs.getD j 0)) := by
  obtain ⟨ad, e, hc⟩ := h.2 (by omega)
  exact ⟨ad, e, hc j hj⟩
theorem Rd.lt {w : World} {k : IntKind} {A : Option Addr} {xs : List Int} (h : Rd w k A xs) (hn : 0 < xs.length) (ad : Addr) (e : A = some ad) : ad.block < w.heap.size := by
  obtain ⟨ad', e', hc⟩ := h.2 hn
  have : ad' = ad := by rw [e'] at e; exact Option.some.inj e
  subst this
  have := World.block_lt_of_cell? w _ (hc 0 hn)
  rwa [add_block'] at this
theorem take_succ_getD (xs : List Int) (j : Nat) (h : j < xs.length) : xs.take (j + 1) = xs.take j ++ [xs.getD j 0] := by
  rw [List.take_succ_eq_append_getElem h]; simp [h]
section
variable {P : Program} {ops : Array Oper} {rest : List Oper} {o : Oper} {a : Act} {Q : Exit → Act → World → Prop}
/-- append of one value that lies in a new block: a slice of the call's own. -/
theorem append_one {w0 w : World} {S : Nat → Prop} (hgd : o.guard = none) (s x : Operand) (t e : TypeId) (ho : o.op = .call { callee := .builtin .append, args := #[s, x], argTypes := #[t, t] })
    (z : Value) (bytes : Nat) (ht : P.underlying t = some (.slice e)) (hinfo : (P.info? e).map (fun i => (i.zero, i.size, i.bytes)) = some (some z, 1, bytes)) (hz : z.cells.size = 1)
    (v : Value) (n : Nat) (xs : List Value) (hs : a.eval s = v) (hC : Chg S w0 w) (hown : w.ownsRow w0.heap.size e 1 v n xs) (u : Value) (T : TypeId) (hx : a.eval x = .slice (some ⟨w.heap.size, 0, none⟩) 1 1) (hu : u.oneCell' = true)
    (h1 : n + 1 ≤ 9223372036854775807) (h2 : (n + 1) * bytes ≤ 140737488355328)
    (h : ∀ v' w', w'.ownsRow w0.heap.size e 1 v' (n + 1) (xs ++ [u]) → Chg S w0 w' → wpList P ops Q rest (a.put o.dst v') w') :
    wpList P ops Q (o :: rest) a (w.alloc (.cells #[u] T)) := by
  obtain ⟨i0, hi, hz0, hz1, hz2⟩ := info_parts hinfo
  refine wpList_append_own _ hgd s x t ho w0.heap.size e i0 z 1 bytes ht hi hz0 hz1 hz2 hz (by decide) v n xs hs (hown.alloc _) ⟨w.heap.size, 0, none⟩ 1 1 [u] hx rfl ?_ ?_ (by unfold maxLen; omega) h2 (by have := hC.size; simp; omega) ?_
  · intro j u' hj
    have hb : Blk (w.alloc (.cells #[u] T)) w.heap.size #[u] T := bnew w _
    have : j = 0 := by
      have := (List.getElem?_eq_some_iff.1 hj).1
      simp at this; omega
    subst this
    have e : (⟨w.heap.size, 0, none⟩ : Addr).add 0 = ⟨w.heap.size, 0, none⟩ := rfl
    rw [e, bcell hb 0]
    simpa using hj
  · intro u' hu'
    have : u' = u := by simpa using hu'
    subst this; exact hu
  · intro v' w' hown' hgrow _
    refine h v' w' hown' ?_
    have hC2 : Chg S w0 (w.alloc (.cells #[u] T)) := hC.alloc _
    refine hC2.trans (Chg.of_grownBy (S := fun k => w0.heap.size ≤ k) hgrow ?_) ?_
    · intro k hk
      left
      rcases (hown.alloc (.cells #[u] T)).2 with ⟨rfl, _⟩ | ⟨g, cap, cur, rfl, hb, _⟩
      · simp [Value.ownBlock] at hk
      · have : g = k := by simpa [Value.ownBlock] using hk
        omega
    · intro i hi hh; omega
end
/-- What is owned, read. -/
theorem own_rd {w : World} {base n : Nat} {e : TypeId} {k : IntKind} {v : Value} {xs : List Int} (h : w.ownsRow base e 1 v n (xs.map (Value.int k))) (hn : n ≤ 140737488351232) :
    ∃ A c, v = .slice A n c ∧ xs.length = n ∧ n ≤ c ∧ Rd w k A xs ∧ Off A (fun i => i < base) := by
  have hl : xs.length = n := by have := h.1; simpa using this
  rcases h.2 with ⟨rfl, rfl⟩ | ⟨g, cap, cur, rfl, hb, hh, h1, h2, h3⟩
  · exact ⟨none, 0, rfl, hl, by omega, ⟨by omega, fun hp => absurd hp (by omega)⟩, fun ad e => by cases e⟩
  · refine ⟨_, cap, rfl, hl, h1, ⟨by omega, fun hp => ⟨_, rfl, fun j hj => ?_⟩⟩, fun ad e => ?_⟩
    · refine h.cells (g := g) rfl j _ ?_
      simp [hj]
    · have : ad = ⟨g, 0, none⟩ := (Option.some.inj e).symm
      subst this
      show ¬ (g < base)
      omega
theorem Rd.old {w : World} {k : IntKind} {A : Option Addr} {xs : List Int} (h : Rd w k A xs) {S : Nat → Prop} (hS : ∀ i, S i → w.heap.size ≤ i) : 0 < xs.length → Off A S :=
  fun hn ad e hh => by have := h.lt hn ad e; have := hS _ hh; omega
/-- A slice of whole numbers that came in: all its numbers, up to the capacity. -/
def IsRow (k : IntKind) (w : World) (a : Option Addr) (len cap : Nat) (zs : List Int) : Prop :=
  (a = none ∧ len = 0 ∧ cap = 0 ∧ zs = []) ∨
  ∃ x, a = some x ∧ len ≤ cap ∧ cap ≤ maxLen ∧ zs.length = cap ∧ (∀ i, i < zs.length → w.cell? (x.add i) = some (.int k (zs.getD i 0))) ∧ ∀ n ∈ zs, (Lit.int k n).wf = true
theorem rd_of_row {k : IntKind} {w : World} {a : Option Addr} {len cap : Nat} {zs : List Int} (h : IsRow k w a len cap zs) (hl : len ≤ 140737488351232) :
    Rd w k a (zs.take len) ∧ (zs.take len).length = len ∧ len ≤ cap ∧ ∀ n ∈ zs.take len, (Lit.int k n).wf = true := by
  rcases h with ⟨rfl, rfl, rfl, rfl⟩ | ⟨x, rfl, h1, h2, h3, h4, h5⟩
  · exact ⟨⟨by simp, fun hh => absurd hh (by simp)⟩, rfl, Nat.le_refl _, fun n hn => by simp at hn⟩
  · have hlen : (zs.take len).length = len := by rw [List.length_take]; omega
    refine ⟨⟨by omega, fun hh => ⟨x, rfl, fun j hj => ?_⟩⟩, hlen, h1, fun n hn => h5 n (List.mem_of_mem_take hn)⟩
    rw [hlen] at hj
    rw [h4 j (by omega)]
    simp [hj, List.getD_eq_getElem?_getD, List.getElem?_take]
end Go.Proofs.YtolojkfpokmdkaaRR.Hp

-- XHpB
namespace Go.Proofs.YtolojkfpokmdkaaRR.Hp
open Go.RowKit
set_option linter.unusedVariables false
set_option linter.unusedSimpArgs false
/-- cells with some of them put in the place of others -/
def splA (C : Array Value) (off : Nat) (xs : List Value) : Array Value := (C.toList.take off ++ xs ++ C.toList.drop (off + xs.length)).toArray
theorem splA_size (C : Array Value) (off : Nat) (xs : List Value) (h : off + xs.length ≤ C.size) : (splA C off xs).size = C.size := by simp [splA]; omega
theorem splA_in (C : Array Value) (off : Nat) (xs : List Value) (h : off + xs.length ≤ C.size) (j : Nat) (hj : j < xs.length) : (splA C off xs)[off + j]? = xs[j]? := by
  have h1 : (C.toList.take off).length = off := by simp; omega
  simp only [splA, List.getElem?_toArray, List.append_assoc]
  rw [List.getElem?_append_right (by omega), h1, Nat.add_sub_cancel_left, List.getElem?_append_left hj]
theorem splA_out (C : Array Value) (off : Nat) (xs : List Value) (h : off + xs.length ≤ C.size) (i : Nat) (hi : i < off ∨ off + xs.length ≤ i) : (splA C off xs)[i]? = C[i]? := by
  have h1 : (C.toList.take off).length = off := by simp; omega
  simp only [splA, List.getElem?_toArray, List.append_assoc]
  rcases hi with hi | hi
  · rw [List.getElem?_append_left (by omega), List.getElem?_take, if_pos hi]; simp
  · rw [List.getElem?_append_right (by omega), h1, List.getElem?_append_right (by omega), List.getElem?_drop]
    rw [show off + xs.length + (i - off - xs.length) = i from by omega]; simp
section
variable {P : Program} {ops : Array Oper} {rest : List Oper} {o : Oper} {a : Act} {Q : Exit → Act → World → Prop}
/-- copy into a block. -/
theorem copy_into {w0 w : World} {S : Nat → Prop} (hgd : o.guard = none) (d s : Operand) (dT sT : TypeId) (ho : o.op = .call { callee := .builtin .copy, args := #[d, s], argTypes := #[dT, sT] })
    (elem : TypeId) (hu : P.underlying dT = some (.slice elem)) (hsz : (P.info? elem).map (·.size) = some 1)
    (dp sp : Option Addr) (dLen dCap sLen sCap : Nat) (hd : a.eval d = .slice dp dLen dCap) (hs : a.eval s = .slice sp sLen sCap)
    (g off : Nat) (C : Array Value) (T : TypeId) (hg : Blk w g C T) (xs : List Value) (hn : xs.length = Nat.min sLen dLen) (hdp : 0 < xs.length → dp = some ⟨g, off, none⟩)
    (hsrc : 0 < xs.length → ∃ ad, sp = some ad ∧ ∀ j v, xs[j]? = some v → w.cell? (ad.add j) = some v) (hfit : off + xs.length ≤ C.size) (h1 : ∀ v ∈ xs, v.oneCell' = true)
    (hC : Chg S w0 w) (hS : S g ∨ w0.heap.size ≤ g)
    (h : ∀ w', Blk w' g (splA C off xs) T → Chg (· = g) w w' → Chg S w0 w' → wpList P ops Q rest (a.put o.dst (goInt xs.length)) w') :
    wpList P ops Q (o :: rest) a w := by
  by_cases h0 : xs.length = 0
  · obtain rfl : xs = [] := List.eq_nil_of_length_eq_zero h0
    refine wpList_copy_nothing hgd d s dT sT ho elem hu hsz dp sp dLen dCap sLen sCap hd hs (by simpa using hn.symm) ?_
    exact h w (by simpa [splA] using hg) (Chg.refl _ _) hC
  · obtain rfl := hdp (by omega)
    obtain ⟨ad, rfl, hsrc2⟩ := hsrc (by omega)
    refine wpList_copy_own hgd d s dT sT ho elem hu hsz g off dLen dCap ad sLen sCap hd hs C T hg xs hn hsrc2 hfit h1 ?_
    have e : (C.toList.take off ++ (xs ++ C.toList.drop (off + xs.length))).toArray = splA C off xs := by simp [splA]
    rw [e]
    have hc : Chg (· = g) w (w.setRow g (splA C off xs)) := ⟨rfl, rfl, rfl, by simp [World.setRow], fun k _ hk => setRow_other w g k _ hk⟩
    exact h _ (setRow_heap w g C _ T _ hg) hc (hC.trans ⟨rfl, rfl, rfl, by simp [World.setRow], fun k _ hk => setRow_other w g k _ (fun e => hk e)⟩ (fun i hi hh => hS.elim (fun x => by subst hh; exact x) (fun x => by subst hh; omega)))
end
theorem run_sliceAt_lhm {P : Program} (w : World) (t : TypeId) (a : Addr) (ht : P.underlying t = some (.array (P.arrayLen t) (P.elem t))) (N : Nat) (hN : P.arrayLen t = N) (i : TypeInfo) (hi : P.info? (P.elem t) = some i) (h1' : i.size = 1) (kl kh km : IntKind) (l h m : Int) (h0 : 0 ≤ l) (h1 : l ≤ h) (h2 : h ≤ m) (h3 : m ≤ N) :
    (Instr.sliceAt t (.pointer (some a)) (some (.int kl l)) (some (.int kh h)) (some (.int km m))).run P w = .ok (.slice (some (if m.toNat = l.toNat then a else a.add l.toNat)) (h.toNat - l.toNat) (m.toNat - l.toNat)) w := by
  subst hN
  have eh : (h.toNat : Int) = h := Int.toNat_of_nonneg (by omega)
  have em : (m.toNat : Int) = m := Int.toNat_of_nonneg (by omega)
  simp [Instr.sliceAt, Instr.sureAddr, run_underlying ht, Instr.sliceBounds, run_sliceBound, sizeOf, typeInfo, hi, h1', *, eh, em, (by omega : 0 ≤ l), (by omega : 0 ≤ h), (by omega : 0 ≤ m)]
section
variable {P : Program} {ops : Array Oper} {rest : List Oper} {o : Oper} {a : Act} {Q : Exit → Act → World → Prop}
/-- append of all that another slice holds: onto a slice of the call's own. -/
theorem append_src {w0 w : World} {S : Nat → Prop} (hgd : o.guard = none) (s x : Operand) (t e : TypeId) (ho : o.op = .call { callee := .builtin .append, args := #[s, x], argTypes := #[t, t] })
    (z : Value) (bytes : Nat) (ht : P.underlying t = some (.slice e)) (hinfo : (P.info? e).map (fun i => (i.zero, i.size, i.bytes)) = some (some z, 1, bytes)) (hz : z.cells.size = 1)
    (v : Value) (n : Nat) (ys : List Value) (hs : a.eval s = v) (hC : Chg S w0 w) (hown : w.ownsRow w0.heap.size e 1 v n ys) (xs : List Value) (sp : Option Addr) (c : Nat) (hx : a.eval x = .slice sp xs.length c) (hnil : sp = none → c = 0)
    (hsrc : 0 < xs.length → ∃ ad, sp = some ad ∧ ∀ j v, xs[j]? = some v → w.cell? (ad.add j) = some v) (hu : ∀ u ∈ xs, u.oneCell' = true)
    (h1 : n + xs.length ≤ 9223372036854775807) (h2 : (n + xs.length) * bytes ≤ 140737488355328)
    (h : ∀ v' w', w'.ownsRow w0.heap.size e 1 v' (n + xs.length) (ys ++ xs) → Chg S w0 w' → wpList P ops Q rest (a.put o.dst v') w') :
    wpList P ops Q (o :: rest) a w := by
  obtain ⟨i0, hi, hz0, hz1, hz2⟩ := info_parts hinfo
  cases sp with
  | none =>
    have hx0 : xs = [] := by
      by_cases c : 0 < xs.length
      · obtain ⟨ad, hh, _⟩ := hsrc c; cases hh
      · exact List.eq_nil_of_length_eq_zero (by omega)
    subst hx0
    obtain rfl := hnil rfl
    refine wpList_append_own_none hgd s x t ho w0.heap.size e i0 1 ht hi v n ys hs hown hx ?_
    exact h v w (by simpa using hown) hC
  | some ad =>
    have hsrc2 : ∀ j u, xs[j]? = some u → w.cell? (ad.add j) = some u := by
      intro j u hj
      obtain ⟨ad', hh, hc⟩ := hsrc (by have := (List.getElem?_eq_some_iff.1 hj).1; omega)
      obtain rfl := Option.some.inj hh
      exact hc j u hj
    refine wpList_append_own _ hgd s x t ho w0.heap.size e i0 z 1 bytes ht hi hz0 hz1 hz2 hz (by decide) v n ys hs hown ad xs.length c xs hx (by simp) hsrc2 hu (by unfold maxLen; omega) h2 hC.size ?_
    intro v' w' hown' hgrow _
    refine h v' w' hown' ?_
    refine hC.trans (Chg.of_grownBy (S := fun k => w0.heap.size ≤ k) hgrow ?_) (fun i hi hh => by omega)
    intro k hk
    left
    rcases hown.2 with ⟨rfl, _⟩ | ⟨g, cap, cur, rfl, hb, _⟩
    · simp [Value.ownBlock] at hk
    · have : g = k := by simpa [Value.ownBlock] using hk
      omega
end
/-- clear of a slice over a block's cells. -/
theorem run_clear_blk {P : Program} (w : World) (t e : TypeId) (z : Value) (bytes : Nat) (ht : P.underlying t = some (.slice e)) (hinfo : (P.info? e).map (fun i => (i.zero, i.size, i.bytes)) = some (some z, 1, bytes)) (hz : z.cells = #[z]) (h1 : z.oneCell' = true)
    (g o n c : Nat) (hn : 0 < n) (C : Array Value) (T : TypeId) (hg : Blk w g C T) (hfit : o + n ≤ C.size) :
    ∃ w', (∀ ty, (Builtin.clear_ #[t] ty #[.slice (some ⟨g, o, none⟩) n c]).run P w = .ok (.tuple #[]) w') ∧ Blk w' g (splA C o (List.replicate n z)) T ∧ Chg (· = g) w w' := by
  obtain ⟨i0, hi, hz0, hz1, hz2⟩ := info_parts hinfo
  have hzc : (Builtin.zeroCells z.cells n).toList = List.replicate n z := by
    rw [hz]
    apply List.ext_getElem
    · simp [Builtin.zeroCells]
    · intro i h1 h2; simp [Builtin.zeroCells, Nat.mod_one]
  have hst := run_storeCells_at P g o T (List.replicate n z) 0 C w hg (by simpa using hfit) (fun v hv => by rw [List.eq_of_mem_replicate hv]; exact h1)
  refine ⟨w.setRow g (splA C o (List.replicate n z)), fun ty => ?_, setRow_heap w g C _ T _ hg, ⟨rfl, rfl, rfl, by simp [World.setRow], fun k _ hk => setRow_other w g k _ hk⟩⟩
  obtain ⟨m, rfl⟩ : ∃ m, n = m + 1 := ⟨n - 1, by omega⟩
  simp only [Nat.add_zero] at hst
  simp [Builtin.clear_, run_underlying ht, zeroValue, typeInfo, hi, hz0, hzc, hst, splA]
end Go.Proofs.YtolojkfpokmdkaaRR.Hp

-- XHpC
namespace Go.Proofs.YtolojkfpokmdkaaRR.Hp
open Go.RowKit
set_option linter.unusedVariables false
set_option linter.unusedSimpArgs false
theorem zeroCells_one (z : Value) (n : Nat) : Builtin.zeroCells #[z] n = Array.replicate n z := by
  apply Array.ext
  · simp [Builtin.zeroCells]
  · intro i h1 h2; simp [Builtin.zeroCells, Nat.mod_one]
theorem run_append_room_zeros {P : Program} (w : World) (t tn ty e : TypeId) (i : TypeInfo) (z : Value) (kq kn : IntKind) (ht : P.underlying t = some (.slice e)) (htn : P.underlying tn = some (.int kn)) (hi : P.info? e = some i) (hz : i.zero = some z) (h1 : i.size = 1) (hz1 : z.cells = #[z]) (h1c : z.oneCell' = true)
    (g sLen sCap : Nat) (C : Array Value) (hg : Blk w g C e) (k : Nat) (hroom : sLen + k ≤ sCap) (hfit : sLen + k ≤ C.size) (h48 : k * i.bytes ≤ 281474976710656) (h63 : k ≤ 9223372036854775807) :
    (Builtin.append_ #[t, tn] ty #[.slice (some ⟨g, 0, none⟩) sLen sCap, .int kq k]).run P w = .ok (.slice (some ⟨g, 0, none⟩) (sLen + k) sCap) (w.setRow g (splA C sLen (List.replicate k z))) := by
  have hw : IntKind.i64.wrap (k : Int) = k := by rw [IntKind.wrap_i64]; omega
  have hneg : ¬ ((k : Int) < 0) := by omega
  have h48i : ¬ (281474976710656 < (k : Int) * (i.bytes : Int)) := by
    rw [← Int.natCast_mul]
    omega
  have hst := run_storeCells_at P g sLen e (List.replicate k z) 0 C w hg (by simpa using hfit) (fun v hv => by rw [List.eq_of_mem_replicate hv]; exact h1c)
  simp only [Nat.add_zero] at hst
  by_cases hk : k = 0
  · subst hk
    have : splA C sLen [] = C := by simp [splA]
    simp only [List.replicate_zero] at hst ⊢
    rw [this, setRow_self w g C e (0, 0) hg]
    have hw0 : IntKind.i64.wrap 0 = 0 := by rw [IntKind.wrap_i64]; omega
    have hroom' : sLen ≤ sCap := by omega
    simp [Builtin.append_, run_underlying ht, run_underlying htn, sizeOf, typeInfo, zeroValue, hi, hz, h1, asInt, asIntOf, hw0, hroom', storeCells]
  · simp [Builtin.append_, run_underlying ht, run_underlying htn, sizeOf, typeInfo, zeroValue, hi, hz, h1, hz1, zeroCells_one, asInt, asIntOf, hw, hroom, hneg, hk, h48i, Addr.add_lit, hst, splA]
theorem run_append_own_zeros {P : Program} (w : World) (base : Nat) (t tn ty e : TypeId) (i : TypeInfo) (z : Value) (bytes : Nat) (kq kn : IntKind) (ht : P.underlying t = some (.slice e)) (htn : P.underlying tn = some (.int kn)) (hi : P.info? e = some i) (hz : i.zero = some z) (h1 : i.size = 1) (hby : i.bytes = bytes) (hz1 : z.cells = #[z]) (h1c : z.oneCell' = true)
    (v : Value) (n : Nat) (ys : List Value) (hown : w.ownsRow base e 1 v n ys) (k : Nat) (h63 : n + k ≤ 9223372036854775807) (hbytes : (n + k) * bytes ≤ 140737488355328) (hbase : base ≤ w.heap.size) :
    ∃ v' w', (Builtin.append_ #[t, tn] ty #[v, .int kq k]).run P w = .ok v' w' ∧ w'.ownsRow base e 1 v' (n + k) (ys ++ List.replicate k z) ∧ w.grownBy w' v.ownBlock := by
  subst hby
  have hk48 : k * i.bytes ≤ 281474976710656 := by
    have : k * i.bytes ≤ (n + k) * i.bytes := Nat.mul_le_mul_right _ (by omega)
    omega
  have hlen : (ys ++ List.replicate k z).length = (n + k) * 1 := by rw [List.length_append, hown.1, List.length_replicate]; omega
  have grown : ∀ (old : Nat), old < n + k → ∀ (row : Option Nat),
      (w.drew.alloc (.cells (ys.toArray ++ Builtin.zeroCells z.cells k ++ Builtin.zeroCells z.cells (grownCap w (n + k) old e - (n + k))) e)).ownsRow base e 1
        (.slice (some ⟨w.heap.size, 0, none⟩) (n + k) (grownCap w (n + k) old e)) (n + k) (ys ++ List.replicate k z) ∧
      w.grownBy (w.drew.alloc (.cells (ys.toArray ++ Builtin.zeroCells z.cells k ++ Builtin.zeroCells z.cells (grownCap w (n + k) old e - (n + k))) e)) row := by
    intro old ho row
    have hge := grownCap_ge w (n + k) old e
    have hcm : grownCap w (n + k) old e ≤ maxLen := grownCap_le_maxLen w (n + k) old e (by unfold maxLen; omega)
    have hyl : ys.length = n := by have := hown.1; omega
    refine ⟨⟨hlen, .inr ⟨w.heap.size, _, _, rfl, hbase, heap_alloc_new w.drew _, hge, hcm, ?_, ?_⟩⟩, ⟨rfl, rfl, rfl, by simp, fun j hj _ => Below.heap_alloc w.drew _ j hj⟩⟩
    · rw [hz1, zeroCells_one, zeroCells_one]
      simp only [Array.size_append, List.size_toArray, Array.size_replicate, hyl]
      omega
    · rw [hz1, zeroCells_one, zeroCells_one]
      simp only [Array.toList_append, Array.toList_replicate, List.append_assoc]
      rw [← List.append_assoc, ← hlen]
      exact List.take_left
  rcases hown.2 with ⟨rfl, rfl⟩ | ⟨g, cap, cur, rfl, hbg, hg, hnc, hcm, hcs, htake⟩
  · have hx : ys = [] := List.eq_nil_of_length_eq_zero (by simpa using hown.1)
    subst hx
    by_cases hk0 : k = 0
    · subst hk0
      have hw0 : IntKind.i64.wrap 0 = 0 := by rw [IntKind.wrap_i64]; omega
      refine ⟨.slice none 0 0, w, ?_, World.ownsRow_nil w base e 1, ⟨rfl, rfl, rfl, Nat.le_refl _, fun _ _ _ => rfl⟩⟩
      simp [Builtin.append_, run_underlying ht, run_underlying htn, sizeOf, typeInfo, zeroValue, hi, hz, h1, asInt, asIntOf, hw0, storeCells]
    have hk : 0 < k := by omega
    have hr := Lib.run_append_grow_zeros (P := P) w t tn ty e i z kq kn ht htn hi hz none 0 0 [] (by simp [Builtin.firstCells]) k hk (by omega) (by omega) (by omega) hk48 (growslice_fits (by omega) hbytes)
    have hgr := grown 0 (by omega) (Value.ownBlock (.slice none 0 0))
    exact ⟨_, _, hr, hgr.1, hgr.2⟩
  · by_cases hroom : n + k ≤ cap
    · have hfit : n + k ≤ cur.size := by omega
      have hr := run_append_room_zeros (P := P) w t tn ty e i z kq kn ht htn hi hz h1 hz1 h1c g n cap cur hg k hroom hfit hk48 (by omega)
      refine ⟨_, _, hr, ⟨hlen, .inr ⟨g, cap, _, rfl, hbg, setRow_heap w g cur _ e _ hg, hroom, hcm, ?_, ?_⟩⟩, ⟨rfl, rfl, rfl, by simp [World.setRow], fun k _ hk => setRow_other w g k _ (fun e => hk (by simp [Value.ownBlock, e]))⟩⟩
      · rw [splA_size _ _ _ (by rw [List.length_replicate]; exact hfit)]; exact hcs
      · simp only [splA]
        rw [show n * 1 = n from Nat.mul_one n] at htake
        rw [htake, ← hlen]
        exact List.take_left
    · have holds : ∀ j u, ys[j]? = some u → w.cell? ((⟨g, 0, none⟩ : Addr).add j) = some u := hown.cells (g := g) rfl
      have hyl : ys.length = n := by have := hown.1; omega
      have hf : (Builtin.firstCells i.size n (.slice (some ⟨g, 0, none⟩) n cap)).run P w.drew = .ok ys.toArray w.drew := by
        have := run_firstCells_some (P := P) w.drew i.size n ⟨g, 0, none⟩ n cap ys (by rw [hyl, h1]; omega) holds
        exact this
      have hr := Lib.run_append_grow_zeros (P := P) w t tn ty e i z kq kn ht htn hi hz (some ⟨g, 0, none⟩) n cap ys hf k (by omega) (by omega) (by omega) (by omega) hk48 (growslice_fits (by omega) hbytes)
      have hgr := grown cap (by omega) (Value.ownBlock (.slice (some ⟨g, 0, none⟩) n cap))
      exact ⟨_, _, hr, hgr.1, hgr.2⟩
section
variable {P : Program} {ops : Array Oper} {rest : List Oper} {o : Oper} {a : Act} {Q : Exit → Act → World → Prop}
/-- append of zeroes: onto a slice of the call's own. -/
theorem append_zeros {w0 w : World} {S : Nat → Prop} (hgd : o.guard = none) (s x : Operand) (t tn e : TypeId) (ho : o.op = .call { callee := .builtin .append, args := #[s, x], argTypes := #[t, tn] })
    (z : Value) (bytes : Nat) (kq kn : IntKind) (ht : P.underlying t = some (.slice e)) (htn : P.underlying tn = some (.int kn)) (hinfo : (P.info? e).map (fun i => (i.zero, i.size, i.bytes)) = some (some z, 1, bytes)) (hz1 : z.cells = #[z]) (h1c : z.oneCell' = true)
    (v : Value) (n : Nat) (ys : List Value) (hs : a.eval s = v) (hC : Chg S w0 w) (hown : w.ownsRow w0.heap.size e 1 v n ys) (k : Nat) (hx : a.eval x = .int kq k)
    (h1 : n + k ≤ 9223372036854775807) (h2 : (n + k) * bytes ≤ 140737488355328)
    (h : ∀ v' w', w'.ownsRow w0.heap.size e 1 v' (n + k) (ys ++ List.replicate k z) → Chg S w0 w' → wpList P ops Q rest (a.put o.dst v') w') :
    wpList P ops Q (o :: rest) a w := by
  obtain ⟨i0, hi, hz0, hz1', hz2⟩ := info_parts hinfo
  refine wpList_plain hgd fun K hK => ?_
  obtain ⟨v', w', hr, ho', hg'⟩ := run_append_own_zeros (P := P) w w0.heap.size t tn o.type e i0 z bytes kq kn ht htn hi hz0 hz1' hz2 hz1 h1c v n ys hown k h1 h2 hC.size
  have hc : Chg S w0 w' := by
    refine hC.trans (Chg.of_grownBy (S := fun k => w0.heap.size ≤ k) hg' ?_) (fun i hi hh => by omega)
    intro k hk
    left
    rcases hown.2 with ⟨rfl, _⟩ | ⟨g, cap, cur, rfl, hb, _⟩
    · simp [Value.ownBlock] at hk
    · have : g = k := by simpa [Value.ownBlock] using hk
      omega
  have := h v' w' ho' hc
  unfold Oper.wp
  simp [execOp, ho, resolve, invoke, builtin, hs, hx, hr, Result.andThen]
  exact hK _ _ this
end
end Go.Proofs.YtolojkfpokmdkaaRR.Hp

-- XHpD
namespace Go.Proofs.YtolojkfpokmdkaaRR.Hp
open Go.RowKit
set_option linter.unusedVariables false
set_option linter.unusedSimpArgs false
theorem add_lit' (g i j : Nat) : (⟨g, i, none⟩ : Addr).add j = ⟨g, i + j, none⟩ := by unfold Addr.add; split <;> simp_all
theorem run_loadVar_at {P : Program} (w : World) (g off : Nat) (ty : TypeId) (cs : Array Value) (d : TypeDesc) (hc : ∀ j v, cs[j]? = some v → w.cell? ⟨g, off + j, none⟩ = some v)
    (hu : P.underlying ty = some d) (hd : (match d with | .struct _ | .array _ _ => true | _ => false) = true) (hi : (P.info? ty).map (·.size) = some cs.size) :
    (loadVar ty ⟨g, off, none⟩).run P w = .ok (.agg cs) w := by
  have hl : (loadCells ⟨g, off, none⟩ cs.toList.length).run P w = .ok cs.toList.toArray w :=
    run_loadCells_list (P := P) w ⟨g, off, none⟩ cs.toList (fun j v hv => by
      rw [add_lit']
      exact hc j v (by simpa using hv))
  obtain ⟨i, hi1, hi2⟩ := Option.map_eq_some_iff.1 hi
  rw [Array.length_toList, Array.toArray_toList] at hl
  cases d <;> first | (simp at hd; done) | simp [loadVar, isAgg, run_underlying hu, sizeOf, typeInfo, hi1, hi2, hl]
section
variable {P : Program} {ops : Array Oper} {rest : List Oper} {o : Oper} {a : Act} {w : World} {Q : Exit → Act → World → Prop}
theorem load_at (hgd : o.guard = none) (ty : TypeId) (x : Operand) (ho : o.op = .load ty x)
    (ad : Addr) (hx : a.eval x = .pointer (some ad)) (v : Value) (hr : (loadVar ty ad).run P w = .ok v w)
    (h : wpList P ops Q rest (a.put o.dst v) w) : wpList P ops Q (o :: rest) a w := by
  refine wpList_plain hgd fun K hK => ?_
  unfold Oper.wp execOp
  simp only [ho, hx, Instr.loadAt, Instr.sureAddr, Sem.run_bind, Sem.run_pure, Result.andThen_ok, hr]
  exact hK _ _ h
theorem index_at (hgd : o.guard = none) (ty : TypeId) (x i : Operand) (ho : o.op = .index ty x i)
    (X I v : Value) (hx : a.eval x = X) (hi : a.eval i = I) (hr : (Instr.index ty X I).run P w = .ok v w)
    (h : wpList P ops Q rest (a.put o.dst v) w) : wpList P ops Q (o :: rest) a w := by
  refine wpList_plain hgd fun K hK => ?_
  unfold Oper.wp execOp
  simp only [ho, hx, hi, Sem.run_bind, Sem.run_pure, Result.andThen_ok, hr]
  exact hK _ _ h
end
/-- a struct out of an array of structs -/
theorem run_index_agg {P : Program} (w : World) (t e : TypeId) (n : Nat) (cs : Array Value) (i : Nat) (hi : i < n) (ht : P.underlying t = some (.array n e)) (d : TypeDesc) (hu : P.underlying e = some d) (hd : (match d with | .struct _ | .array _ _ => true | _ => false) = true)
    (sz : Nat) (hs : (P.info? e).map (·.size) = some sz) : (Instr.index t (.agg cs) (.int .i64 i)).run P w = .ok (.agg (cs.extract (i * sz) (i * sz + sz))) w := by
  obtain ⟨j, hj1, hj2⟩ := Option.map_eq_some_iff.1 hs
  cases d <;> first | (simp at hd; done) | simp [Instr.index, asIntOf, run_underlying ht, run_underlying hu, sizeOf, typeInfo, hj1, hj2, hi, part, isAgg]
end Go.Proofs.YtolojkfpokmdkaaRR.Hp

-- XHpE
namespace Go.Proofs.YtolojkfpokmdkaaRR.Hp
open Go.RowKit Go.ChangeShapes Go.WideShapes Go.Deep
set_option linter.unusedVariables false
set_option linter.unusedSimpArgs false
section
variable {H : Type} {enc : TypeId × Value → H} {P : Program} {w : World} {base : Nat} {spare : Nat → Bool} {held : Bool}
/-- Each element's cells, and the datum of each field. -/
theorem open_elems {t e : TypeId} {fs : Array Field} {fuel : Nat} {cs : List Value} {x : DataW H × List MemPlace} (ht : P.underlying t = some (.slice e)) (he : P.underlying e = some (.struct fs)) (h : DataW.trod enc P w base spare held fuel t cs = some x) :
    cs = [.slice none 0 0] ∨ ∃ (a : Addr) (len cap : Nat), cs = [.slice (some a) len cap] ∧ len ≤ cap ∧ cap ≤ maxLen ∧
      ∀ i, i < len → ∃ (l : List Value) (n : Nat), l.length = P.cellsOf e ∧ (∀ (j : Nat) (v : Value), l[j]? = some v → w.cell? (a.add (i * P.cellsOf e + j)) = some v) ∧
        ∀ (j : Nat) (f : Field), fs[j]? = some f → ∃ y, DataW.trod enc P w base spare held n f.type ((l.drop f.offset).take (P.cellsOf f.type)) = some y := by
  rcases open_slice ht h with ⟨h0, _⟩ | ⟨a, len, cap, m, n, D, Pl, hcs, hb, hl, hm, hmm, hx, hi⟩
  · exact .inl h0
  · refine .inr ⟨a, len, cap, hcs, hl, hm, fun i hil => ?_⟩
    have him : i < m := by rw [hmm]; split <;> omega
    obtain ⟨l, hc, htr⟩ := hi i him
    obtain ⟨_, hcl, hat⟩ := World.cells?_some hc
    obtain ⟨ys, n', hn', hy, hlen, hyl, hf⟩ := DataW.trod_struct he htr
    refine ⟨l, n', hcl, fun j v hj => ?_, fun j f hj => ?_⟩
    · have hjl : j < P.cellsOf e := by rw [← hcl]; exact (List.getElem?_eq_some_iff.1 hj).1
      have := hat j hjl
      rw [Go.Deep.add_add] at this
      rw [this, hj]
    · have hjl : j < ys.length := by rw [hyl]; exact (Array.getElem?_eq_some_iff.1 hj).1
      exact ⟨ys[j], (hf j f hj).trans (List.getElem?_eq_getElem hjl)⟩
/-- a field that is a slice of whole numbers -/
theorem row_of_trod {t e : TypeId} {k : IntKind} {fuel : Nat} {v : Value} {x : DataW H × List MemPlace} (ht : P.underlying t = some (.slice e)) (he : P.underlying e = some (.int k)) (hc : P.cellsOf e = 1)
    (h : DataW.trod enc P w base spare held fuel t [v] = some x) (hsp : ∀ b, spare b = true) : ∃ a len cap zs, v = .slice a len cap ∧ IsRow k w a len cap zs := by
  rcases open_ints ht he hc h with ⟨hcs, _⟩ | ⟨a, l, c, zs, hcs, _, hl, hm, hz, _, hcell, hwz⟩
  · exact ⟨none, 0, 0, [], by simpa using hcs, .inl ⟨rfl, rfl, rfl, rfl⟩⟩
  · refine ⟨some a, l, c, zs, by simpa using hcs, .inr ⟨a, rfl, hl, hm, ?_, hcell, hwz⟩⟩
    rw [hz, hsp]; rfl
end
theorem add_field (a : Addr) (m j : Nat) (h : 0 < j) : a.add (m + j) = ⟨(a.add m).block, (a.add m).off + j, none⟩ := by
  unfold Addr.add
  rw [if_neg (by omega)]
  split
  · subst_vars; simp
  · simp [Nat.add_assoc]
theorem run_loadVar_any {P : Program} (w : World) (ad : Addr) (ty : TypeId) (cs : Array Value) (d : TypeDesc) (hc : ∀ j v, cs[j]? = some v → w.cell? (ad.add j) = some v)
    (hu : P.underlying ty = some d) (hd : (match d with | .struct _ | .array _ _ => true | _ => false) = true) (hi : (P.info? ty).map (·.size) = some cs.size) :
    (loadVar ty ad).run P w = .ok (.agg cs) w := by
  have hl : (loadCells ad cs.toList.length).run P w = .ok cs.toList.toArray w :=
    run_loadCells_list (P := P) w ad cs.toList (fun j v hv => hc j v (by simpa using hv))
  obtain ⟨i, hi1, hi2⟩ := Option.map_eq_some_iff.1 hi
  rw [Array.length_toList, Array.toArray_toList] at hl
  cases d <;> first | (simp at hd; done) | simp [loadVar, isAgg, run_underlying hu, sizeOf, typeInfo, hi1, hi2, hl]
end Go.Proofs.YtolojkfpokmdkaaRR.Hp

-- XOwn
namespace Go.Proofs.YtolojkfpokmdkaaRR.Own
open Go.RowKit Go.Proofs.YtolojkfpokmdkaaRR.Hp
set_option linter.unusedVariables false
set_option linter.unusedSimpArgs false
theorem own_chg {S : Nat → Prop} {w w' : World} {base n : Nat} {e : TypeId} {v : Value} {xs : List Value} (h : w.ownsRow base e 1 v n xs) (hc : Chg S w w') (hn : ∀ g, v.ownBlock = some g → ¬ S g) : w'.ownsRow base e 1 v n xs := by
  refine ⟨h.1, ?_⟩
  rcases h.2 with h2 | ⟨g, cap, cur, hv, hb, hh, r⟩
  · exact .inl h2
  · exact .inr ⟨g, cap, cur, hv, hb, hc.blk hh (hn g (by rw [hv]; rfl)), r⟩
theorem own_ge {w : World} {base n : Nat} {e : TypeId} {v : Value} {xs : List Value} (h : w.ownsRow base e 1 v n xs) (g : Nat) (hg : v.ownBlock = some g) : base ≤ g ∧ ∃ C, Blk w g C e := by
  rcases h.2 with ⟨rfl, _⟩ | ⟨g', cap, cur, rfl, hb, hh, _⟩
  · simp [Value.ownBlock] at hg
  · have : g' = g := by simpa [Value.ownBlock] using hg
    subst this
    exact ⟨hb, cur, hh⟩
theorem own_base {w : World} {base base' n : Nat} {e : TypeId} {v : Value} {xs : List Value} (h : w.ownsRow base' e 1 v n xs) (hb : base ≤ base') : w.ownsRow base e 1 v n xs := by
  obtain ⟨h1, h2⟩ := h
  refine ⟨h1, ?_⟩
  rcases h2 with h2 | ⟨g, cap, cur, e1, e2, e3⟩
  · exact .inl h2
  · exact .inr ⟨g, cap, cur, e1, by omega, e3⟩
section
variable {P : Program} {ops : Array Oper} {rest : List Oper} {o : Oper} {a : Act} {Q : Exit → Act → World → Prop}
/-- where the row lies behind an append: where it lay, or new -/
theorem run_append_where (w : World) (base : Nat) (t ty e : TypeId) (i : TypeInfo) (z : Value) (size bytes : Nat) (ht : P.underlying t = some (.slice e)) (hi : P.info? e = some i) (hz : i.zero = some z)
    (hsize : i.size = size) (hby : i.bytes = bytes) (hzs : z.cells.size = size) (hsz : 0 < size) (v : Value) (n : Nat) (xs : List Value) (hown : w.ownsRow base e size v n xs)
    (ad : Addr) (m c : Nat) (news : List Value) (hl : news.length = m * size) (hnews : ∀ j u, news[j]? = some u → w.cell? (ad.add j) = some u) (h1 : ∀ u ∈ news, u.oneCell' = true)
    (h63 : n + m ≤ maxLen) (hbytes : (n + m) * bytes ≤ 140737488355328) :
    ∀ v' w', (Builtin.append_ #[t, t] ty #[v, .slice (some ad) m c]).run P w = .ok v' w' → ∀ g, v'.ownBlock = some g → v.ownBlock = some g ∨ w.heap.size ≤ g := by
  subst hsize
  subst hby
  have hsmall : n + m ≤ 9223372036854775807 := by simp only [maxLen] at h63; omega
  intro v' w' hrun g hg
  rcases hown.2 with ⟨rfl, rfl⟩ | ⟨g0, cap, cur, rfl, hbg, hcur, hnc, hcm, hcs, htake⟩
  · by_cases hm : m = 0
    · subst hm
      have hn : news = [] := List.eq_nil_of_length_eq_zero (by simpa using hl)
      subst hn
      have e0 : (Builtin.append_ #[t, t] ty #[.slice none 0 0, .slice (some ad) 0 c]).run P w = .ok (.slice none 0 0) w := by
        simp [Builtin.append_, run_underlying ht, sizeOf, typeInfo, hi, Builtin.lenOf, Builtin.firstCells, loadCells, loadCellsFrom]
      rw [e0] at hrun
      injection hrun with a1 a2
      subst a1
      simp [Value.ownBlock] at hg
    · have hr := run_append_nil (P := P) w t ty e i z ht hi hz ad m c news hl hnews (by omega) (by omega) (by have hb := hbytes; simp only [Nat.zero_add] at hb; omega)
      rw [hr] at hrun
      injection hrun with a1 a2
      subst a1
      simp [Value.ownBlock] at hg
      right; omega
  · by_cases hroom : n + m ≤ cap
    · have hfit : n * i.size + news.length ≤ cur.size := by rw [hl, hcs, ← Nat.add_mul]; exact Nat.mul_le_mul_right _ hroom
      have hr := run_append_room (P := P) w t ty e i ht hi g0 n cap cur hcur ad m c news hl hnews h1 hroom hfit
      rw [hr] at hrun
      injection hrun with a1 a2
      subst a1
      simp [Value.ownBlock] at hg
      left; simp [Value.ownBlock]; omega
    · have holds : ∀ j u, xs[j]? = some u → w.cell? ((⟨g0, 0, none⟩ : Addr).add j) = some u := hown.cells (g := g0) rfl
      have hr := run_append_grow (P := P) w t ty e i z ht hi hz ⟨g0, 0, none⟩ n cap xs hown.1 holds ad m c news hl hnews (by omega) (by omega) (growslice_fits (by omega) hbytes)
      rw [hr] at hrun
      injection hrun with a1 a2
      subst a1
      simp [Value.ownBlock] at hg
      right; omega
/-- an append onto a row of the call's own: where the row lies then is told too -/
theorem append_own3 {w : World} {base : Nat} (hgd : o.guard = none) (s x : Operand) (t e : TypeId) (ho : o.op = .call { callee := .builtin .append, args := #[s, x], argTypes := #[t, t] })
    (z : Value) (bytes : Nat) (ht : P.underlying t = some (.slice e)) (hinfo : (P.info? e).map (fun i => (i.zero, i.size, i.bytes)) = some (some z, 1, bytes)) (hz : z.cells.size = 1)
    (v : Value) (n : Nat) (xs : List Value) (hs : a.eval s = v) (hbase : base ≤ w.heap.size) (hown : w.ownsRow base e 1 v n xs) (u : Value) (T : TypeId) (hx : a.eval x = .slice (some ⟨w.heap.size, 0, none⟩) 1 1) (hu : u.oneCell' = true)
    (h1 : n + 1 ≤ 9223372036854775807) (h2 : (n + 1) * bytes ≤ 140737488355328)
    (h : ∀ v' w', w'.ownsRow base e 1 v' (n + 1) (xs ++ [u]) → Chg (fun i => v.ownBlock = some i) w w' → (∀ g, v'.ownBlock = some g → v.ownBlock = some g ∨ w.heap.size ≤ g) → wpList P ops Q rest (a.put o.dst v') w') :
    wpList P ops Q (o :: rest) a (w.alloc (.cells #[u] T)) := by
  obtain ⟨i0, hi, hz0, hz1, hz2⟩ := info_parts hinfo
  have hb : Blk (w.alloc (.cells #[u] T)) w.heap.size #[u] T := bnew w _
  have hnews : ∀ j u', ([u] : List Value)[j]? = some u' → (w.alloc (.cells #[u] T)).cell? ((⟨w.heap.size, 0, none⟩ : Addr).add j) = some u' := by
    intro j u' hj
    have : j = 0 := by
      have := (List.getElem?_eq_some_iff.1 hj).1
      simp at this; omega
    subst this
    have e : (⟨w.heap.size, 0, none⟩ : Addr).add 0 = ⟨w.heap.size, 0, none⟩ := rfl
    rw [e, bcell hb 0]
    simpa using hj
  have hone : ∀ u' ∈ ([u] : List Value), u'.oneCell' = true := by
    intro u' hu'
    have : u' = u := by simpa using hu'
    subst this; exact hu
  obtain ⟨v', w', hr, h4, h5, _⟩ := run_append_own (P := P) (w.alloc (.cells #[u] T)) base t o.type e i0 z 1 bytes ht hi hz0 hz1 hz2 hz (by decide) v n xs (hown.alloc _) ⟨w.heap.size, 0, none⟩ 1 1 [u] rfl hnews hone (by unfold maxLen; omega) h2 (by simp; omega)
  have hw := run_append_where (P := P) (w.alloc (.cells #[u] T)) base t o.type e i0 z 1 bytes ht hi hz0 hz1 hz2 hz (by decide) v n xs (hown.alloc _) ⟨w.heap.size, 0, none⟩ 1 1 [u] rfl hnews hone (by unfold maxLen; omega) h2 v' w' hr
  refine wpList_plain hgd fun _ hK => ?_
  unfold Oper.wp execOp
  simp only [ho, resolve, invoke, builtin, Sem.run_bind, Sem.run_pure, Result.andThen_ok, List.map_toArray, List.map_cons, List.map_nil, hs, hx, hr]
  refine hK _ _ (h v' w' h4 (((Chg.refl _ w).alloc _).trans (Chg.of_grownBy h5 (fun j hj => .inl hj)) (fun _ _ x => x)) (fun g hg => ?_))
  rcases hw g hg with x | x
  · exact .inl x
  · right; simp at x; omega
end
end Go.Proofs.YtolojkfpokmdkaaRR.Own

-- XBytes
namespace Go.Proofs.YtolojkfpokmdkaaRR.By
open Go.RowKit Go.Proofs.YtolojkfpokmdkaaRR.Hp
set_option linter.unusedVariables false
set_option linter.unusedSimpArgs false
theorem one_u8 (l : List Int) : ∀ v ∈ l.map (Value.int .u8), v.oneCell' = true := by
  intro v hv
  obtain ⟨x, _, rfl⟩ := List.mem_map.mp hv
  rfl
theorem rd_src {w : World} {A : Option Addr} {l : List Int} (h : Rd w .u8 A l) : 0 < (l.map (Value.int .u8)).length → ∃ ad, A = some ad ∧ ∀ j v, (l.map (Value.int .u8))[j]? = some v → w.cell? (ad.add j) = some v := by
  intro hl
  rw [List.length_map] at hl
  obtain ⟨ad, e, hc⟩ := h.2 hl
  refine ⟨ad, e, fun j v hv => ?_⟩
  have hj : j < l.length := by
    have := (List.getElem?_eq_some_iff.1 hv).1
    rwa [List.length_map] at this
  rw [hc j hj]
  simp [hj] at hv
  simp [hj, hv]
theorem info8 : (Try.prog.info? 5).map (fun i => (i.zero, i.size, i.bytes)) = some (some (.int .u8 0), 1, 1) := by kernel_rfl
theorem sz8 : (Try.prog.info? 5).map (·.size) = some 1 := by kernel_rfl
def ClonePost (l : List Int) (w : World) (e : Ending) (w' : World) : Prop :=
  ∃ v, e = .returned v ∧ w'.ownsRow w.heap.size 5 1 v l.length (l.map (Value.int .u8)) ∧ Chg NoB w w'
theorem clone_nil (w : World) : Calls Try.prog 61 #[.slice none 0 0] w fun e w' => e = .returned (.slice none 0 0) ∧ w = w' := by
  have hq := fun (w : World) => Lib.run_eql_slice_nil (P := Try.prog) w 38 5 none 0 0 0 0 Try.underlying38
  go_enter Try.func61, Try.ntmps61
  go_wp2
  go_ret
  exact ⟨rfl, rfl⟩
set_option maxHeartbeats 2000000 in
theorem clone_some (ad : Addr) (l : List Int) (c : Nat) (w : World) (h : Rd w .u8 (some ad) l) : Calls Try.prog 61 #[.slice (some ad) l.length c] w (ClonePost l w) := by
  have hq := fun (w : World) => Lib.run_eql_slice_nil (P := Try.prog) w 38 5 (some ad) l.length c 0 0 Try.underlying38
  have hlen := h.1
  have hown : (w.alloc (.cells #[] 5)).ownsRow w.heap.size 5 1 (.slice (some ⟨w.heap.size, 0, none⟩) 0 0) 0 [] := World.ownsRow_made w _ 0 (Nat.le_refl _) (by unfold maxLen; omega) rfl
  have hC : Chg NoB w (w.alloc (.cells #[] 5)) := (Chg.refl _ _).alloc _
  have h' : Rd (w.alloc (.cells #[] 5)) .u8 (some ad) l := h.chg hC (fun _ _ _ x => x)
  have hll : (l.map (Value.int .u8)).length = l.length := List.length_map ..
  have hx : ∀ a : Act, a.eval (.tmp 6) = .slice (some ad) l.length c → a.eval (.tmp 6) = .slice (some ad) (l.map (Value.int .u8)).length c := fun a e => by rw [hll]; exact e
  have HX := Lib.hid hx
  clear hx
  go_enter Try.func61, Try.ntmps61
  go_wp2_with (first | (at_builtin; refine append_src (w0 := w) (S := NoB) rfl (.tmp 5) (.tmp 6) 38 5 rfl (.int .u8 0) 1 Try.underlying38 info8 rfl (.slice (some ⟨w.heap.size, 0, none⟩) 0 0) 0 [] rfl hC hown (l.map (Value.int .u8)) (some ad) c (HX.out _ rfl) (fun e => by cases e) (rd_src h') (one_u8 l) (by omega) (by omega) ?_; intro v' w1 hown' hC'))
  rw [List.nil_append, Nat.zero_add, hll] at hown'
  go_ret
  exact ⟨_, rfl, hown', hC'⟩
end Go.Proofs.YtolojkfpokmdkaaRR.By

-- XMap
namespace Go.Proofs.YtolojkfpokmdkaaRR.Hp
open Go.RowKit Go.MapKept
set_option linter.unusedVariables false
set_option linter.unusedSimpArgs false
def MapWf (es : Array MapEntry) (clock : Nat) : Prop :=
  (∀ x ∈ es.toList, ∃ k, x.key = .int .i64 k) ∧ es.toList.Pairwise (fun x y => x.key ≠ y.key) ∧ es.toList.Pairwise (fun x y => x.born ≠ y.born) ∧ ∀ x ∈ es.toList, x.born < clock
/-- block b is a map that holds just M -/
def MapAt (w : World) (b : Nat) (M : Int → Option Value) : Prop :=
  ∃ es clock, w.heap[b]? = some (.map es clock) ∧ MapWf es clock ∧ ∀ k v, M k = some v ↔ ∃ e ∈ es.toList, e.key = .int .i64 k ∧ e.val = v
theorem MapAt.chg {S : Nat → Prop} {w w' : World} {b : Nat} {M : Int → Option Value} (h : MapAt w b M) (hc : Chg S w w') (h1 : ¬ S b) : MapAt w' b M := by
  obtain ⟨es, c, hb, hr⟩ := h
  exact ⟨es, c, hc.blk hb h1, hr⟩
theorem MapAt.lt {w : World} {b : Nat} {M : Int → Option Value} (h : MapAt w b M) : b < w.heap.size := by
  obtain ⟨es, c, hb, _⟩ := h
  exact blt hb
theorem MapAt.new (w : World) : MapAt (w.alloc (.map #[] 0)) w.heap.size (fun _ => none) :=
  ⟨#[], 0, bnew w _, ⟨by simp, by simp, by simp, by simp⟩, by simp⟩
theorem isKey_int {P : Program} {kt : TypeId} (k : Int) : IsKey (.int .i64) (.int .i64 k) := by simp [IsKey]
theorem MapAt.keys {es : Array MapEntry} {clock : Nat} (h : MapWf es clock) : ∀ x ∈ es.toList, IsKey (.int .i64) x.key := by
  intro x hx
  obtain ⟨k, e⟩ := h.1 x hx
  rw [e]; exact isKey_int (P := default) (kt := 0) k
/-- what the search finds -/
theorem find_at {es : Array MapEntry} {clock : Nat} (h : MapWf es clock) (k : Int) :
    (Instr.findNow (.int .i64) (.int .i64 k) es.toList 0 = some none ∧ ∀ x ∈ es.toList, x.key ≠ .int .i64 k) ∨ ∃ j e, Instr.findNow (.int .i64) (.int .i64 k) es.toList 0 = some (some (j, e.val)) ∧ es.toList[j]? = some e ∧ e.key = .int .i64 k := by
  rcases findNow_spec (isKey_int (P := default) (kt := 0) k) es.toList 0 (MapAt.keys h) with h1 | ⟨j, e, h1, h2, h3⟩
  · exact .inl h1
  · exact .inr ⟨j, e, by simpa using h1, h2, h3⟩
theorem run_lookup_some {P : Program} {w : World} {b : Nat} {M : Int → Option Value} (t kt et : TypeId) (ht : P.underlying t = some (.map kt et)) (hk : P.underlying kt = some (.int .i64)) (h : MapAt w b M) (k : Int) (v : Value) (hv : M k = some v) (c : Bool) :
    (Instr.lookup t (.map (some b)) (.int .i64 k) c).run P w = .ok (if c then .tuple #[v, .bool true] else v) w := by
  obtain ⟨es, cl, hb, hwf, hM⟩ := h
  obtain ⟨e, he, hek, hev⟩ := (hM k v).mp hv
  rcases find_at hwf k with ⟨_, h2⟩ | ⟨j, e', h1, h2, h3⟩
  · exact absurd hek (h2 e he)
  · have h4 : M k = some e'.val := (hM k e'.val).mpr ⟨e', List.mem_of_getElem? h2, h3, rfl⟩
    have h5 : e'.val = v := by rw [hv] at h4; exact (Option.some.inj h4).symm
    simp [Instr.lookup, run_underlying ht, MapKept.run_getObj_map hb, run_checkKey hk (isKey_int (P := P) (kt := kt) k), run_findKey hk h1, Result.andThen, h5]
theorem run_lookup_none {P : Program} {w : World} {b : Nat} {M : Int → Option Value} (t kt et : TypeId) (ht : P.underlying t = some (.map kt et)) (hk : P.underlying kt = some (.int .i64)) (h : MapAt w b M) (k : Int) (hv : M k = none) (z : Value) (hz : (zeroValue et).run P w = .ok z w) (c : Bool) :
    (Instr.lookup t (.map (some b)) (.int .i64 k) c).run P w = .ok (if c then .tuple #[z, .bool false] else z) w := by
  obtain ⟨es, cl, hb, hwf, hM⟩ := h
  rcases find_at hwf k with ⟨h1, _⟩ | ⟨j, e', h1, h2, h3⟩
  · simp [Instr.lookup, run_underlying ht, MapKept.run_getObj_map hb, run_checkKey hk (isKey_int (P := P) (kt := kt) k), run_findKey hk h1, Result.andThen, hz]
  · have h4 : M k = some e'.val := (hM k e'.val).mpr ⟨e', List.mem_of_getElem? h2, h3, rfl⟩
    rw [hv] at h4; cases h4
def updM (M : Int → Option Value) (k : Int) (v : Value) : Int → Option Value := fun j => if j = k then some v else M j
theorem chg_block {w : World} {b : Nat} {o o' : Obj} (hb : w.heap[b]? = some o) : Chg (· = b) w { w with heap := w.heap.setIfInBounds b o' } :=
  ⟨rfl, rfl, rfl, by simp, fun k hk hn => by
    show (w.heap.setIfInBounds b o')[k]? = _
    exact (heap_set hb).2 k hn⟩
theorem run_update {P : Program} {w : World} {b : Nat} {M : Int → Option Value} (t kt et : TypeId) (ht : P.underlying t = some (.map kt et)) (hk : P.underlying kt = some (.int .i64)) (h : MapAt w b M) (k : Int) (v : Value) :
    ∃ w', (Instr.mapUpdate t (.map (some b)) (.int .i64 k) v).run P w = .ok () w' ∧ MapAt w' b (updM M k v) ∧ Chg (· = b) w w' := by
  obtain ⟨es, cl, hb, hwf, hM⟩ := h
  obtain ⟨w1, w2, w3, w4⟩ := hwf
  rcases find_at ⟨w1, w2, w3, w4⟩ k with ⟨h1, h2⟩ | ⟨j, e, h1, h2, h3⟩
  · refine ⟨_, by simp [Instr.mapUpdate, run_underlying ht, MapKept.run_getObj_map hb, run_checkKey hk (isKey_int (P := P) (kt := kt) k), run_findKey hk h1, MapKept.run_setObj_map _ hb, Result.andThen]; rfl, ⟨_, _, (heap_set hb).1, ⟨?_, ?_, ?_, ?_⟩, ?_⟩, chg_block hb⟩
    · intro x hx
      simp at hx
      rcases hx with hx | rfl
      · exact w1 x (by simpa using hx)
      · exact ⟨k, rfl⟩
    · rw [Array.toList_push, List.pairwise_append]
      exact ⟨w2, by simp, fun x hx y hy => by simp at hy; subst hy; exact h2 x hx⟩
    · rw [Array.toList_push, List.pairwise_append]
      exact ⟨w3, by simp, fun x hx y hy => by simp at hy; subst hy; have := w4 x hx; show x.born ≠ cl; omega⟩
    · intro x hx
      simp at hx
      rcases hx with hx | rfl
      · have := w4 x (by simpa using hx); omega
      · show cl < cl + 1; omega
    · intro a u
      unfold updM
      rw [Array.toList_push]
      by_cases c : a = k
      · subst c
        rw [if_pos rfl]
        constructor
        · intro e; exact ⟨⟨.int .i64 a, v, cl⟩, by simp, rfl, Option.some.inj e⟩
        · rintro ⟨e, he, e1, e2⟩
          rw [List.mem_append] at he
          rcases he with he | he
          · exact absurd e1 (h2 e he)
          · simp at he; subst he; rw [← e2]
      · rw [if_neg c]
        constructor
        · intro e
          obtain ⟨x, hx, e1, e2⟩ := (hM a u).mp e
          exact ⟨x, List.mem_append_left _ hx, e1, e2⟩
        · rintro ⟨e, he, e1, e2⟩
          rw [List.mem_append] at he
          rcases he with he | he
          · exact (hM a u).mpr ⟨e, he, e1, e2⟩
          · simp at he; subst he
            simp at e1
            exact absurd e1.symm c
  · have hj : es[j]? = some e := by simpa using h2
    have hjl : j < es.size := (Array.getElem?_eq_some_iff.1 hj).1
    obtain ⟨f, hf⟩ : ∃ f : MapEntry → MapEntry, f = fun e => { e with key := .int .i64 k, val := v } := ⟨_, rfl⟩
    have hg : ∀ i, (es.toList.modify j f)[i]? = if j = i then (es.toList[i]?).map f else es.toList[i]? := fun i => by rw [List.getElem?_modify]; split <;> simp
    have hkey : (es.toList.modify j f).map (·.key) = es.toList.map (·.key) := by
      apply List.ext_getElem?
      intro i
      rw [List.getElem?_map, List.getElem?_map, hg]
      by_cases c : j = i
      · subst c; rw [if_pos rfl, h2, hf]; simp [h3]
      · rw [if_neg c]
    have hborn : (es.toList.modify j f).map (·.born) = es.toList.map (·.born) := by
      apply List.ext_getElem?
      intro i
      rw [List.getElem?_map, List.getElem?_map, hg]
      by_cases c : j = i
      · subst c; rw [if_pos rfl, h2, hf]; simp
      · rw [if_neg c]
    refine ⟨_, by simp [Instr.mapUpdate, run_underlying ht, MapKept.run_getObj_map hb, run_checkKey hk (isKey_int (P := P) (kt := kt) k), run_findKey hk h1, hj, h3, run_keyThatStays (isKey_int (P := P) (kt := kt) k), MapKept.run_setObj_map _ hb, Result.andThen]; rfl, ⟨es.modify j f, cl, ?_, ⟨?_, ?_, ?_, ?_⟩, ?_⟩, chg_block hb⟩
    · rw [hf]; exact (heap_set hb).1
    · intro x hx
      rw [Array.toList_modify] at hx
      have : x.key ∈ (es.toList.modify j f).map (·.key) := List.mem_map_of_mem hx
      rw [hkey] at this
      obtain ⟨y, hy, e1⟩ := List.mem_map.mp this
      obtain ⟨k', e2⟩ := w1 y hy
      exact ⟨k', by rw [← e1, e2]⟩
    · rw [Array.toList_modify]
      have : ((es.toList.modify j f).map (·.key)).Pairwise (· ≠ ·) := by rw [hkey]; exact List.pairwise_map.mpr w2
      exact List.pairwise_map.mp this
    · rw [Array.toList_modify]
      have : ((es.toList.modify j f).map (·.born)).Pairwise (· ≠ ·) := by rw [hborn]; exact List.pairwise_map.mpr w3
      exact List.pairwise_map.mp this
    · intro x hx
      rw [Array.toList_modify] at hx
      have : x.born ∈ (es.toList.modify j f).map (·.born) := List.mem_map_of_mem hx
      rw [hborn] at this
      obtain ⟨y, hy, e1⟩ := List.mem_map.mp this
      rw [← e1]; exact w4 y hy
    · intro a u
      rw [Array.toList_modify]
      unfold updM
      have uniq : ∀ x ∈ es.toList, x.key = .int .i64 k → x = e := by
        intro x hx hxk
        exact entry_eq_of_key w2 hx (List.mem_of_getElem? h2) (by rw [hxk, h3])
      have mem1 : f e ∈ es.toList.modify j f := List.mem_of_getElem? (i := j) (by rw [hg, if_pos rfl, h2]; rfl)
      have mem2 : ∀ x ∈ es.toList.modify j f, x = f e ∨ (x ∈ es.toList ∧ x.key ≠ .int .i64 k) := by
        intro x hx
        obtain ⟨i, hi⟩ := List.getElem?_of_mem hx
        rw [hg] at hi
        by_cases c : j = i
        · subst c; rw [if_pos rfl, h2] at hi; exact .inl (Option.some.inj hi).symm
        · rw [if_neg c] at hi
          refine .inr ⟨List.mem_of_getElem? hi, fun hxk => ?_⟩
          -- one key at two places
          have hxe := uniq x (List.mem_of_getElem? hi) hxk
          subst hxe
          have hil : i < es.toList.length := (List.getElem?_eq_some_iff.mp hi).1
          have hjl' : j < es.toList.length := (List.getElem?_eq_some_iff.mp h2).1
          have e1 := (List.getElem?_eq_some_iff.mp hi).2
          have e2 := (List.getElem?_eq_some_iff.mp h2).2
          rcases Nat.lt_or_gt_of_ne c with hlt | hlt
          · exact List.pairwise_iff_getElem.mp w2 j i hjl' hil hlt (by rw [e1, e2])
          · exact List.pairwise_iff_getElem.mp w2 i j hil hjl' hlt (by rw [e1, e2])
      by_cases c : a = k
      · subst c
        rw [if_pos rfl]
        constructor
        · intro hu; exact ⟨f e, mem1, by rw [hf], by rw [hf]; exact Option.some.inj hu⟩
        · rintro ⟨x, hx, e1, e2⟩
          rcases mem2 x hx with rfl | ⟨_, h5⟩
          · rw [← e2, hf]
          · exact absurd e1 h5
      · rw [if_neg c]
        constructor
        · intro hu
          obtain ⟨x, hx, e1, e2⟩ := (hM a u).mp hu
          obtain ⟨i, hi⟩ := List.getElem?_of_mem hx
          have hne : j ≠ i := by
            intro hji; subst hji; rw [h2] at hi
            have := Option.some.inj hi
            subst this
            rw [h3] at e1
            simp at e1; exact c e1.symm
          exact ⟨x, List.mem_of_getElem? (i := i) (by rw [hg, if_neg hne, hi]), e1, e2⟩
        · rintro ⟨x, hx, e1, e2⟩
          rcases mem2 x hx with rfl | ⟨h5, _⟩
          · rw [hf] at e1; simp at e1; exact absurd e1.symm c
          · exact (hM a u).mpr ⟨x, h5, e1, e2⟩
theorem run_clear_map {P : Program} {w : World} {b : Nat} {M : Int → Option Value} (t kt et : TypeId) (ht : P.underlying t = some (.map kt et)) (h : MapAt w b M) :
    ∃ w', (∀ ty, (Builtin.clear_ #[t] ty #[.map (some b)]).run P w = .ok (.tuple #[]) w') ∧ MapAt w' b (fun _ => none) ∧ Chg (· = b) w w' := by
  obtain ⟨es, cl, hb, hwf, hM⟩ := h
  refine ⟨{ w with heap := w.heap.setIfInBounds b (.map #[] cl) }, fun ty => ?_, ⟨#[], cl, (heap_set hb).1, ⟨by simp, by simp, by simp, by simp⟩, by simp⟩, chg_block hb⟩
  simp [Builtin.clear_, run_underlying ht, MapKept.run_getObj_map hb, MapKept.run_setObj_map _ hb, Result.andThen]
section
variable {P : Program} {ops : Array Oper} {rest : List Oper} {o : Oper} {a : Act} {w : World} {Q : Exit → Act → World → Prop}
theorem lookup_at (hgd : o.guard = none) (t : TypeId) (m x : Operand) (c : Bool) (ho : o.op = .lookup t m x c) (M X v : Value) (hm : a.eval m = M) (hx : a.eval x = X) (hr : (Instr.lookup t M X c).run P w = .ok v w)
    (h : wpList P ops Q rest (a.put o.dst v) w) : wpList P ops Q (o :: rest) a w := by
  refine wpList_plain hgd fun K hK => ?_
  unfold Oper.wp
  simp [execOp, ho, hm, hx, hr, Result.andThen]
  exact hK _ _ h
theorem update_at (hgd : o.guard = none) (t kt et : TypeId) (m x v : Operand) (ho : o.op = .mapUpdate t m x v) (ht : P.underlying t = some (.map kt et)) (hk : P.underlying kt = some (.int .i64)) (b : Nat) (M : Int → Option Value) (k : Int) (V : Value)
    (hm : a.eval m = .map (some b)) (hx : a.eval x = .int .i64 k) (hv : a.eval v = V) (hM : MapAt w b M)
    (h : ∀ w', MapAt w' b (updM M k V) → Chg (· = b) w w' → wpList P ops Q rest (a.put o.dst undef) w') : wpList P ops Q (o :: rest) a w := by
  refine wpList_plain hgd fun K hK => ?_
  obtain ⟨w', hr, h1, h2⟩ := run_update t kt et ht hk hM k V
  unfold Oper.wp
  simp [execOp, ho, hm, hx, hv, hr, Result.andThen]
  exact hK _ _ (h w' h1 h2)
end
end Go.Proofs.YtolojkfpokmdkaaRR.Hp

-- XRange
namespace Go.Proofs.YtolojkfpokmdkaaRR.Hp
open Go.RowKit Go.MapKept
set_option linter.unusedVariables false
set_option linter.unusedSimpArgs false
/-- block r goes through the map in block b, which is M; 'left': is it still to come -/
def Ranging (w : World) (b r : Nat) (M : Int → Option Value) (left : Int → Bool) : Prop :=
  ∃ es clock since seen c0, w.heap[b]? = some (.map es clock) ∧ MapWf es clock ∧ (∀ k v, M k = some v ↔ ∃ e ∈ es.toList, e.key = .int .i64 k ∧ e.val = v) ∧
    w.heap[r]? = some (.mapIter (some b) since seen c0) ∧ (∀ x ∈ es.toList, x.born < since) ∧ (∀ x ∈ es.toList, ∀ k, x.key = .int .i64 k → left k = !seen.contains x.born) ∧ (∀ k, left k = true → M k ≠ none) ∧ since ≤ c0 ∧ since ≤ clock
theorem Ranging.map {w : World} {b r : Nat} {M : Int → Option Value} {left : Int → Bool} (h : Ranging w b r M left) : MapAt w b M := by
  obtain ⟨es, clock, _, _, _, h1, h2, h3, _⟩ := h
  exact ⟨es, clock, h1, h2, h3⟩
theorem Ranging.chg {S : Nat → Prop} {w w' : World} {b r : Nat} {M : Int → Option Value} {left : Int → Bool} (h : Ranging w b r M left) (hc : Chg S w w') (h1 : ¬ S b) (h2 : ¬ S r) : Ranging w' b r M left := by
  obtain ⟨es, clock, since, seen, c0, hb, a, c, hr, rest⟩ := h
  exact ⟨es, clock, since, seen, c0, hc.blk hb h1, a, c, hc.blk hr h2, rest⟩
theorem Ranging.ne {w : World} {b r : Nat} {M : Int → Option Value} {left : Int → Bool} (h : Ranging w b r M left) : r ≠ b := by
  obtain ⟨es, clock, since, seen, c0, hb, a, c, hr, rest⟩ := h
  intro e
  rw [e, hb] at hr
  cases hr
theorem Ranging.lt {w : World} {b r : Nat} {M : Int → Option Value} {left : Int → Bool} (h : Ranging w b r M left) : r < w.heap.size := by
  obtain ⟨es, clock, since, seen, c0, hb, a, c, hr, rest⟩ := h
  exact blt hr
theorem range_run {P : Program} {w : World} {b : Nat} {M : Int → Option Value} {t k e : TypeId} (h : MapAt w b M) (ht : P.underlying t = some (.map k e)) :
    ∃ w', (Instr.range t (.map (some b))).run P w = .ok (.pointer (some ⟨w.heap.size, 0, none⟩)) w' ∧ Ranging w' b w.heap.size M (fun k => (M k).isSome) ∧ Chg NoB w w' := by
  have hlt := h.lt
  obtain ⟨es, clock, hb, hwf, hM⟩ := h
  refine ⟨_, run_range_map w t k e b es clock ht hb, ⟨es, clock, clock, #[], clock, ((MapKept.heap_alloc w _).2 b hlt).trans hb, hwf, hM, (MapKept.heap_alloc w _).1, hwf.2.2.2, fun x hx k hk => ?_, fun k hk => ?_, Nat.le_refl _, Nat.le_refl _⟩, (Chg.refl NoB w).alloc _⟩
  · show (M k).isSome = _
    rw [(hM k x.val).mpr ⟨x, hx, hk, rfl⟩]; simp
  · intro e
    have hk' : (M k).isSome = true := hk
    rw [e] at hk'; cases hk'
theorem next_run {P : Program} {w : World} {b r : Nat} {M : Int → Option Value} {left : Int → Bool} (h : Ranging w b r M left) (ty : TypeId) :
    ((∀ k, left k = false) ∧ (Instr.next (.pointer (some ⟨r, 0, none⟩)) false ty).run P w = .ok (.tuple #[.bool false]) w) ∨
    ∃ k v w', left k = true ∧ M k = some v ∧ (Instr.next (.pointer (some ⟨r, 0, none⟩)) false ty).run P w = .ok (.tuple #[.bool true, .int .i64 k, v]) w' ∧ Ranging w' b r M (fun j => left j && !(j == k)) ∧
      w'.rangeLeft b r < w.rangeLeft b r ∧ Chg (· = r) w w' ∧ (Instr.entry (.pointer (some ⟨r, 0, none⟩))).run P w' = .ok (.tuple #[.int .i64 k, v]) w' := by
  have hne := h.ne
  obtain ⟨es, clock, since, seen, c0, hb, hwf, hM, hr, hold, hl1, hl2, hsc, hsk⟩ := h
  have hnd : (es.toList.map (·.born)).Nodup := by rw [List.nodup_iff_pairwise_ne, List.pairwise_map]; exact hwf.2.2.1
  rcases run_next_at (P := P) w ty r b since c0 seen es clock hr hb hold hsc with ⟨h0, hrun⟩ | ⟨e, he, w1, hal, hrun⟩
  · refine .inl ⟨fun k => ?_, hrun⟩
    cases hk : left k
    · rfl
    · cases hv : M k with
      | none => exact absurd hv (hl2 k hk)
      | some v =>
        obtain ⟨x, hx, hxk, _⟩ := (hM k v).mp hv
        rw [hl1 x hx k hxk, all_seen es seen h0 x hx] at hk
        cases hk
  · obtain ⟨hem, hes⟩ := mem_left he
    obtain ⟨k, hk⟩ := hwf.1 e hem
    have hr1 : w1.heap[r]? = some (.mapIter (some b) since seen c0) := by rcases hal with rfl | rfl <;> exact hr
    have hb1 : w1.heap[b]? = some (.map es clock) := by rcases hal with rfl | rfl <;> exact hb
    have hset := heap_set (o' := .mapIter (some b) since (seen.push e.born) clock) hr1
    have hb' : (ChangeMaps.setBlock w1 r (.mapIter (some b) since (seen.push e.born) clock)).heap[b]? = some (.map es clock) := (hset.2 b (fun e1 => hne e1.symm)).trans hb1
    rw [hk] at hrun
    have hen := run_entry_at (P := P) _ r b since seen es clock e hset.1 hb' hem hnd
    rw [hk] at hen
    refine .inr ⟨k, e.val, _, by rw [hl1 e hem k hk, hes]; rfl, (hM k e.val).mpr ⟨e, hem, hk, rfl⟩, hrun, ⟨es, clock, since, seen.push e.born, clock, hb', hwf, hM, hset.1, hold, fun x hx j hj => ?_, fun j hj => hl2 j (by simp at hj; exact hj.1), hsk, hsk⟩, ?_, ?_, hen⟩
    · show (left j && !(j == k)) = _
      rw [hl1 x hx j hj, contains_push]
      by_cases c : j = k
      · subst c
        have : x = e := entry_eq_of_key hwf.2.1 hx hem (by rw [hj, hk])
        subst this
        simp
      · have : (x.born == e.born) = false := by
          rw [beq_eq_false_iff_ne]
          intro hbe
          have := born_inj hnd hx hem hbe
          subst this
          rw [hk] at hj
          exact c (by simpa using hj.symm)
        rw [this]
        simp [c]
    · simp only [World.rangeLeft, hb, hr, hb', hset.1, ChangeMaps.setBlock] at *
      exact left_shrinks es seen e he
    · have h1 : Chg (· = r) w w1 := by rcases hal with rfl | rfl; exact Chg.refl _ _; exact (Chg.refl _ _).drew
      exact h1.trans (chg_block hr1) (fun _ _ x => x)
section
variable {P : Program} {ops : Array Oper} {rest : List Oper} {o : Oper} {a : Act} {w : World} {Q : Exit → Act → World → Prop}
theorem range_at (hg : o.guard = none) (m : Operand) (t : TypeId) (hop : o.op = Op.range t m) (k e : TypeId) (ht : P.underlying t = some (.map k e)) (b : Nat) (M : Int → Option Value)
    (hm : a.eval m = .map (some b)) (h : MapAt w b M)
    (hK : ∀ w', Ranging w' b w.heap.size M (fun k => (M k).isSome) → Chg NoB w w' → wpList P ops Q rest (a.put o.dst (.pointer (some ⟨w.heap.size, 0, none⟩))) w') :
    wpList P ops Q (o :: rest) a w := by
  refine wpList_plain hg fun K' hK' => ?_
  obtain ⟨w', hrun, r1, r2⟩ := range_run h ht
  unfold Oper.wp
  simp [execOp, hop, hm, hrun, Result.andThen]
  exact hK' _ _ (hK w' r1 r2)
theorem next_at (hg : o.guard = none) (it : Operand) (hop : o.op = Op.next it false) (b r : Nat) (M : Int → Option Value) (left : Int → Bool)
    (hit : a.eval it = .pointer (some ⟨r, 0, none⟩)) (h : Ranging w b r M left)
    (hDone : (∀ k, left k = false) → wpList P ops Q rest (a.put o.dst (.tuple #[.bool false])) w)
    (hMore : ∀ k v w', left k = true → M k = some v → Ranging w' b r M (fun j => left j && !(j == k)) → w'.rangeLeft b r < w.rangeLeft b r → Chg (· = r) w w' → (Instr.entry (.pointer (some ⟨r, 0, none⟩))).run P w' = .ok (.tuple #[.int .i64 k, v]) w' →
      wpList P ops Q rest (a.put o.dst (.tuple #[.bool true, .int .i64 k, v])) w') :
    wpList P ops Q (o :: rest) a w := by
  refine wpList_plain hg fun K' hK' => ?_
  unfold Oper.wp
  rcases next_run (P := P) h o.type with ⟨h0, hrun⟩ | ⟨k, v, w', h1, h2, hrun, h3, h4, h5, hen⟩
  · simp [execOp, hop, hit, hrun, Result.andThen]
    exact hK' _ _ (hDone h0)
  · simp [execOp, hop, hit, hrun, Result.andThen]
    exact hK' _ _ (hMore k v w' h1 h2 h3 h4 h5 hen)
theorem clear_at (hg : o.guard = none) (m : Operand) (t k e : TypeId) (hop : o.op = Op.call { callee := Callee.builtin Builtin.clear, args := #[m], argTypes := #[t] }) (ht : P.underlying t = some (.map k e)) (b : Nat) (M : Int → Option Value)
    (hm : a.eval m = .map (some b)) (h : MapAt w b M)
    (hK : ∀ w', MapAt w' b (fun _ => none) → Chg (· = b) w w' → wpList P ops Q rest (a.put o.dst (.tuple #[])) w') :
    wpList P ops Q (o :: rest) a w := by
  refine wpList_plain hg fun K' hK' => ?_
  obtain ⟨w', hrun, r1, r2⟩ := run_clear_map (P := P) t k e ht h
  unfold Oper.wp
  simp [execOp, hop, resolve, invoke, builtin, hm, hrun, Result.andThen]
  exact hK' _ _ (hK w' r1 r2)
end
end Go.Proofs.YtolojkfpokmdkaaRR.Hp

-- XSame
namespace Go.Proofs.YtolojkfpokmdkaaRR.By
open Go.RowKit Go.Proofs.YtolojkfpokmdkaaRR.Hp
set_option linter.unusedVariables false
set_option linter.unusedSimpArgs false
def SameRel (l1 l2 : List Int) (w : World) (i : Value) (wr : World) : Prop := ∃ k : Nat, k ≤ l1.length ∧ i = .int .i64 k ∧ l1.take k = l2.take k ∧ Chg NoB w wr
def RetB (b : Bool) (w : World) (e : Ending) (w' : World) : Prop := e = .returned (.bool b) ∧ Chg NoB w w'
theorem RetB.below {w : World} {e : Ending} {w' : World} (h : RetB true w e w') : e = .returned (.bool true) ∧ Below w.heap.size w w' := ⟨h.1, h.2.below (Nat.le_refl _) (fun i hi => absurd hi (fun x => x))⟩
end Go.Proofs.YtolojkfpokmdkaaRR.By

-- XWordP
namespace Go.Proofs.YtolojkfpokmdkaaRR.WordP
open Go.RowKit
set_option linter.unusedVariables false
set_option linter.unusedSimpArgs false
-- general lemmas on Go.bits at u64, over numbers
theorem bits_and_u64 (a b : Nat) (ha : a < 18446744073709551616) (hb : b < 18446744073709551616) : Go.bits .and .u64 a b = ((a &&& b : Nat) : Int) := by
  have ha' : a % 2 ^ 64 = a := Nat.mod_eq_of_lt (by simpa using ha)
  have hb' : b % 2 ^ 64 = b := Nat.mod_eq_of_lt (by simpa using hb)
  show IntKind.u64.wrap ((BitVec.ofInt 64 a &&& BitVec.ofInt 64 b).toNat : Int) = _
  simp only [BitVec.ofInt_natCast, BitVec.toNat_and, BitVec.toNat_ofNat, ha', hb']
  have : a &&& b ≤ b := Nat.and_le_right
  exact IntWalk.u64_in _ ⟨Int.natCast_nonneg _, by omega⟩
theorem bits_or_u64 (a b : Nat) (ha : a < 18446744073709551616) (hb : b < 18446744073709551616) : Go.bits .or .u64 a b = ((a ||| b : Nat) : Int) := by
  have ha' : a % 2 ^ 64 = a := Nat.mod_eq_of_lt (by simpa using ha)
  have hb' : b % 2 ^ 64 = b := Nat.mod_eq_of_lt (by simpa using hb)
  show IntKind.u64.wrap ((BitVec.ofInt 64 a ||| BitVec.ofInt 64 b).toNat : Int) = _
  simp only [BitVec.ofInt_natCast, BitVec.toNat_or, BitVec.toNat_ofNat, ha', hb']
  have : a ||| b < 2 ^ 64 := Nat.or_lt_two_pow (by simpa using ha) (by simpa using hb)
  exact IntWalk.u64_in _ ⟨Int.natCast_nonneg _, by omega⟩
theorem bits_andNot_u64 (a b : Nat) (ha : a < 18446744073709551616) (hb : b < 18446744073709551616) : Go.bits .andNot .u64 a b = (a : Int) - ((a &&& b : Nat) : Int) := by
  have ha' : a % 2 ^ 64 = a := Nat.mod_eq_of_lt (by simpa using ha)
  have hb' : b % 2 ^ 64 = b := Nat.mod_eq_of_lt (by simpa using hb)
  have key : (BitVec.ofNat 64 a &&& BitVec.ofNat 64 b) + (BitVec.ofNat 64 a &&& ~~~ BitVec.ofNat 64 b) = BitVec.ofNat 64 a := by
    rw [BitVec.add_eq_or_of_and_eq_zero]
    · apply BitVec.eq_of_getLsbD_eq; intro i hi; simp only [BitVec.getLsbD_or, BitVec.getLsbD_and, BitVec.getLsbD_not, hi]; cases (BitVec.ofNat 64 a).getLsbD i <;> cases (BitVec.ofNat 64 b).getLsbD i <;> rfl
    · apply BitVec.eq_of_getLsbD_eq; intro i hi; simp only [BitVec.getLsbD_and, BitVec.getLsbD_not, hi, BitVec.getLsbD_zero]; cases (BitVec.ofNat 64 a).getLsbD i <;> cases (BitVec.ofNat 64 b).getLsbD i <;> rfl
  have k2 := congrArg BitVec.toNat key
  rw [BitVec.toNat_add, BitVec.toNat_and, BitVec.toNat_ofNat, BitVec.toNat_ofNat, ha', hb'] at k2
  have hq : (BitVec.ofNat 64 a &&& ~~~ BitVec.ofNat 64 b).toNat ≤ a := by
    rw [BitVec.toNat_and, BitVec.toNat_ofNat, ha']; exact Nat.and_le_left
  have hp : a &&& b ≤ a := Nat.and_le_left
  show IntKind.u64.wrap ((BitVec.ofInt 64 a &&& ~~~ BitVec.ofInt 64 b).toNat : Int) = _
  simp only [BitVec.ofInt_natCast]
  generalize (BitVec.ofNat 64 a &&& ~~~ BitVec.ofNat 64 b).toNat = q at *
  rw [IntWalk.u64_in _ ⟨Int.natCast_nonneg _, by omega⟩]
  omega
theorem and_2_40 (a : Nat) : a &&& 1099511627776 = a / 1099511627776 % 2 * 1099511627776 := by
  apply Nat.eq_of_testBit_eq
  intro i
  rw [Nat.testBit_and, show (1099511627776 : Nat) = 2 ^ 40 from rfl, Nat.testBit_two_pow]
  rw [Nat.testBit_mul_two_pow]
  by_cases h : 40 = i
  · subst h
    simp [Nat.testBit_eq_decide_div_mod_eq]
  · simp only [h, decide_false, Bool.and_false]
    by_cases h2 : 40 ≤ i
    · simp only [h2, decide_true, Bool.true_and]
      have : a / 2 ^ 40 % 2 < 2 ^ (i - 40) := by
        have h3 : 2 ^ 1 ≤ 2 ^ (i - 40) := Nat.pow_le_pow_right (by omega) (by omega)
        omega
      rw [Nat.testBit_lt_two_pow this]
    · simp [h2]
theorem and40 (v : Int) (h0 : 0 ≤ v) (h1 : v < 18446744073709551616) : Go.bits .and .u64 v 1099511627776 = v / 1099511627776 % 2 * 1099511627776 := by
  obtain ⟨a, rfl⟩ := Int.eq_ofNat_of_zero_le h0
  have := bits_and_u64 a 1099511627776 (by omega) (by omega)
  rw [show ((1099511627776 : Nat) : Int) = 1099511627776 from rfl] at this
  rw [this, and_2_40]
  omega
theorem andNot40 (v : Int) (h0 : 0 ≤ v) (h1 : v < 18446744073709551616) : Go.bits .andNot .u64 v 1099511627776 = v - v / 1099511627776 % 2 * 1099511627776 := by
  obtain ⟨a, rfl⟩ := Int.eq_ofNat_of_zero_le h0
  have := bits_andNot_u64 a 1099511627776 (by omega) (by omega)
  rw [show ((1099511627776 : Nat) : Int) = 1099511627776 from rfl] at this
  rw [this, and_2_40]
  omega
theorem or40 (v : Int) (h0 : 0 ≤ v) (h1 : v < 1099511627776) : Go.bits .or .u64 v 1099511627776 = v + 1099511627776 := by
  obtain ⟨a, rfl⟩ := Int.eq_ofNat_of_zero_le h0
  have := bits_or_u64 a 1099511627776 (by omega) (by omega)
  rw [show ((1099511627776 : Nat) : Int) = 1099511627776 from rfl] at this
  have h2 := Nat.two_pow_add_eq_or_of_lt (i := 40) (b := a) (by omega) 1
  rw [this, Nat.or_comm]
  rw [show (1099511627776 : Nat) = 2 ^ 40 * 1 from rfl, ← h2]
  omega
theorem bind_ok {α β : Type} {x : Option α} {a : α} {f : α → Option β} (h : x = some a) : x.bind f = f a := by rw [h]; rfl
-- word, over numbers
def Bytes (l : List Int) : Prop := ∀ x, x ∈ l → 0 ≤ x ∧ x < 256
def leN : List Int → Int
  | [] => 0
  | b :: r => b + 256 * leN r
def digs (v : Int) : Nat → List Int
  | 0 => []
  | n + 1 => v % 256 :: digs (v / 256) n
theorem w64_id' (n : Int) (h0 : -9223372036854775808 ≤ n) (h1 : n < 9223372036854775808) : wrap64 n = n := by unfold wrap64; omega
theorem u64_id' (n : Int) (h0 : 0 ≤ n) (h1 : n < 18446744073709551616) : IntKind.u64.wrap n = n := IntWalk.u64_in n ⟨h0, by omega⟩
theorem digs_length (v : Int) (n : Nat) : (digs v n).length = n := by
  induction n generalizing v with
  | zero => rfl
  | succ n ih => simp [digs, ih]
theorem pow256 (i : Nat) : (256 : Int) ^ i = 2 ^ (8 * i) := by rw [show (256 : Int) = 2 ^ 8 from rfl, ← Int.pow_mul]
theorem pow256n (i : Nat) : (256 : Nat) ^ i = 2 ^ (8 * i) := by rw [show (256 : Nat) = 2 ^ 8 from rfl, ← Nat.pow_mul]
theorem leN_append (a b : List Int) : leN (a ++ b) = leN a + 256 ^ a.length * leN b := by
  induction a with
  | nil => simp [leN]
  | cons x r ih =>
    simp only [List.cons_append, leN, ih, List.length_cons, Int.pow_succ]
    rw [Int.mul_add, ← Int.mul_assoc, Int.mul_comm 256 (256 ^ r.length)]; omega
theorem leN_range (l : List Int) (h : Bytes l) : 0 ≤ leN l ∧ leN l < 256 ^ l.length := by
  induction l with
  | nil => simp [leN]
  | cons x r ih =>
    have hx := h x (by simp)
    have hr := ih fun y hy => h y (by simp [hy])
    simp only [leN, List.length_cons, Int.pow_succ]
    omega
theorem take_snoc_le (l : List Int) (i : Nat) (h : i < l.length) : leN (l.take (i + 1)) = leN (l.take i) + 256 ^ i * l[i] := by
  rw [List.take_succ_eq_append_getElem h, leN_append]
  simp [leN, Nat.min_eq_left (Nat.le_of_lt h)]
def spl (l : List Int) (a : Nat) (ds : List Int) : List Int := l.take a ++ ds ++ l.drop (a + ds.length)
theorem spl_length (l : List Int) (a : Nat) (ds : List Int) (h : a + ds.length ≤ l.length) : (spl l a ds).length = l.length := by
  simp [spl]; omega
theorem spl_nil (l : List Int) (a : Nat) : spl l a [] = l := by simp [spl]
theorem spl_snoc (l : List Int) (a : Nat) (ds : List Int) (x : Int) (h : a + ds.length < l.length) : (spl l a ds).set (a + ds.length) x = spl l a (ds ++ [x]) := by
  apply List.ext_getElem
  · rw [List.length_set, spl_length _ _ _ (by omega), spl_length _ _ _ (by simp; omega)]
  · intro j h1 h2
    rw [List.length_set, spl_length _ _ _ (by omega)] at h1
    simp only [spl, List.getElem_set, List.getElem_append, List.length_append, List.length_take, List.getElem_take, List.getElem_drop, List.length_cons, List.length_nil]
    have hm : min a l.length = a := by omega
    simp only [hm]
    by_cases c1 : j < a
    · simp [c1, show ¬ (a + ds.length = j) from by omega, show j < a + ds.length from by omega, show j < a + (ds.length + 1) from by omega]
    · by_cases c2 : j < a + ds.length
      · simp [c1, c2, show ¬ (a + ds.length = j) from by omega, show j < a + (ds.length + 1) from by omega, show j - a < ds.length from by omega]
      · by_cases c3 : j = a + ds.length
        · subst c3; simp [c1, c2]
        · simp [c1, c2, show ¬ (a + ds.length = j) from by omega, show ¬ (j < a + (ds.length + 1)) from by omega]
          congr 1; omega
theorem digs_snoc (v : Int) (n : Nat) : digs v (n + 1) = digs v n ++ [v / 256 ^ n % 256] := by
  induction n generalizing v with
  | zero => simp [digs]
  | succ n ih =>
    rw [digs, ih (v / 256)]
    simp only [digs, List.cons_append]
    rw [Int.ediv_ediv_of_nonneg (by omega), Int.pow_succ, Int.mul_comm 256]
theorem digs_bytes (v : Int) (n : Nat) : Bytes (digs v n) := by
  induction n generalizing v with
  | zero => intro x hx; simp [digs] at hx
  | succ n ih =>
    intro x hx
    simp only [digs, List.mem_cons] at hx
    rcases hx with rfl | hx
    · omega
    · exact ih _ x hx
theorem leN_digs (v : Int) (n : Nat) (h : 0 ≤ v) : leN (digs v n) = v % 256 ^ n := by
  induction n generalizing v with
  | zero => simp [digs, leN]
  | succ n ih =>
    simp only [digs, leN]
    rw [ih (v / 256) (by omega), Int.pow_succ]
    obtain ⟨a, rfl⟩ := Int.eq_ofNat_of_zero_le h
    rw [Int.mul_comm (256 ^ n) 256]
    have e := Nat.mod_mul (x := a) (a := 256) (b := 256 ^ n)
    have e2 := congrArg (fun z : Nat => (z : Int)) e
    simp only [Int.natCast_emod, Int.natCast_mul, Int.natCast_add, Int.natCast_ediv, Int.natCast_pow] at e2
    exact e2.symm
theorem or_shift2 (acc b : Int) (i : Nat) (hi : i < 8) (h0 : 0 ≤ acc) (h1 : acc < 256 ^ i) (hb0 : 0 ≤ b) (hb1 : b < 256) :
    Go.bits .or .u64 acc (IntKind.u64.wrap (b * 2 ^ (8 * i))) = acc + 256 ^ i * b := by
  obtain ⟨a, rfl⟩ := Int.eq_ofNat_of_zero_le h0
  obtain ⟨c, rfl⟩ := Int.eq_ofNat_of_zero_le hb0
  have hc : c < 256 := by omega
  have ha : a < 2 ^ (8 * i) := by rw [← pow256n]; exact Int.ofNat_lt.mp (by rw [Int.natCast_pow]; exact h1)
  have hp : 2 ^ (8 * i) * c < 18446744073709551616 := by
    have h1 : 2 ^ (8 * i) ≤ 2 ^ 56 := Nat.pow_le_pow_right (by omega) (by omega)
    have h2 : 2 ^ (8 * i) * c ≤ 2 ^ 56 * 255 := Nat.mul_le_mul h1 (by omega)
    exact Nat.lt_of_le_of_lt h2 (by decide)
  have ha' : a < 18446744073709551616 := by
    have h1 : 2 ^ (8 * i) ≤ 2 ^ 56 := Nat.pow_le_pow_right (by omega) (by omega)
    omega
  rw [show (c : Int) * 2 ^ (8 * i) = ((2 ^ (8 * i) * c : Nat) : Int) from by rw [Int.natCast_mul, Int.natCast_pow, Int.mul_comm]; rfl]
  rw [u64_id' _ (Int.natCast_nonneg _) (by omega), bits_or_u64 a _ ha' hp, Nat.or_comm, ← Nat.two_pow_add_eq_or_of_lt ha, pow256]
  rw [Int.natCast_add, Int.natCast_mul, Int.natCast_pow, Int.add_comm]; rfl
theorem get_step (l : List Int) (hb : Bytes l) (a k : Nat) (hk : k < 8) (hak : a + k < l.length) :
    Go.bits .or .u64 (leN ((l.drop a).take k)) (IntKind.u64.wrap (l.getD (a + k) 0 * 2 ^ (8 * k))) = leN ((l.drop a).take (k + 1)) := by
  have hlen : (l.drop a).length = l.length - a := List.length_drop
  have hil : k < (l.drop a).length := by omega
  have hrange := leN_range ((l.drop a).take k) (fun x hx => hb x (List.mem_of_mem_drop (List.mem_of_mem_take hx)))
  rw [List.length_take, Nat.min_eq_left (by omega)] at hrange
  have hbyte := hb (l[a + k]'hak) (List.getElem_mem _)
  have e1 : l.getD (a + k) 0 = l[a + k]'hak := by simp [hak]
  rw [e1, or_shift2 _ _ k hk hrange.1 hrange.2 hbyte.1 hbyte.2, take_snoc_le _ k hil, List.getElem_drop]
theorem put_step (l : List Int) (a k : Nat) (v : Int) (h : a + k < l.length) : (spl l a (digs v k)).set (a + k) (v / 2 ^ (8 * k) % 256) = spl l a (digs v (k + 1)) := by
  have e := spl_snoc l a (digs v k) (v / 2 ^ (8 * k) % 256) (by rw [digs_length]; exact h)
  rw [digs_length] at e
  rw [e, digs_snoc, pow256]
end Go.Proofs.YtolojkfpokmdkaaRR.WordP

-- XWordPut
namespace Go.Proofs.YtolojkfpokmdkaaRR.Word
open Go.RowKit Go.Proofs.YtolojkfpokmdkaaRR.Hp Go.Proofs.YtolojkfpokmdkaaRR.WordP
set_option linter.unusedVariables false
set_option linter.unusedSimpArgs false
def thereB (L at_ n : Int) : Bool := decide (0 ≤ n ∧ n ≤ 8 ∧ 0 ≤ at_ ∧ at_ ≤ L ∧ n ≤ L - at_)
set_option maxHeartbeats 1000000 in
theorem there_any (A : Option Addr) (L c : Nat) (at_ n : Int) (w : World) (hL : L ≤ 140737488351232) :
    Calls Try.prog 51 #[.slice A L c, .int .i64 at_, .int .i64 n] w fun e w' => e = .returned (.bool (thereB L at_ n)) ∧ w = w' := by
  by_cases h1 : 0 ≤ n
  · by_cases h2 : n ≤ 8
    · by_cases h3 : 0 ≤ at_
      · by_cases h4 : at_ ≤ (L : Int)
        · by_cases h5 : n ≤ (L : Int) - at_
          · rw [show thereB L at_ n = true from decide_eq_true ⟨h1, h2, h3, h4, h5⟩]
            go_enter Try.func51, Try.ntmps51
            go_wp2
            go_ret
            exact ⟨rfl, rfl⟩
          · rw [show thereB L at_ n = false from decide_eq_false (fun x => h5 x.2.2.2.2)]
            go_enter Try.func51, Try.ntmps51
            go_wp2
            go_ret
            exact ⟨rfl, rfl⟩
        · rw [show thereB L at_ n = false from decide_eq_false (fun x => h4 x.2.2.2.1)]
          go_enter Try.func51, Try.ntmps51
          go_wp2
          go_ret
          exact ⟨rfl, rfl⟩
      · rw [show thereB L at_ n = false from decide_eq_false (fun x => h3 x.2.2.1)]
        go_enter Try.func51, Try.ntmps51
        go_wp2
        go_ret
        exact ⟨rfl, rfl⟩
    · rw [show thereB L at_ n = false from decide_eq_false (fun x => h2 x.2.1)]
      go_enter Try.func51, Try.ntmps51
      go_wp2
      go_ret
      exact ⟨rfl, rfl⟩
  · rw [show thereB L at_ n = false from decide_eq_false (fun x => h1 x.1)]
    go_enter Try.func51, Try.ntmps51
    go_wp2
    go_ret
    exact ⟨rfl, rfl⟩
/-- A slice of bytes that lies in a block: where, and the bytes. -/
structure InB (w : World) (g off : Nat) (C : Array Value) (T : Nat) (l : List Int) : Prop where
  bk : Blk w g C T
  fit : off + l.length ≤ C.size
  by_ : ∀ j, j < l.length → C[off + j]? = some (.int .u8 (l.getD j 0))
theorem InB.cell {w : World} {g off : Nat} {C : Array Value} {T : Nat} {l : List Int} (h : InB w g off C T l) (j : Nat) (hj : j < l.length) : w.cell? ⟨g, off + j, none⟩ = some (.int .u8 (l.getD j 0)) := by
  rw [bcell h.bk]; exact h.by_ j hj
theorem InB.rd {w : World} {g off : Nat} {C : Array Value} {T : Nat} {l : List Int} (h : InB w g off C T l) (hl : l.length ≤ 140737488351232) : Rd w .u8 (some ⟨g, off, none⟩) l := by
  refine ⟨hl, fun _ => ⟨_, rfl, fun j hj => ?_⟩⟩
  have e : (⟨g, off, none⟩ : Addr).add j = ⟨g, off + j, none⟩ := by unfold Addr.add; split <;> simp_all
  rw [e]; exact h.cell j hj
theorem InB.set {w : World} {g off : Nat} {C : Array Value} {T : Nat} {l : List Int} (h : InB w g off C T l) (i : Nat) (x : Int) (hi : i < l.length) :
    InB (w.setCell ⟨g, off + i, none⟩ (.int .u8 x)) g off (C.setIfInBounds (off + i) (.int .u8 x)) T (l.set i x) := by
  have hf := h.fit
  refine ⟨bset h.bk _ _, by simpa using h.fit, fun j hj => ?_⟩
  rw [List.length_set] at hj
  by_cases e : i = j
  · subst e
    rw [Array.getElem?_setIfInBounds_self_of_lt (by omega)]
    simp [hi]
  · rw [Array.getElem?_setIfInBounds_ne (by omega), h.by_ j hj]
    simp [List.getD_eq_getElem?_getD, List.getElem?_set, e]
theorem put_no (A : Option Addr) (L c : Nat) (at_ v n : Int) (w : World) (hL : L ≤ 140737488351232) (h : thereB L at_ n = false) :
    Calls Try.prog 40 #[.slice A L c, .int .i64 at_, .int .u64 v, .int .i64 n] w fun e w' => e = .returned (.bool false) ∧ w = w' := by
  go_enter Try.func40, Try.ntmps40
  go_wp2_with fail
  refine (there_any A L c at_ n _ hL).mono ?_
  rintro e w1 ⟨rfl, rfl⟩
  rw [h]
  go_wp2_with fail
  go_ret
  exact ⟨rfl, rfl⟩
/-- what stands in a block's other cells stays -/
def Same (off L : Nat) (C C' : Array Value) : Prop := C'.size = C.size ∧ ∀ i, i < off ∨ off + L ≤ i → C'[i]? = C[i]?
def PutRel (w : World) (g off : Nat) (C : Array Value) (T : Nat) (l : List Int) (a n : Nat) (v : Int) (i : Value) (wr : World) : Prop :=
  ∃ (k : Nat) (C' : Array Value), k ≤ n ∧ i = .int .i64 k ∧ InB wr g off C' T (spl l a (digs v k)) ∧ Same off l.length C C' ∧ Chg (· = g) w wr
def PutPost (w : World) (g off : Nat) (C : Array Value) (T : Nat) (l' : List Int) (L : Nat) (e : Ending) (w' : World) : Prop :=
  ∃ C', e = .returned (.bool true) ∧ InB w' g off C' T l' ∧ Same off L C C' ∧ Chg (· = g) w w'
set_option maxHeartbeats 2000000 in
theorem put_yes (g off c : Nat) (C : Array Value) (T : Nat) (l : List Int) (a n : Nat) (v : Int) (w : World) (h : InB w g off C T l) (hL : l.length ≤ 140737488351232) (hv0 : 0 ≤ v) (hv1 : v < 18446744073709551616) (hn : n ≤ 8) (han : a + n ≤ l.length) :
    Calls Try.prog 40 #[.slice (some ⟨g, off, none⟩) l.length c, .int .i64 a, .int .u64 v, .int .i64 n] w (PutPost w g off C T (spl l a (digs v n)) l.length) := by
  have ht : thereB l.length a n = true := decide_eq_true ⟨by omega, by omega, by omega, by omega, by omega⟩
  go_enter Try.func40, Try.ntmps40
  go_wp2_with fail
  refine (there_any _ l.length c a n _ hL).mono ?_
  rintro e w1 ⟨rfl, rfl⟩
  rw [ht]
  clear ht
  go_wp2_with fail
  go_loopw [16] (fun i wr => PutRel w g off C T l a n v i wr) (fun i wr => n - (intOf i).toNat)
  case atStart => exact ⟨0, C, by omega, rfl, by simpa [digs, spl_nil] using h, ⟨rfl, fun _ _ => rfl⟩, Chg.refl _ _⟩
  case round =>
    obtain ⟨k, C', hk, rfl, hI, hS, hC⟩ := hrel
    by_cases hlt : k < n
    · have hsl : (spl l a (digs v k)).length = l.length := spl_length _ _ _ (by rw [digs_length]; omega)
      have hcell := hI.cell (a + k) (by omega)
      have hfr := fun i => bfroz hI.bk i
      have st := put_step l a k v (by omega)
      have hfit := hI.fit
      have fin : PutRel w g off C T l a n v (.int .i64 ((k : Int) + 1)) (wr.setCell ⟨g, off + (a + k), none⟩ (.int .u8 (v / 2 ^ (8 * k) % 256))) := by
        refine ⟨k + 1, C'.setIfInBounds (off + (a + k)) (.int .u8 (v / 2 ^ (8 * k) % 256)), by omega, rfl, ?_, ?_, Chg.set (S := (· = g)) hC (p := ⟨g, off + (a + k), none⟩) (.inl rfl) _⟩
        · rw [← st]; exact hI.set (a + k) _ (by omega)
        · refine ⟨by simpa using hS.1, fun i hi => ?_⟩
          rw [Array.getElem?_setIfInBounds_ne (by omega)]; exact hS.2 i hi
      have FIN := Lib.hid fin
      clear fin st hI hS hC hsl hfit h
      generalize (spl l a (digs v k)).getD (a + k) 0 = x at *
      go_wp2_with fail
      exact ⟨FIN.out, by simp [intOf]; omega⟩
    · obtain rfl : k = n := by omega
      have post : PutPost w g off C T (spl l a (digs v k)) l.length (.returned (.bool true)) wr := ⟨C', rfl, hI, hS, hC⟩
      clear hI hS hC
      go_wp2_with fail
      go_ret
      exact post
end Go.Proofs.YtolojkfpokmdkaaRR.Word

-- XWordGet
namespace Go.Proofs.YtolojkfpokmdkaaRR.Word
open Go.RowKit Go.Proofs.YtolojkfpokmdkaaRR.Hp Go.Proofs.YtolojkfpokmdkaaRR.WordP
set_option linter.unusedVariables false
set_option linter.unusedSimpArgs false
theorem get_no (A : Option Addr) (L c : Nat) (at_ n : Int) (w : World) (hL : L ≤ 140737488351232) (h : thereB L at_ n = false) :
    Calls Try.prog 48 #[.slice A L c, .int .i64 at_, .int .i64 n] w fun e w' => e = .returned (.tuple #[.int .u64 0, .bool false]) ∧ w = w' := by
  go_enter Try.func48, Try.ntmps48
  go_wp2_with fail
  refine (there_any A L c at_ n _ hL).mono ?_
  rintro e w1 ⟨rfl, rfl⟩
  rw [h]
  go_wp2_with fail
  go_ret2
  exact ⟨rfl, rfl⟩
def GetRel (l : List Int) (a n : Nat) (v i : Value) : Prop := ∃ k : Nat, k ≤ n ∧ i = .int .i64 k ∧ v = .int .u64 (leN ((l.drop a).take k))
def GetPost (x : Int) (w : World) (e : Ending) (w' : World) : Prop := e = .returned (.tuple #[.int .u64 x, .bool true]) ∧ w = w'
set_option maxHeartbeats 2000000 in
theorem get_yes (A : Option Addr) (c : Nat) (l : List Int) (a n : Nat) (w : World) (hl : Rd w .u8 A l) (hb : Bytes l) (hn : n ≤ 8) (han : a + n ≤ l.length) :
    Calls Try.prog 48 #[.slice A l.length c, .int .i64 a, .int .i64 n] w (GetPost (leN ((l.drop a).take n)) w) := by
  have b1 := hl.1
  have ht : thereB l.length a n = true := decide_eq_true ⟨by omega, by omega, by omega, by omega, by omega⟩
  go_enter Try.func48, Try.ntmps48
  go_wp2_with fail
  refine (there_any A l.length c a n _ b1).mono ?_
  rintro e w1 ⟨rfl, rfl⟩
  rw [ht]
  clear ht
  go_wp2_with fail
  go_loop [8, 16] (fun v i => GetRel l a n v i) (fun v i => n - (intOf i).toNat)
  case atStart => exact ⟨0, by omega, rfl, by simp [leN]⟩
  case round =>
    obtain ⟨k, hk, rfl, rfl⟩ := hrel
    by_cases hlt : k < n
    · obtain ⟨ad, rfl, hc⟩ := hl.at_ (a + k) (by omega)
      have hx := hb (l[a + k]'(by omega)) (List.getElem_mem _)
      have e1 : l.getD (a + k) 0 = l[a + k]'(by omega) := by simp [show a + k < l.length from by omega]
      have st := get_step l hb a k (by omega) (by omega)
      generalize leN ((l.drop a).take k) = v at *
      rw [← e1] at hx
      generalize l.getD (a + k) 0 = x at *
      have hx0 := hx.1
      have hx1 := hx.2
      have ST := Lib.hid st
      clear hx e1 st
      go_wp2_with fail
      exact ⟨⟨k + 1, by omega, rfl, by rw [ST.out]⟩, by simp [intOf]; omega⟩
    · obtain rfl : k = n := by omega
      go_wp2_with fail
      go_ret2
      exact ⟨rfl, rfl⟩
end Go.Proofs.YtolojkfpokmdkaaRR.Word

-- XWordS
namespace Go.Proofs.YtolojkfpokmdkaaRR.Word
open Go.RowKit Go.Proofs.YtolojkfpokmdkaaRR.Hp Go.Proofs.YtolojkfpokmdkaaRR.WordP
set_option linter.unusedVariables false
set_option linter.unusedSimpArgs false
def sumStep (h c : Int) : Int := IntKind.u64.wrap (Go.bits .xor .u64 h c * 1099511628211)
def fold (h : Int) (l : List Int) : Int := l.foldl sumStep h
theorem fold_append (h : Int) (l k : List Int) : fold h (l ++ k) = fold (fold h l) k := List.foldl_append
theorem fold_one (h : Int) (l : List Int) (x : Int) : fold h (l ++ [x]) = sumStep (fold h l) x := by rw [fold_append]; rfl
def sum32 (h : Int) : Int := Go.bits .xor .u32 (IntKind.u32.wrap (h / 4294967296)) (IntKind.u32.wrap h)
/-- A slice of slices of bytes. -/
def Parts (w : World) (A : Option Addr) (ps : List (List Int)) : Prop :=
  ∀ j, j < ps.length → ∃ ad B c, A = some ad ∧ w.cell? (ad.add j) = some (.slice B (ps.getD j []).length c) ∧ Rd w .u8 B (ps.getD j []) ∧ Bytes (ps.getD j [])
theorem take_succ_getDL (xs : List (List Int)) (j : Nat) (h : j < xs.length) : xs.take (j + 1) = xs.take j ++ [xs.getD j []] := by
  rw [List.take_add_one]
  simp [h]
def In64 (h : Int) : Prop := 0 ≤ h ∧ h < 18446744073709551616
theorem wrap_in64 (x : Int) : In64 (IntKind.u64.wrap x) := by
  rw [IntKind.wrap_u64]; constructor <;> omega
theorem fold_in64 (l : List Int) (h : Int) (hh : In64 h) : In64 (fold h l) := by
  induction l generalizing h with
  | nil => exact hh
  | cons x l ih => exact ih _ (wrap_in64 _)
def SumRel (ps : List (List Int)) (h i : Value) : Prop := ∃ k : Nat, k ≤ ps.length ∧ i = .int .i64 k ∧ h = .int .u64 (fold 14695981039346656037 (ps.take k).flatten)
def SumRel2 (h0 : Int) (l : List Int) (h i : Value) : Prop := ∃ k : Nat, k ≤ l.length ∧ i = .int .i64 k ∧ h = .int .u64 (fold h0 (l.take k))
def SumPost (x : Int) (w : World) (e : Ending) (w' : World) : Prop := e = .returned (.int .u32 x) ∧ w = w'
set_option maxHeartbeats 2000000 in
theorem sum_any (A : Option Addr) (c : Nat) (ps : List (List Int)) (w : World) (hp : Parts w A ps) (hn : ps.length ≤ 1000) :
    Calls Try.prog 76 #[.slice A ps.length c] w (SumPost (sum32 (fold 14695981039346656037 ps.flatten)) w) := by
  go_enter Try.func76, Try.ntmps76
  go_wp2_with fail
  go_loop [3, 10] (fun h i => SumRel ps h i) (fun h i => ps.length - (intOf i).toNat)
  case atStart => exact ⟨0, by omega, rfl, rfl⟩
  case round =>
    obtain ⟨k, hk, rfl, rfl⟩ := hrel
    by_cases hlt : k < ps.length
    · obtain ⟨ad, B, c1, rfl, hc, hr, hb⟩ := hp k hlt
      have st : fold 14695981039346656037 (ps.take (k + 1)).flatten = fold (fold 14695981039346656037 (ps.take k).flatten) (ps.getD k []) := by
        rw [take_succ_getDL ps k hlt, List.flatten_append, fold_append]; simp
      have h64 : In64 (fold 14695981039346656037 (ps.take k).flatten) := fold_in64 _ _ ⟨by omega, by omega⟩
      generalize fold 14695981039346656037 (ps.take k).flatten = h0 at *
      generalize ps.getD k [] = l at *
      have ST := Lib.hid st
      have bl := hr.1
      clear st
      go_wp2_with fail
      go_loop [3, 16] (fun h i => SumRel2 h0 l h i) (fun h i => l.length - (intOf i).toNat)
      case atStart => exact ⟨0, by omega, rfl, rfl⟩
      case round =>
        obtain ⟨j, hj, rfl, rfl⟩ := hrel
        by_cases hlj : j < l.length
        · obtain ⟨ad2, rfl, hc2⟩ := hr.at_ j hlj
          have hx := hb (l[j]'hlj) (List.getElem_mem _)
          have e1 : l.getD j 0 = l[j]'hlj := by simp [hlj]
          have st2 : fold h0 (l.take (j + 1)) = sumStep (fold h0 (l.take j)) (l.getD j 0) := by
            rw [take_succ_getD l j hlj, fold_one]
          have h642 : In64 (fold h0 (l.take j)) := fold_in64 _ _ h64
          rw [← e1] at hx
          generalize fold h0 (l.take j) = h1 at *
          generalize l.getD j 0 = x at *
          have hx0 := hx.1
          have hx1 := hx.2
          have ST2 := Lib.hid st2
          have H642 := Lib.hid h642
          have H64 := Lib.hid h64
          clear st2 h642 h64 hx e1
          go_wp2_with fail
          exact ⟨⟨j + 1, by omega, rfl, by rw [ST2.out]; rfl⟩, by simp [intOf]; omega⟩
        · obtain rfl : j = l.length := by omega
          rw [List.take_length] at *
          go_wp2_with fail
          exact ⟨⟨k + 1, by omega, rfl, by rw [ST.out]⟩, by simp [intOf]; omega⟩
    · obtain rfl : k = ps.length := by omega
      rw [List.take_length] at *
      go_wp2_with fail
      go_ret
      exact ⟨rfl, rfl⟩
end Go.Proofs.YtolojkfpokmdkaaRR.Word

