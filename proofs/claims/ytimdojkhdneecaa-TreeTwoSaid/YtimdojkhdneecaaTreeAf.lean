/- TreePlays: what holds between acts; small facts. -/
import Derived.Test.YtimdojkhdneecaaTreeAe
import Derived.Test.YtimdojkhdneecaaStep
namespace Go.Proofs.Ytimdojkhdneecaa.Tree
open Go.RowKit Go.Proofs.Ytimdojkhdneecaa.Hp Go.Proofs.Ytimdojkhdneecaa.Ram Go.Proofs.Ytimdojkhdneecaa.Word Go.Proofs.Ytimdojkhdneecaa.WordP Go.Proofs.Ytimdojkhdneecaa.Pool
set_option linter.unusedVariables false
set_option linter.unusedSimpArgs false
theorem sorted_mem {l : List Nat} {f : Nat} : f ∈ sortN l ↔ f ∈ l := by
  unfold sortN
  exact (List.mergeSort_perm l _).mem_iff
theorem sorted_len (l : List Nat) : (sortN l).length = l.length := by
  unfold sortN
  exact (List.mergeSort_perm l _).length_eq
theorem sorted_lt {l : List Nat} (hd : l.Nodup) {i j a c : Nat} (hij : i < j) (ha : (sortN l)[i]? = some a) (hc : (sortN l)[j]? = some c) : a < c := by
  have hp : (sortN l).Pairwise (fun x y => decide (x ≤ y) = true) := by
    unfold sortN
    exact List.pairwise_mergeSort (fun x y z h1 h2 => by rw [decide_eq_true_eq] at *; omega) (fun x y => by rw [Bool.or_eq_true, decide_eq_true_eq, decide_eq_true_eq]; omega) l
  have hn : (sortN l).Nodup := (by unfold sortN; exact (List.mergeSort_perm l _).nodup_iff.mpr hd)
  obtain ⟨hi, e1⟩ := List.getElem?_eq_some_iff.mp ha
  obtain ⟨hj, e2⟩ := List.getElem?_eq_some_iff.mp hc
  have h1 := (List.pairwise_iff_getElem.mp hp) i j hi hj hij
  have h2 := (List.pairwise_iff_getElem.mp (List.nodup_iff_pairwise_ne.mp hn)) i j hi hj hij
  rw [decide_eq_true_eq, e1, e2] at h1
  rw [e1, e2] at h2
  omega
/-- an array of the law's own, beside a tree -/
def Apart (w0 : World) (p bi bl t g : Nat) : Prop := w0.heap.size ≤ g ∧ g ≠ p ∧ g ≠ bi ∧ g ≠ bl ∧ g ≠ t
section
variable {w0 w w' : World} {pm bl p b bi t g : Nat} {S : PS} {B : Nat → Nat → Int} {root : Nat} {ov : Value} {s : TS} {L L' : Nat → Ent} {own : List Nat}
theorem EArr.off (h : EArr w g L') (hT : TL w0 w pm bl p b bi t S B root own ov) (ha : Apart w0 p bi bl t g) : ¬ TX p bi bl t ov g := by
  obtain ⟨_, h2, h3, h4, h5⟩ := ha
  rintro (x | x | x | x | x)
  · exact h2 x
  · exact h3 x
  · exact h4 x
  · exact h5 x
  · obtain ⟨C, hC⟩ := (Own.own_ge hT.row g x).2
    obtain ⟨C', h1, _⟩ := h
    have := hC.symm.trans h1
    simp at this
theorem TL.arr (h : TL w0 w pm bl p b bi t S B root own ov) (hE : EArr w g L') (ha : Apart w0 p bi bl t g) (hc : Chg (· = g) w w') : TL w0 w' pm bl p b bi t S B root own ov := by
  have ho := hE.off h ha
  obtain ⟨C', h1, _⟩ := hE
  have npm : ¬ pm = g := fun e => by
    have h2 := h.rm.st
    rw [e] at h2
    have := h2.symm.trans h1
    simp at this
  have nb : ¬ b = g := fun e => by
    have h2 := h.pl.at_.fr.st
    rw [e] at h2
    have := h2.symm.trans h1
    simp at this
  obtain ⟨a1, a2, a3, a4, a5⟩ := ha
  exact ⟨⟨h.pl.at_.chg hc (fun x => a2 x.symm) nb (fun x => a3 x.symm), h.pl.ch.trans hc (fun i hi x => absurd hi (Nat.not_lt_of_le (by have : i = g := x; rw [this]; exact a1))), h.pl.lp, h.pl.lb, h.pl.li⟩, h.rm.chg hc npm (fun x => a4 x.symm), hc.blk (show Blk w t _ _ from h.st) (fun x => a5 x.symm), Own.own_chg h.row hc (fun i hi x => ho (by have : i = g := x; rw [← this]; exact .inr (.inr (.inr (.inr hi))))), h.by_, h.lo, h.n1, h.n2⟩
theorem Lw.arr (h : Lw w0 w pm bl p b bi t S B root ov s L) (hE : EArr w g L') (ha : Apart w0 p bi bl t g) (hc : Chg (· = g) w w') : Lw w0 w' pm bl p b bi t S B root ov s L :=
  ⟨⟨h.ti.tl.arr hE ha hc, h.ti.ok, h.ti.rt, h.ti.fit, h.ti.use⟩, h.zi, h.ok, h.en⟩
end
/-- between acts: the tree has just what the array says -/
def PlSt (w : World) (pm bl p b bi t g T : Nat) (L : Nat → Ent) (wr : World) : Prop :=
  ∃ (S : PS) (B : Nat → Nat → Int) (root : Nat) (ov : Value) (s : TS), Lw w wr pm bl p b bi t S B root ov s L ∧ capN S s.own = T ∧ EArr wr g L
def PlRel (w : World) (pm bl p b bi t g T len : Nat) (i : Value) (wr : World) : Prop := ∃ (k : Nat) (L : Nat → Ent), k ≤ len ∧ i = .int .i64 (k : Int) ∧ PlSt w pm bl p b bi t g T L wr
section
variable {w wr w' : World} {pm bl p b bi t g T : Nat} {L : Nat → Ent}
theorem PlSt.keep (h : PlSt w pm bl p b bi t g T L wr) (hc : Chg NoB wr w') : PlSt w pm bl p b bi t g T L w' := by
  obtain ⟨S, B, root, ov, s, h1, h2, h3⟩ := h
  exact ⟨S, B, root, ov, s, h1.keep hc, h2, h3.chg hc (fun x => x)⟩
theorem PlSt.ch (h : PlSt w pm bl p b bi t g T L wr) : Chg NoB w wr := by
  obtain ⟨S, B, root, ov, s, h1, _⟩ := h
  exact h1.ti.tl.pl.ch
theorem PlSt.get (h : PlSt w pm bl p b bi t g T L wr) (pg : Nat) (hpg : pg < 4096) : Calls Try.prog 14 #[.pointer (some ⟨t, 0, none⟩), .int .i64 (pg : Int)] wr (fun e w' => e = .returned (.tuple #[eV (L pg), .int .i64 0]) ∧ Chg NoB wr w') := by
  obtain ⟨S, B, root, ov, s, h1, _⟩ := h
  exact lget_any pg hpg h1
theorem PlSt.out (h : PlSt w pm bl p b bi t g T L wr) (pg : Int) (hpg : ¬ (0 ≤ pg ∧ pg < 4096)) : Calls Try.prog 14 #[.pointer (some ⟨t, 0, none⟩), .int .i64 pg] wr (GetTo wr 0 0 false 1) := by
  obtain ⟨S, B, root, ov, s, h1, _⟩ := h
  exact lget_out pg hpg h1.ti.tl
/-- what Set does, the array not yet; a block that was new stays -/
def PlSet (w : World) (ab : Nat) (C : Array Value) (T' : TypeId) (pm bl p b bi t g T : Nat) (L : Nat → Ent) (pg : Int) (x : Ent) (e : Ending) (w' : World) : Prop :=
  ∃ (E : Int) (S : PS) (B : Nat → Nat → Int) (root : Nat) (ov : Value) (s : TS) (L' : Nat → Ent), e = .returned (.int .i64 E) ∧ Lw w w' pm bl p b bi t S B root ov s L' ∧ capN S s.own = T ∧ EArr w' g L ∧ LSays T L L' pg x E ∧ Blk w' ab C T'
theorem PlSt.set (h : PlSt w pm bl p b bi t g T L wr) (ha : Apart w p bi bl t g) (pg : Int) (x : Ent) (C : Array Value) (T' : TypeId) : Calls Try.prog 10 #[.pointer (some ⟨t, 0, none⟩), .int .i64 pg, eV x] (wr.alloc (.cells C T')) (PlSet w wr.heap.size C T' pm bl p b bi t g T L pg x) := by
  obtain ⟨S, B, root, ov, s, h1, h2, h3⟩ := h
  have cA : Chg NoB wr (wr.alloc (.cells C T')) := (Chg.refl NoB wr).alloc _
  have h1A := h1.keep cA
  have h3A := h3.chg cA (fun x => x)
  refine (lset_any pg x h1A).mono ?_
  rintro e w' ⟨E, S', B', s', ov', L', rfl, hL, hmv, hch, hob, hs⟩
  rw [h2] at hs
  exact ⟨E, S', B', root, ov', s', L', rfl, hL, by rw [hmv.cap (fun f hf => (h1.ti.use f hf).1), h2], h3A.chg hch (h3A.off h1A.ti.tl ha), hs, hch.blk (show Blk (wr.alloc (.cells C T')) wr.heap.size C T' from bnew wr _) (fun x => Nat.lt_irrefl _ (h1.ti.lts _ x))⟩
end
end Go.Proofs.Ytimdojkhdneecaa.Tree
