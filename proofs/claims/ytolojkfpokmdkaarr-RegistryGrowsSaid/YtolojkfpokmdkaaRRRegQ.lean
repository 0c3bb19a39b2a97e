/- Chapter 7: base. -/
import Derived.Test.YtolojkfpokmdkaaRRRegO
import Derived.Test.YtolojkfpokmdkaaRRRegD
import Derived.Maps.AppendAt
import Derived.RangeFuncBox
namespace Go.Proofs.YtolojkfpokmdkaaRR.Reg
open Go.RowKit Go.Maps Go.Sort Go.Shelf Go.Proofs.YtolojkfpokmdkaaRR.Hp Go.Proofs.YtolojkfpokmdkaaRR.Disk Go.Proofs.YtolojkfpokmdkaaRR.By
set_option linter.unusedVariables false
set_option linter.unusedSimpArgs false
attribute [local go_sem] Oper.semAt_some
theorem has_mem {H : Type} {w : World} {R : Value → Option (DataW H × List MemPlace)} {b n : Nat} {D0 : DataW H} (hown : w.ownsMap Try.prog 3 R b n D0) {x : Int} (h : has D0 (.int .i64 x) = true) : x ∈ intKeys D0 := by
  obtain ⟨es, rfl, hko⟩ := hown.keysOf
  rw [has_eq, List.any_eq_true] at h
  obtain ⟨p, hp, hs⟩ := h
  obtain ⟨v, hv⟩ := hko p hp
  obtain ⟨y, _, hy, _⟩ := Maps.keyOf_i64 Try.underlying3 hv
  show x ∈ es.map fun p => Go.intOf p.1
  refine List.mem_map.mpr ⟨p, hp, ?_⟩
  rw [hy] at hs ⊢
  simpa [Lit.sameKey, Go.intOf] using hs
/-- frames -/
abbrev FrI := {x : Int // 0 ≤ x ∧ x < 1024}
def bitsL (pre : List FrI) : List Int := bitsB (fun f => decide ((f : Int) ∈ pre.map (·.1)))
def BsI (w : World) (pre : List FrI) (W : World) : Prop := Blk W w.heap.size ((bitsL pre).map (Value.int .u8)).toArray 5 ∧ Blk W (w.heap.size + 1) #[.slice (some ⟨w.heap.size, 0, none⟩) 128 128] 38
theorem bsI_own (w : World) : Own (BsI w) := fun s A B row hs hg hr => ⟨(grownBy_keeps_cells hg hr hs.1 rfl).trans hs.1, (grownBy_keeps_cells hg hr hs.2 rfl).trans hs.2⟩
theorem bitsL_nil : bitsL [] = List.replicate 128 0 := by decide +kernel
set_option maxRecDepth 100000 in
theorem or8 : ∀ b0 b1 b2 b3 b4 b5 b6 b7 : Bool, ∀ z, z < 8 → bits BinOp.or IntKind.u8 (val8 b0 b1 b2 b3 b4 b5 b6 b7 : Int) (2 ^ z) = val8 (b0 || z == 0) (b1 || z == 1) (b2 || z == 2) (b3 || z == 3) (b4 || z == 4) (b5 || z == 5) (b6 || z == 6) (b7 || z == 7) := by decide +kernel
theorem bitsB_set (bad : Nat → Bool) (k : Nat) (hk : k < 1024) : bits BinOp.or IntKind.u8 (byteN bad (k / 8) : Int) (2 ^ (k % 8)) = byteN (fun f => bad f || decide (f = k)) (k / 8) ∧ (bitsB bad).set (k / 8) (byteN (fun f => bad f || decide (f = k)) (k / 8)) = bitsB (fun f => bad f || decide (f = k)) := by
  have e : ∀ j, j < 8 → decide (8 * (k / 8) + j = k) = (k % 8 == j) := fun j hj => by
    rw [Bool.eq_iff_iff, decide_eq_true_eq, beq_iff_eq]; omega
  refine ⟨?_, ?_⟩
  · unfold byteN
    rw [or8 _ _ _ _ _ _ _ _ _ (Nat.mod_lt _ (by decide))]
    have e0 := e 0 (by decide)
    rw [Nat.add_zero] at e0
    simp only [e0, e 1 (by decide), e 2 (by decide), e 3 (by decide), e 4 (by decide), e 5 (by decide), e 6 (by decide), e 7 (by decide)]
  · have hz : ∀ i, ¬ k / 8 = i → byteN bad i = byteN (fun f => bad f || decide (f = k)) i := fun i c => by
      have z : ∀ j, j < 8 → decide (8 * i + j = k) = false := fun j hj => decide_eq_false (by omega)
      have z0 := z 0 (by decide)
      rw [Nat.add_zero] at z0
      unfold byteN
      simp only [z0, z 1 (by decide), z 2 (by decide), z 3 (by decide), z 4 (by decide), z 5 (by decide), z 6 (by decide), z 7 (by decide), Bool.or_false]
    have hl : k / 8 < 128 := by omega
    have hat : ∀ (b : Nat → Bool) i, (bitsB b)[i]? = if i < 128 then some (byteN b i : Int) else none := fun b i => by
      unfold bitsB
      rw [List.getElem?_map]
      by_cases c : i < 128
      · rw [List.getElem?_range c, if_pos c]; rfl
      · rw [if_neg c, List.getElem?_eq_none (by rw [List.length_range]; omega)]; rfl
    apply List.ext_getElem?
    intro i
    rw [List.getElem?_set, hat, hat, bits_len]
    by_cases c : k / 8 = i
    · rw [if_pos c, if_pos hl, if_pos (by omega), c]
    · rw [if_neg c, hz i c]
theorem bitsL_snoc (pre : List FrI) (k : Nat) (hk : k < 1024) (h : 0 ≤ (k : Int) ∧ (k : Int) < 1024) : bitsL (pre ++ [⟨(k : Int), h⟩]) = bitsB (fun f => decide ((f : Int) ∈ pre.map (·.1)) || decide (f = k)) := by
  unfold bitsL
  congr 1
  funext f
  rw [List.map_append, Bool.eq_iff_iff, Bool.or_eq_true, decide_eq_true_eq, decide_eq_true_eq, decide_eq_true_eq, List.mem_append]
  refine or_congr Iff.rfl ?_
  simp
  omega
theorem shl_wrap (k : Nat) : IntKind.u8.wrap (2 ^ ((k : Int) % 8).toNat) = 2 ^ (k % 8) := by
  have e : ((k : Int) % 8).toNat = k % 8 := by omega
  have hz : k % 8 < 8 := Nat.mod_lt _ (by decide)
  rw [e]
  generalize k % 8 = z at *
  match z, hz with
  | 0, _ => rfl
  | 1, _ => rfl
  | 2, _ => rfl
  | 3, _ => rfl
  | 4, _ => rfl
  | 5, _ => rfl
  | 6, _ => rfl
  | 7, _ => rfl
theorem shl_run (k : Nat) (W : World) : Sem.run Try.prog (Op.shift BinOp.shl IntKind.u8 1 IntKind.i64 ((k : Int).tmod 8)) W = .ok (.int .u8 (2 ^ (k % 8))) W := by
  have e : (k : Int).tmod 8 = ((k % 8 : Nat) : Int) := by rw [Int.tmod_eq_emod_of_nonneg (by omega)]; omega
  have hz : k % 8 < 8 := Nat.mod_lt _ (by decide)
  rw [e]
  generalize k % 8 = z at *
  match z, hz with
  | 0, _ => rfl
  | 1, _ => rfl
  | 2, _ => rfl
  | 3, _ => rfl
  | 4, _ => rfl
  | 5, _ => rfl
  | 6, _ => rfl
  | 7, _ => rfl
theorem bitsB_congr {b c : Nat → Bool} (h : ∀ f, f < 1024 → b f = c f) : bitsB b = bitsB c := by
  unfold bitsB
  refine List.map_congr_left fun i hi => ?_
  rw [List.mem_range] at hi
  unfold byteN
  have h0 := h (8 * i) (by omega)
  have z : ∀ j, j < 8 → b (8 * i + j) = c (8 * i + j) := fun j hj => h _ (by omega)
  rw [h0, z 1 (by decide), z 2 (by decide), z 3 (by decide), z 4 (by decide), z 5 (by decide), z 6 (by decide), z 7 (by decide)]
theorem sizeInt : (Try.prog.info? 3).map (·.size) = some 1 := by kernel_rfl
theorem run_index_one (W : World) (s : Nat) (hs : s < 32) (C : Array Value) (v : Value) (hC : C[s]? = some v) : (Instr.index 52 (.agg C) (.int .i64 (s : Int))).run Try.prog W = .ok v W := by
  obtain ⟨j, hj1, hj2⟩ := Option.map_eq_some_iff.1 sizeInt
  have h1 : (s : Int) < 32 := by omega
  simp [Instr.index, asIntOf, run_underlying Try.underlying52, run_underlying Try.underlying3, sizeOf, typeInfo, hj1, hj2, h1, part, isAgg, hC]
  intro h; omega
def BsRel (w : World) (D : Nat) (x : RSt) (i : Value) (wr : World) : Prop :=
  ∃ (k : Nat) (v : Value), k ≤ 32 ∧ i = .int .i64 (k : Int) ∧ Boxed wr (w.heap.size + 1) 38 v ∧ wr.ownsRow w.heap.size 5 1 v (128 + k) ((bitsB x.bad ++ (List.range k).map x.st).map (Value.int .u8)) ∧ Below w.heap.size w wr ∧ wr.heap[D]? = some (.deferred (some []))
section
variable {P : Program} {F : Fence} {n : Nat} {ops : Array Oper} {rest : List Oper} {o : Oper} {a : Go.Act} {w : World} {Q : Exit → Go.Act → World → Prop}
theorem loadIn_at (hgd : o.guard = none) (ty : TypeId) (x : Operand) (ho : o.op = .load ty x)
    (ad : Addr) (hx : a.eval x = .pointer (some ad)) (v : Value) (hr : (loadVar ty ad).run P w = .ok v w)
    (h : wpListIn F n P ops Q rest (a.put o.dst v) w) : wpListIn F n P ops Q (o :: rest) a w := by
  refine wpListIn_plain hgd fun K hK => ?_
  unfold Oper.wpIn
  refine ⟨?_, ?_⟩
  · simp [Oper.about, ho, resolve, Target.leads, Sem.run_pure]
  · rw [Oper.semAt_plain F _ _ (by rw [ho]; intro c hc'; cases hc')]
    simp only [execOp, ho, hx, Instr.loadAt, Instr.sureAddr, Sem.run_bind, Sem.run_pure, Result.andThen_ok, hr]
    exact hK _ _ h
theorem indexIn_at (hgd : o.guard = none) (ty : TypeId) (x i : Operand) (ho : o.op = .index ty x i)
    (X I v : Value) (hx : a.eval x = X) (hi : a.eval i = I) (hr : (Instr.index ty X I).run P w = .ok v w)
    (h : wpListIn F n P ops Q rest (a.put o.dst v) w) : wpListIn F n P ops Q (o :: rest) a w := by
  refine wpListIn_plain hgd fun K hK => ?_
  unfold Oper.wpIn
  refine ⟨?_, ?_⟩
  · simp [Oper.about, ho, resolve, Target.leads, Sem.run_pure]
  · rw [Oper.semAt_plain F _ _ (by rw [ho]; intro c hc'; cases hc')]
    simp only [execOp, ho, hx, hi, Sem.run_bind, Sem.run_pure, Result.andThen_ok, hr]
    exact hK _ _ h
end
def BasePost (w : World) (x : RSt) (e : Ending) (w' : World) : Prop := ∃ v, e = .returned v ∧ w'.ownsRow w.heap.size 5 1 v 160 ((baseB x).map (Value.int .u8)) ∧ Chg NoB w w'
set_option maxRecDepth 100000 in
set_option maxHeartbeats 4000000 in
theorem base_any {w : World} {r j bm K : Nat} {x : RSt} (h : RM w r j bm x K) (hx : Canon x) : Calls Try.prog 39 #[.pointer (some ⟨r, 0, none⟩)] w (BasePost w x) := by
  obtain ⟨k0, k1⟩ := h.rb.two
  clear k0
  obtain ⟨D0, nn, hown, hlo, hsz⟩ := bads_own h
  refine (callsIn_wide (n := 6)).1 ?_
  have cK : ∀ mb W, CallsIn Fence.wide 5 Try.prog 31 #[.map mb] W fun e w' => e = .returned (.func (.func 43) #[] #[.pointer (some ⟨W.heap.size, 0, none⟩)]) ∧ w' = W.alloc (.cells #[.map mb] 51) := fun mb W => AnyZI.keys_in Try.keysB Fence.wide 5 trivial rfl mb W
  have hfK : Fence.wide.fn 31 := trivial
  have hmk : ∀ w : World, (Instr.makeSlice 38 (.int .i64 128) (.int .i64 128)).run Try.prog w = .ok (.slice (some ⟨w.heap.size, 0, none⟩) 128 128) (w.alloc (.cells (Array.replicate 128 (.int .u8 0)) 5)) := fun w =>
    run_make1 (P := Try.prog) 38 5 (.int .u8 0) 1 Try.underlying38 info8 rfl 128 (by decide) (by decide) (by decide) w
  have hCw1 : Chg NoB w ((w.alloc (.cells (Array.replicate 128 (.int .u8 0)) 5)).alloc (.cells #[.slice (some ⟨w.heap.size, 0, none⟩) 128 128] 38)) := ((Chg.refl _ _).alloc _).alloc _
  have k1' := hCw1.cell k1 (fun e => e)
  refine callsIn_of_wp_marks Try.func39 rfl trivial ?_ rfl
  simp only [Try.ntmps39, List.size_toArray, List.length_cons, List.length_nil, Nat.reduceAdd, Nat.reduceSub, Array.replicate_succ, Array.replicate_zero, List.push_toArray, List.append_toArray, List.nil_append, List.cons_append]
  gi_wp2_with (first
    | (gi_at_call 31; refine (cK _ _).mono ?_; rintro e w' ⟨rfl, rfl⟩))
  obtain ⟨W0, hW0⟩ : ∃ W0, W0 = (((w.alloc (.cells (Array.replicate 128 (.int .u8 0)) 5)).alloc (.cells #[.slice (some ⟨w.heap.size, 0, none⟩) 128 128] 38)).alloc (.cells #[.map (some bm)] 51)) := ⟨_, rfl⟩
  have hC0 : Chg NoB w W0 := by rw [hW0]; exact (((Chg.refl _ _).alloc _).alloc _).alloc _
  have hs0 : W0.heap.size = w.heap.size + 3 := by rw [hW0]; simp
  have hBg : Blk W0 w.heap.size (Array.replicate 128 (.int .u8 0)) 5 := by rw [hW0]; exact balloc (balloc (bnew w _) _) _
  have hBb : Blk W0 (w.heap.size + 1) #[.slice (some ⟨w.heap.size, 0, none⟩) 128 128] 38 := by rw [hW0]; exact balloc (bnew' (by simp) _) _
  have hBm : Blk W0 (w.heap.size + 2) #[.map (some bm)] 51 := by rw [hW0]; exact bnew' (by simp) _
  have hBm1 : W0.cell? ⟨w.heap.size + 2, 0, none⟩ = some (.map (some bm)) := by rw [bcell hBm]; rfl
  have hown0 : W0.ownsMap Try.prog 3 (anyElem (H := Unit)) bm nn D0 := by
    obtain ⟨es, clock, hb, Ft, hs, hD⟩ := hown
    exact ⟨es, clock, hC0.blk hb (fun e => e), Ft, hs, hD⟩
  rw [← hW0]
  have hT : ∀ x, has D0 (.int .i64 x) = true → (0 ≤ x ∧ x < 1024) := fun x hx => by
    have := (badL_mem _ x).mp (hlo.mem_iff.mp (has_mem hown hx))
    omega
  have hI0 : BsI w [] W0 := ⟨by
    rw [bitsL_nil, List.map_replicate, List.toArray_replicate]; exact hBg, hBb⟩
  refine wpIn_rangeFunc_ownF (n := 6) rfl (by decide) (gf := 43) (lb := #[.pointer (some ⟨w.heap.size + 2, 0, none⟩)]) rfl trivial (enters_of Try.func43 (by kernel_rfl) rfl)
    (encs := fun x : FrI => #[encZ x.1]) (Kp := KeepsWalks) (keysT_stops Fence.wide 5 trivial rfl (by decide) (w.heap.size + 2) bm nn D0 (fun x => 0 ≤ x ∧ x < 1024) hT W0 (by omega) hBm1 hown0) walksK_t walksK_b (Below.refl _ _) (fun _ => rfl)
    (fun pre W => BsI w pre W ∧ Below w.heap.size w W)
    (fun _ _ _ => False)
    (OwnFrom.and (Own.from (bsI_own w) _) (ownFrom_below (Nat.le_refl _) (by omega)))
    (fun _ _ _ _ _ hs _ _ => hs)
    ⟨hI0, hC0.below (Nat.le_refl _) (fun i hi => hi.elim)⟩
    (fun x => { tmps := #[.pointer (some ⟨r, 0, none⟩), undef, .slice none 0 0, .pointer (some ⟨w.heap.size + 1, 0, none⟩), .int .i64 x.1, undef, undef, .slice (some ⟨w.heap.size, 0, none⟩) 128 128, .pointer (some ⟨r, 0, none⟩), .pointer (some ⟨r, 0, none⟩), .pointer (some ⟨r, 1, none⟩), .map (some bm), .func (.func 43) #[] #[.pointer (some ⟨w.heap.size + 1 + 1, 0, none⟩)], .int .i64 x.1, undef, undef, undef, undef, undef, undef, undef, undef, undef, undef, undef, undef, undef, undef, undef, undef, undef, undef, undef, undef, undef, undef, undef, undef], defers := [] }) ?assign ?body ?done ?stop
  case assign =>
    intro l x W K hK
    gi_wp2
    exact hK
  case body =>
    rintro l pre ⟨z, hz⟩ W ⟨⟨hg, hb⟩, hB⟩ hlen
    obtain ⟨k, rfl⟩ : ∃ k : Nat, z = (k : Int) := ⟨z.toNat, by omega⟩
    have hk : k < 1024 := by omega
    have c0 : W.cell? ⟨w.heap.size + 1, 0, none⟩ = some (.slice (some ⟨w.heap.size, 0, none⟩) 128 128) := by rw [bcell hb]; rfl
    have c1 : W.cell? ⟨w.heap.size, k / 8, none⟩ = some (.int .u8 (byteN (fun f => decide ((f : Int) ∈ pre.map (·.1))) (k / 8) : Int)) := by
      rw [bcell hg]
      have h8 : k / 8 < 128 := by omega
      simp [bitsL, bitsB, h8]
    have c2 := bfroz hg (k / 8)
    have i1 : (k : Int) / 8 < 128 := by omega
    have i2 : k / 8 < 128 := by omega
    have bk : 0 ≤ (k : Int) ∧ (k : Int) < 1024 := hz
    have bv := byte_lt (fun f => decide ((f : Int) ∈ pre.map (·.1))) (k / 8)
    have hset := bitsB_set (fun f => decide ((f : Int) ∈ pre.map (·.1))) k hk
    generalize byteN (fun f => decide ((f : Int) ∈ pre.map (·.1))) (k / 8) = v at *
    have hmx : Try.prog.follows .mixedOrders = true := by kernel_rfl
    gi_wp2
    have hd : 1 ≤ 6 - 1 - 1 := by decide
    have hw8 : IntKind.i64.wrap ((k : Int) / 8) = ((k / 8 : Nat) : Int) := by rw [IntKind.wrap_i64]; omega
    have hw9 : IntKind.i64.wrap ((k : Int) % 8) = ((k % 8 : Nat) : Int) := by rw [IntKind.wrap_i64]; omega
    have hsh := shl_run k W.drew
    have hto : ((k : Int) / 8).toNat = k / 8 := by omega
    have c1' := c1
    have c2' := c2
    rw [← hto] at c1' c2'
    have F := Lib.hid (show KeepsOthers W (W.setCell ⟨w.heap.size, k / 8, none⟩ (.int .u8 (bits BinOp.or IntKind.u8 (v : Int) (2 ^ (k % 8))))).drew ∧ KeepsWalks W (W.setCell ⟨w.heap.size, k / 8, none⟩ (.int .u8 (bits BinOp.or IntKind.u8 (v : Int) (2 ^ (k % 8))))).drew ∧ (BsI w (pre ++ [⟨(k : Int), hz⟩]) (W.setCell ⟨w.heap.size, k / 8, none⟩ (.int .u8 (bits BinOp.or IntKind.u8 (v : Int) (2 ^ (k % 8))))).drew ∧ Below w.heap.size w (W.setCell ⟨w.heap.size, k / 8, none⟩ (.int .u8 (bits BinOp.or IntKind.u8 (v : Int) (2 ^ (k % 8))))).drew) from by
      have q := (KeepsOthers.setCell W ⟨w.heap.size, k / 8, none⟩ (.int .u8 (bits BinOp.or IntKind.u8 (v : Int) (2 ^ (k % 8))))).trans (KeepsOthers.drew _)
      obtain ⟨s1, s2⟩ := hset
      refine ⟨q, q.walks, ⟨?_, bfar hb (by show w.heap.size + 1 ≠ w.heap.size; omega) _⟩, (hB.setCell (p := ⟨w.heap.size, k / 8, none⟩) (Nat.le_refl _) _).drew⟩
      have h1 := bset hg (k / 8) (.int .u8 (bits BinOp.or IntKind.u8 (v : Int) (2 ^ (k % 8))))
      rw [bitsL_snoc pre k hk hz, ← s2, ← s1]
      have e : ((bitsL pre).map (Value.int .u8)).toArray.setIfInBounds (k / 8) (.int .u8 (bits BinOp.or IntKind.u8 (v : Int) (2 ^ (k % 8)))) = (((bitsB fun f => decide ((f : Int) ∈ pre.map (·.1))).set (k / 8) (bits BinOp.or IntKind.u8 (v : Int) (2 ^ (k % 8)))).map (Value.int .u8)).toArray := by
        rw [List.setIfInBounds_toArray, List.map_set]; rfl
      rw [e] at h1
      exact h1)
    clear hset hg hb hB hown hlo cK hmk h hx hown0 hT hI0 hBg hBb hBm hBm1 hC0 hs0 hW0 hCw1 k1 k1' hsz
    have hwp := shl_wrap k
    gi_region_with_o fail
    all_goals gi_wp2
    all_goals (first | exact F.out | (rw [hwp] at *; exact F.out) | (simp only [hwp]; exact F.out))
  case done =>
    rintro D xs W hD hS ⟨⟨hg, hb⟩, hB⟩ hK
    have hbits : bitsL xs = bitsB x.bad := by
      unfold bitsL
      refine bitsB_congr (fun f hf => ?_)
      rw [Bool.eq_iff_iff, decide_eq_true_eq, hS.mem_iff, hlo.mem_iff, badL_mem]
      exact ⟨fun e => by have := e.2.2; rwa [Int.toNat_natCast] at this, fun e => ⟨by omega, by rw [Int.toNat_natCast]; exact hf, by rw [Int.toNat_natCast]; exact e⟩⟩
    rw [hbits] at hg
    have hrb : RB W r j bm x.st := h.rb.chg (Chg.of_below (S := NoB) hB) (fun e => e)
    have hrow : W.ownsRow w.heap.size 5 1 (.slice (some ⟨w.heap.size, 0, none⟩) 128 128) 128 ((bitsB x.bad).map (Value.int .u8)) := by
      refine ⟨by rw [List.length_map, bits_len], .inr ⟨w.heap.size, 128, _, rfl, Nat.le_refl _, hg, Nat.le_refl _, by unfold maxLen; omega, by simp [bits_len], ?_⟩⟩
      rw [List.toList_toArray, List.take_of_length_le (by rw [List.length_map, bits_len]; decide)]
    have hld : (loadVar 52 ⟨r, 2, none⟩).run Try.prog W = .ok (.agg ((List.range 32).map (fun s => Value.int .i64 (x.st s))).toArray) W := by
      refine run_loadVar_at W r 2 _ _ _ (fun q v hq => ?_) Try.underlying52 rfl (by kernel_rfl)
      rw [List.getElem?_toArray, List.getElem?_map] at hq
      have hq32 : q < 32 := by
        by_cases c : q < 32
        · exact c
        · rw [List.getElem?_eq_none (by rw [List.length_range]; omega)] at hq; cases hq
      rw [List.getElem?_range hq32] at hq
      obtain rfl := Option.some.inj hq
      exact (hrb.at_ hq32).1
    have hix : ∀ (s : Nat) (W : World), s < 32 → (Instr.index 52 (.agg ((List.range 32).map (fun s => Value.int .i64 (x.st s))).toArray) (.int .i64 (s : Int))).run Try.prog W = .ok (.int .i64 (x.st s)) W := fun s W hs => by
      have hC : ((List.range 32).map (fun s => Value.int .i64 (x.st s))).toArray[s]? = some (.int .i64 (x.st s)) := by
        rw [List.getElem?_toArray, List.getElem?_map, List.getElem?_range hs]; rfl
      have hsz : ((List.range 32).map (fun s => Value.int .i64 (x.st s))).toArray.size = 32 := by simp
      generalize ((List.range 32).map (fun s => Value.int .i64 (x.st s))).toArray = C at *
      exact run_index_one W s hs C _ hC
    have hB2 : BsRel w D x (.int .i64 0) W := ⟨0, _, Nat.zero_le _, rfl, hb, by rw [List.range_zero, List.map_nil, List.append_nil]; exact hrow, hB, hK⟩
    obtain ⟨i0, hi, hz0, hz1, hz2⟩ := info_parts info8
    generalize ((List.range 32).map (fun s => Value.int .i64 (x.st s))).toArray = C at *
    have hbl := hB.size
    have HX := Lib.hid (And.intro hx hix)
    clear hbits hrow hrb hg hb hK hB hS hix
    gi_wp2_with (first | (with_reducible refine loadIn_at rfl 52 _ rfl ⟨r, 2, none⟩ rfl _ hld ?_))
    gi_loopw [28] (fun i wr => BsRel w D x i wr) (fun i wr => 32 - (intOf i).toNat)
    case atStart => exact hB2
    case round =>
      clear hB2
      obtain ⟨q, v, hq, rfl, hv, hrow, hB, hK⟩ := hrel
      have hc := hv.cell
      have hf := hv.frozen
      rcases Nat.eq_or_lt_of_le hq with hq2 | hq2
      · have e0 : decide ((q : Int) < 32) = false := decide_eq_false (by omega)
        have e1 : decide (q < 32) = false := decide_eq_false (by omega)
        rw [hq2] at hrow
        have F := Lib.hid (show BasePost w x (.returned v) (wr.putObj D (.deferred none)) from ⟨v, rfl, by
          have h1 := ownsRow_putObj hrow (.deferred none) hK rfl
          exact h1, Chg.of_below (hB.trans (belowK_b (w := w) (Nat.le_refl _) wr D _ _ (by omega) hK rfl rfl))⟩)
        clear hrow hB hq hq2
        gi_wp2
        refine ⟨by simp, .inl ⟨_, _, rfl, run_takeDeferred hK, ?_⟩⟩
        refine ⟨_, results_tmp rfl _ _ _, ?_⟩
        exact F.out
      · have e0 : decide ((q : Int) < 32) = true := decide_eq_true (by omega)
        have e1 : decide (q < 32) = true := decide_eq_true hq2
        have i1 : (q : Int) < 32 := by omega
        have hix := HX.out.2 q wr hq2
        have bq := HX.out.1.ok q hq2
        have hwp : IntKind.u8.wrap (x.st q) = x.st q := by rw [IntKind.wrap_u8]; omega
        have hbs := hB.size
        have F := Lib.hid (show ∀ v' w1, Boxed w1 (w.heap.size + 1) 38 v' → w1.ownsRow w.heap.size 5 1 v' (128 + q + 1) ((bitsB x.bad ++ (List.range q).map x.st).map (Value.int .u8) ++ [.int .u8 (x.st q)]) → Below w.heap.size wr w1 → KeepsOthers wr w1 → BsRel w D x (.int .i64 ((q : Int) + 1)) w1 from fun v' w1 a1 a2 a3 a4 => ⟨q + 1, v', hq2, rfl, a1, by
          have e : ((bitsB x.bad ++ (List.range (q + 1)).map x.st).map (Value.int .u8)) = ((bitsB x.bad ++ (List.range q).map x.st).map (Value.int .u8) ++ [.int .u8 (x.st q)]) := by simp [List.range_succ]
          rw [e]
          exact a2, hB.trans a3, a4.same D _ hK rfl⟩)
        have hms := Lib.hid (show 32 - ((q : Int) + 1).toNat < 32 - (q : Int).toNat by omega)
        clear hq hB
        generalize x.st q = sv at *
        gi_wp2_with (first | (with_reducible refine indexIn_at rfl 52 _ _ rfl _ _ _ rfl rfl hix ?_) | (gi_at_builtin; refine wpListIn_append_own _ rfl _ _ 38 rfl w.heap.size 5 i0 (.int .u8 0) 1 1 Try.underlying38 hi hz0 hz1 hz2 rfl (by decide) _ _ _ rfl (hrow.alloc _) ⟨wr.heap.size, 0, none⟩ 1 1 [.int .u8 sv] rfl rfl (cell_one_new _ _ _) (by simp [Value.oneCell']) (by unfold maxLen; omega) (by omega) (by simp; omega) ?_; intro v' w1 hown' hgrow _; obtain ⟨g', cap', rfl⟩ := ownsRow_succ hown'; obtain ⟨hv1, hv2, hr2, hk2, hb2⟩ := hv.appended (by decide) hrow hbs (Nat.le_succ _) hown' hgrow; have hc1 := hv1.cell; have hf1 := hv1.frozen))
        exact ⟨F.out _ _ hv2 hr2 hb2 hk2, hms.out⟩
  case stop =>
    rintro D c pre W _ _ h _
    exact h.elim
end Go.Proofs.YtolojkfpokmdkaaRR.Reg
