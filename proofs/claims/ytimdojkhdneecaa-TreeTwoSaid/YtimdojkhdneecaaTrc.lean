/- Several texts in one (a claim holds at most 60 files). -/
import Derived.Test.YtimdojkhdneecaaTrb
import Derived.Test.YtimdojkhdneecaaIter
import Derived.BigQuiet
namespace Go.Proofs.Ytimdojkhdneecaa.Tree
open Go.RowKit Go.Shelf Go.Sort Go.Proofs.Ytimdojkhdneecaa.Hp Go.Proofs.Ytimdojkhdneecaa.Ram Go.Proofs.Ytimdojkhdneecaa.Word Go.Proofs.Ytimdojkhdneecaa.WordP Go.Proofs.Ytimdojkhdneecaa.Pool
set_option linter.unusedVariables false
set_option linter.unusedSimpArgs false
def sortN (l : List Nat) : List Nat := l.mergeSort fun x y => decide (x ≤ y)
theorem ownI_sort (l : List Nat) : (ownI l).mergeSort (fun x y => decide (x ≤ y)) = ownI (sortN l) := by
  unfold ownI sortN
  rw [List.map_mergeSort (s := fun x y : Int => decide (x ≤ y))]
  intro a _ c _
  rw [decide_eq_decide]
  omega
def TabsTo (w : World) (own : List Nat) (e : Ending) (w' : World) : Prop := ∃ v, e = .returned v ∧ w'.ownsRow w.heap.size 3 1 v own.length (ownV (sortN own)) ∧ Chg NoB w w'
theorem tables_nil (w : World) : Calls Try.prog 11 #[.pointer none] w fun e w' => e = .returned (.slice none 0 0) ∧ w = w' := by
  go_enter Try.func11, Try.ntmps11
  go_wp2_with fail
  go_ret
  exact ⟨rfl, rfl⟩
set_option maxHeartbeats 4000000 in
theorem tables_any {w0 w : World} {pm bl p b bi t : Nat} {S : PS} {B : Nat → Nat → Int} {root : Nat} {own : List Nat} {ov : Value} (h : TL w0 w pm bl p b bi t S B root own ov) (hlen : own.length ≤ 1024) :
    Calls Try.prog 11 #[.pointer (some ⟨t, 0, none⟩)] w (TabsTo w own) := by
  have hint : Iter.Ints w.heap.size w ov (ownI own) := by
    have hl : (ownI own).length = own.length := by simp [ownI]
    rcases h.row.2 with ⟨hv, h0⟩ | ⟨g, cap, cur, hv, _, hg, _⟩
    · exact .inl ⟨hv, by rw [List.length_eq_zero_iff] at h0; rw [h0]; rfl⟩
    · refine .inr ⟨g, 0, cap, by rw [hl]; exact hv, blt hg, fun j hj => ?_⟩
      have hr := h.row
      rw [hv] at hr
      rw [Nat.zero_add, hr.cellAt j (by omega)]
      rw [hl] at hj
      simp [ownV, ownI, hj]
  have y3 : w.cell? ⟨t, 3, none⟩ = some ov := by rw [bcell h.st]; rfl
  obtain ⟨A, c, hov⟩ := own_form h.row
  have hW : Below w.heap.size w (w.alloc (.cells #[ov] 34)) := (Below.refl _ w).alloc (Nat.le_refl _) _
  have hint' : Iter.Ints (w.alloc (.cells #[ov] 34)).heap.size (w.alloc (.cells #[ov] 34)) ov (ownI own) := by
    rcases hint.below hW with x | ⟨g, off, cap, e, hg, hc⟩
    · exact .inl x
    · exact .inr ⟨g, off, cap, e, by simp; omega, hc⟩
  have hso := Iter.sorted_in 5 (by decide) w.heap.size ov (ownI own) (by simp [ownI]; omega) (w.alloc (.cells #[ov] 34)) (by simp) (by have b := bnew w (.cells #[ov] 34); rw [bcell b]; rfl) hint'
  have hva := Iter.values_in Fence.wide 5 trivial rfl A own.length c w
  rw [← hov] at hva
  rw [ownI_sort] at hso
  have hl : (ownI own).length = own.length := by simp [ownI]
  rw [hl, show (ownI (sortN own)).map (Value.int .i64) = ownV (sortN own) by unfold ownV ownI; rw [List.map_map]; rfl] at hso
  have fin : ∀ v w', w'.ownsRow (w.alloc (.cells #[ov] 34)).heap.size 3 1 v own.length (ownV (sortN own)) → Below (w.alloc (.cells #[ov] 34)).heap.size (w.alloc (.cells #[ov] 34)) w' → TabsTo w own (.returned v) w' := fun v w' h1 h2 =>
    ⟨v, rfl, Own.own_base h1 (by simp), Chg.of_below (hW.trans (h2.mono (by simp)))⟩
  have FI := Lib.hid fin
  have hfK : Fence.wide.fn 35 := trivial
  have hfS : Fence.wide.fn 34 := trivial
  clear hint hint' hW h fin hl hlen
  subst hov
  refine (callsIn_wide (n := 6)).1 ?_
  refine callsIn_of_wp Try.func11 rfl trivial ?_ rfl
  simp only [Try.ntmps11, List.size_toArray, List.length_cons, List.length_nil, Nat.reduceAdd, Nat.reduceSub, Array.replicate_succ, Array.replicate_zero, List.push_toArray, List.append_toArray, List.nil_append, List.cons_append]
  gi_wp2_with (first
    | (gi_at_call 35; refine hva.mono ?_; rintro e w' ⟨rfl, rfl⟩)
    | (gi_at_call 34; refine hso.mono ?_; rintro e w' ⟨v, rfl, hrow, hb⟩))
  go_ret
  exact FI.out v _ hrow hb
theorem free_at {w0 w : World} {p b bi : Nat} {S : PS} (f : Nat) (h : PL w0 w p b bi S) : Calls Try.prog 42 #[.pointer (some ⟨p, 0, none⟩), .int .i64 (f : Int)] w fun e w' => e = .returned (.bool (S.freeB (f : Int))) ∧ PL w0 w' p b bi (S.free (f : Int)) ∧ Chg (fun i => i = p ∨ i = bi) w w' := by
  refine (free_any p b bi S.U S.Z S.I _ f w h.at_).mono ?_
  intro e w1 hp
  rcases hp with ⟨g, rfl, rfl⟩ | ⟨g, rfl, h1, h2⟩
  · have E : S.freeB f = false := decide_eq_false g
    refine ⟨by rw [E], ?_, Chg.refl _ _⟩
    unfold PS.free; rw [E, if_neg (by decide)]; exact h
  · have E : S.freeB f = true := decide_eq_true g
    refine ⟨by rw [E], ?_, h2⟩
    unfold PS.free; rw [E, if_pos rfl]
    have hf : (f : Int).toNat < 1024 := by
      by_cases x : 0 ≤ (f : Int) ∧ (f : Int) < 1024
      · omega
      · have := g.1; rw [show useD S.U f = 0 from if_neg x] at this; omega
    refine h.go ?_ h2
    have hs := freeL_set S.U (f : Int).toNat 1 hf
    rw [if_pos rfl] at hs
    rw [hs] at h1
    exact h1
def freeAll (S : PS) (own : List Nat) : PS := own.foldl (fun S (f : Nat) => S.free (f : Int)) S
def CloseTo (w0 w : World) (pm bl p b bi t : Nat) (S : PS) (B : Nat → Nat → Int) (root : Nat) (own : List Nat) (ov : Value) (e : Ending) (w' : World) : Prop :=
  e = .returned (.tuple #[]) ∧ TL w0 w' pm bl p b bi t (freeAll S own) B root [] (.slice none 0 0) ∧ Chg (TX p bi bl t ov) w w'
def ClRel (w0 w : World) (pm bl p b bi t : Nat) (S : PS) (B : Nat → Nat → Int) (root : Nat) (own : List Nat) (ov : Value) (i : Value) (wr : World) : Prop :=
  ∃ k : Nat, k ≤ own.length ∧ i = .int .i64 (k : Int) ∧ TL w0 wr pm bl p b bi t (freeAll S (own.take k)) B root own ov ∧ Chg (fun i => i = p ∨ i = bi) w wr
theorem close_nil (w : World) : Calls Try.prog 20 #[.pointer none] w fun e w' => e = .returned (.tuple #[]) ∧ w = w' := by
  go_enter Try.func20, Try.ntmps20
  go_wp2_with fail
  go_end0
  exact ⟨rfl, rfl⟩
set_option maxRecDepth 100000 in
set_option maxHeartbeats 4000000 in
theorem close_any {w0 w : World} {pm bl p b bi t : Nat} {S : PS} {B : Nat → Nat → Int} {root : Nat} {own : List Nat} {ov : Value} (h : TL w0 w pm bl p b bi t S B root own ov) (hlen : own.length ≤ 1024) :
    Calls Try.prog 20 #[.pointer (some ⟨t, 0, none⟩)] w (CloseTo w0 w pm bl p b bi t S B root own ov) := by
  obtain ⟨A, c, hov⟩ := own_form h.row
  have y3 : w.cell? ⟨t, 3, none⟩ = some ov := by rw [bcell h.st]; rfl
  have hR : ClRel w0 w pm bl p b bi t S B root own ov (.int .i64 0) w := ⟨0, Nat.zero_le _, rfl, h, Chg.refl _ _⟩
  have H := Lib.hid hR
  clear hR h
  subst hov
  go_enter Try.func20, Try.ntmps20
  go_wp2_with fail
  have hB2 := H.out
  clear H
  go_loopw [11] (fun i wr => ClRel w0 w pm bl p b bi t S B root own (.slice A own.length c) i wr) (fun i wr => own.length - (intOf i).toNat)
  case atStart => exact hB2
  case round =>
    clear hB2
    obtain ⟨k, hk, rfl, hT, hC⟩ := hrel
    rcases Nat.eq_or_lt_of_le hk with hk2 | hk2
    · have d0 : decide ((k : Int) < (own.length : Int)) = false := decide_eq_false (by omega)
      have d1 : decide (k < own.length) = false := decide_eq_false (by omega)
      have hsw := hT.swap (own' := []) (v' := .slice none 0 0) (World.ownsRow_nil _ _ _ _) (Chg.refl _ _) (fun g hg => by simp [Value.ownBlock] at hg)
      have y4 : wr.cell? ⟨t, 3, none⟩ = some (.slice A own.length c) := by rw [bcell hT.st]; rfl
      have q4 := bfroz hT.st 3
      rw [hk2, List.take_length] at hsw
      have F := Lib.hid (show CloseTo w0 w pm bl p b bi t S B root own (.slice A own.length c) (.returned (.tuple #[])) _ from ⟨rfl, hsw.1, (hC.mono (fun i _ x => x.elim (fun y => .inl y) (fun y => .inr (.inl y)) : ∀ i, i < w.heap.size → _ → TX p bi bl t (.slice A own.length c) i)).trans hsw.2 (fun i _ x => x.elim (fun y => .inr (.inr (.inr (.inl y)))) (fun y => .inr (.inr (.inr (.inr y)))))⟩)
      clear hT hC hsw hk2
      go_wp2_with fail
      go_end0
      exact F.out
    · have d0 : decide ((k : Int) < (own.length : Int)) = true := decide_eq_true (by omega)
      have d1 : decide (k < own.length) = true := decide_eq_true hk2
      obtain ⟨g, c', e, _, _⟩ := own_pos hT.row (by omega)
      injection e with e1 e2 e3
      subst e1 e3
      obtain ⟨f, hf⟩ : ∃ f, own[k]? = some f := ⟨_, List.getElem?_eq_getElem hk2⟩
      have z1 : wr.cell? ⟨g, k, none⟩ = some (.int .i64 (f : Int)) := by
        rw [hT.row.cellAt k (by omega)]
        exact ownV_at hf
      have y1 : wr.cell? ⟨t, 1, none⟩ = some (.pointer (some ⟨p, 0, none⟩)) := by rw [bcell hT.st]; rfl
      have hfr := free_at f hT.pl
      have hms := Lib.hid (show own.length - ((k : Int) + 1).toNat < own.length - (k : Int).toNat by omega)
      have fin : ∀ w2, PL w0 w2 p b bi ((freeAll S (own.take k)).free (f : Int)) → Chg (fun i => i = p ∨ i = bi) wr w2 → ClRel w0 w pm bl p b bi t S B root own (.slice (some ⟨g, 0, none⟩) own.length c) (.int .i64 ((k : Int) + 1)) w2 := fun w2 h1 h2 => by
        have e4 : freeAll S (own.take (k + 1)) = (freeAll S (own.take k)).free (f : Int) := by
          unfold freeAll
          rw [List.take_add_one, hf, List.foldl_append]
          rfl
        exact ⟨k + 1, hk2, rfl, by rw [e4]; exact hT.pool h1 h2, hC.trans h2 (fun _ _ x => x)⟩
      have FI := Lib.hid fin
      clear hT hC fin hf e2
      go_wp2_with fail
      refine hfr.mono ?_
      rintro e w2 ⟨rfl, hp, hC2⟩
      have F := FI.out w2 hp hC2
      clear hfr hp hC2 FI
      go_wp2_with fail
      exact ⟨F, hms.out⟩
end Go.Proofs.Ytimdojkhdneecaa.Tree

namespace Go.Proofs.Ytimdojkhdneecaa.Tree
open Go.RowKit Go.Proofs.Ytimdojkhdneecaa.Hp Go.Proofs.Ytimdojkhdneecaa.Ram Go.Proofs.Ytimdojkhdneecaa.Word Go.Proofs.Ytimdojkhdneecaa.WordP Go.Proofs.Ytimdojkhdneecaa.Pool
set_option linter.unusedVariables false
set_option linter.unusedSimpArgs false
def HasPost (xs : List Int) (v : Int) (w : World) (e : Ending) (w' : World) : Prop := e = .returned (.bool (decide (v ∈ xs))) ∧ w = w'
def HasRel (xs : List Int) (v : Int) (i : Value) : Prop := ∃ k : Nat, k ≤ xs.length ∧ i = .int .i64 k ∧ v ∉ xs.take k
theorem has_num (A : Option Addr) (c : Nat) (xs : List Int) (v : Int) (w : World) (h : Rd w .i64 A xs) :
    Calls Try.prog 36 #[.slice A xs.length c, .int .i64 v] w (HasPost xs v w) := by
  have hlen := h.1
  go_enter Try.func36, Try.ntmps36
  go_wp2
  go_loop [5] (fun i => HasRel xs v i) (fun i => xs.length - (intOf i).toNat)
  case atStart => exact ⟨0, by omega, rfl, by simp⟩
  case round =>
    obtain ⟨k, hk, rfl, hn⟩ := hrel
    by_cases hlt : k < xs.length
    · obtain ⟨ad, rfl, hc⟩ := h.at_ k hlt
      have hmem : xs.getD k 0 ∈ xs := by
        rw [List.getD_eq_getElem?_getD, List.getElem?_eq_getElem hlt]; simp
      have hnx : xs.take (k + 1) = xs.take k ++ [xs.getD k 0] := take_succ_getD xs k hlt
      by_cases e : xs.getD k 0 = v
      · have post : HasPost xs v w (.returned (.bool true)) w := ⟨by rw [decide_eq_true (by rw [← e]; exact hmem)], rfl⟩
        have P := Lib.hid post
        have hb : (xs.getD k 0 == v) = true := beq_iff_eq.mpr e
        clear hnx hmem post e h hn
        generalize xs.getD k 0 = x at *
        go_wp2_with fail
        go_ret
        exact P.out
      · have nx : HasRel xs v (.int .i64 ((k : Int) + 1)) := ⟨k + 1, by omega, rfl, by rw [hnx, List.mem_append]; exact fun x => x.elim hn (fun y => e (List.mem_singleton.mp y).symm)⟩
        have NX := Lib.hid nx
        have hb : (xs.getD k 0 == v) = false := beq_eq_false_iff_ne.mpr e
        clear hnx hmem e h hn nx
        generalize xs.getD k 0 = x at *
        go_wp2_with fail
        go_round
        case rel => exact NX.out
        case measure => simp [intOf]; omega
    · obtain rfl : k = xs.length := by omega
      rw [List.take_length] at hn
      have post : HasPost xs v w (.returned (.bool false)) w := ⟨by rw [decide_eq_false hn], rfl⟩
      clear hn h
      go_wp2_with fail
      go_ret
      exact post
def EntPost (k n : Int) (wr : Bool) (w : World) (e : Ending) (w' : World) : Prop := e = .returned (.bool (decide (EntOk k n wr))) ∧ Chg NoB w w'
set_option maxRecDepth 100000 in
set_option maxHeartbeats 4000000 in
theorem entry_any (k n : Int) (wr : Bool) (w : World) : Calls Try.prog 17 #[.agg #[.int .i64 k, .int .i64 n, .bool wr]] w (EntPost k n wr w) := by
  have cA : Chg NoB w (w.alloc (.cells #[.int .i64 k, .int .i64 n, .bool wr] 33)) := (Chg.refl NoB w).alloc _
  have F : ∀ v : Bool, (v = true ↔ EntOk k n wr) → EntPost k n wr w (.returned (.bool v)) (w.alloc (.cells #[.int .i64 k, .int .i64 n, .bool wr] 33)) := fun v hv => ⟨by congr 2; rw [Bool.eq_iff_iff, hv, decide_eq_true_iff], cA⟩
  have FH := Lib.hid F
  clear F cA
  by_cases k1 : k = 1
  · subst k1
    have e1 : EntOk 1 n wr ↔ (0 ≤ n ∧ n < 1024) := by unfold EntOk mostN; constructor <;> (intro h; simp at * <;> omega)
    by_cases h0 : 0 ≤ n
    · by_cases h2 : n < 1024
      · have d0 : decide (0 ≤ n) = true := decide_eq_true h0
        have d2 : decide (n < 1024) = true := decide_eq_true h2
        have P := Lib.hid (FH.out true (by rw [e1]; exact ⟨fun _ => ⟨h0, h2⟩, fun _ => rfl⟩))
        clear e1 h0 h2 FH
        go_enter Try.func17, Try.ntmps17
        go_wp2_with fail
        go_ret
        exact P.out
      · have d0 : decide (0 ≤ n) = true := decide_eq_true h0
        have d2 : decide (n < 1024) = false := decide_eq_false h2
        have P := Lib.hid (FH.out false (by rw [e1]; exact ⟨(fun x => by cases x), fun x => absurd x.2 h2⟩))
        clear e1 h0 h2 FH
        go_enter Try.func17, Try.ntmps17
        go_wp2_with fail
        go_ret
        exact P.out
    · have d0 : decide (0 ≤ n) = false := decide_eq_false h0
      have P := Lib.hid (FH.out false (by rw [e1]; exact ⟨(fun x => by cases x), fun x => absurd x.1 h0⟩))
      clear e1 h0 FH
      go_enter Try.func17, Try.ntmps17
      go_wp2_with fail
      go_ret
      exact P.out
  · have b1 : (k == 1) = false := beq_eq_false_iff_ne.mpr k1
    by_cases k2 : k = 2
    · subst k2
      have e1 : EntOk 2 n wr ↔ (0 ≤ n ∧ n < 32 ∧ wr = false) := by unfold EntOk mostN; cases wr <;> (constructor <;> (intro h; simp at * <;> omega))
      by_cases h0 : 0 ≤ n
      · by_cases h2 : n < 32
        · have d0 : decide (0 ≤ n) = true := decide_eq_true h0
          have d2 : decide (n < 32) = true := decide_eq_true h2
          have P := Lib.hid (FH.out (!wr) (by rw [e1]; cases wr <;> simp [h0, h2]))
          clear e1 h0 h2 FH
          go_enter Try.func17, Try.ntmps17
          go_wp2_with fail
          go_ret
          exact P.out
        · have d0 : decide (0 ≤ n) = true := decide_eq_true h0
          have d2 : decide (n < 32) = false := decide_eq_false h2
          have P := Lib.hid (FH.out false (by rw [e1]; exact ⟨(fun x => by cases x), fun x => absurd x.2.1 h2⟩))
          clear e1 h0 h2 FH
          go_enter Try.func17, Try.ntmps17
          go_wp2_with fail
          go_ret
          exact P.out
      · have d0 : decide (0 ≤ n) = false := decide_eq_false h0
        have P := Lib.hid (FH.out false (by rw [e1]; exact ⟨(fun x => by cases x), fun x => absurd x.1 h0⟩))
        clear e1 h0 FH
        go_enter Try.func17, Try.ntmps17
        go_wp2_with fail
        go_ret
        exact P.out
    · have b2 : (k == 2) = false := beq_eq_false_iff_ne.mpr k2
      have rest : ∀ kk : Int, kk = 0 ∨ kk = 3 → (EntOk kk n wr ↔ (n = 0 ∧ wr = false)) := fun kk hk => by
        unfold EntOk mostN
        rcases hk with rfl | rfl <;> cases wr <;> (constructor <;> (intro h; simp at * <;> omega))
      by_cases k0 : k = 0
      · subst k0
        by_cases h0 : n = 0
        · have d0 : (n == 0) = true := beq_iff_eq.mpr h0
          have P := Lib.hid (FH.out (!wr) (by rw [rest 0 (.inl rfl)]; cases wr <;> simp [h0]))
          clear rest h0 FH k1 k2
          go_enter Try.func17, Try.ntmps17
          go_wp2_with fail
          go_ret
          exact P.out
        · have d0 : (n == 0) = false := beq_eq_false_iff_ne.mpr h0
          have P := Lib.hid (FH.out false (by rw [rest 0 (.inl rfl)]; exact ⟨(fun x => by cases x), fun x => absurd x.1 h0⟩))
          clear rest h0 FH k1 k2
          go_enter Try.func17, Try.ntmps17
          go_wp2_with fail
          go_ret
          exact P.out
      · have b0 : (k == 0) = false := beq_eq_false_iff_ne.mpr k0
        by_cases k3 : k = 3
        · subst k3
          by_cases h0 : n = 0
          · have d0 : (n == 0) = true := beq_iff_eq.mpr h0
            have P := Lib.hid (FH.out (!wr) (by rw [rest 3 (.inr rfl)]; cases wr <;> simp [h0]))
            clear rest h0 FH k1 k2 k0
            go_enter Try.func17, Try.ntmps17
            go_wp2_with fail
            go_ret
            exact P.out
          · have d0 : (n == 0) = false := beq_eq_false_iff_ne.mpr h0
            have P := Lib.hid (FH.out false (by rw [rest 3 (.inr rfl)]; exact ⟨(fun x => by cases x), fun x => absurd x.1 h0⟩))
            clear rest h0 FH k1 k2 k0
            go_enter Try.func17, Try.ntmps17
            go_wp2_with fail
            go_ret
            exact P.out
        · have b3 : (k == 3) = false := beq_eq_false_iff_ne.mpr k3
          have P := Lib.hid (FH.out false ⟨(fun x => by cases x), fun x => by have := x.1; have := x.2.1; omega⟩)
          clear rest FH k1 k2 k0 k3
          go_enter Try.func17, Try.ntmps17
          go_wp2_with fail
          go_ret
          exact P.out
end Go.Proofs.Ytimdojkhdneecaa.Tree

namespace Go.Proofs.Ytimdojkhdneecaa.Tree
open Go.RowKit Go.Proofs.Ytimdojkhdneecaa.Hp Go.Proofs.Ytimdojkhdneecaa.Ram Go.Proofs.Ytimdojkhdneecaa.Word Go.Proofs.Ytimdojkhdneecaa.WordP Go.Proofs.Ytimdojkhdneecaa.Pool
set_option linter.unusedVariables false
set_option linter.unusedSimpArgs false
theorem ded_snoc (l : List Nat) (x : Nat) : ded (l ++ [x]) = if x ∈ ded l then ded l else ded l ++ [x] := by
  unfold ded
  rw [List.foldl_append]
  rfl
theorem ded_len (l : List Nat) : (ded l).length ≤ l.length := by
  have key : ∀ (l seen : List Nat), (l.foldl (fun seen x => if x ∈ seen then seen else seen ++ [x]) seen).length ≤ seen.length + l.length := fun l => by
    induction l with
    | nil => intro seen; simp
    | cons a l ih =>
      intro seen
      rw [List.foldl_cons]
      refine Nat.le_trans (ih _) ?_
      split
      · simp only [List.length_cons]; omega
      · simp only [List.length_append, List.length_cons, List.length_nil]; omega
  have := key l []
  unfold ded
  simpa using this
def szs (j : Nat) : Nat := if j = 0 then 512 else if j = 1 then 64 else if j = 2 then 8 else 1
def nns (pages : List Nat) : Nat → Nat
  | 0 => 1
  | j + 1 => nns pages j + lvN pages (j + 1)
theorem nns_all (pages : List Nat) : nns pages 3 = tablesN pages := rfl
theorem szs_lsz (j : Nat) (hj : j < 3) : szs j = lsz (j + 1) := by
  rcases (by omega : j = 0 ∨ j = 1 ∨ j = 2) with rfl | rfl | rfl <;> rfl
def dedI (pages : List Nat) (z i : Nat) : List Nat := ded ((pages.take i).map (· / z))
theorem nns_le (pages : List Nat) : ∀ j, nns pages j ≤ 1 + j * pages.length
  | 0 => by simp [nns]
  | j + 1 => by
    have h1 := nns_le pages j
    have h2 : lvN pages (j + 1) ≤ pages.length := by
      unfold lvN
      have := ded_len (pages.map (· / lsz (j + 1)))
      simpa using this
    show nns pages j + lvN pages (j + 1) ≤ _
    rw [Nat.succ_mul]
    omega
theorem dedI_succ {pages : List Nat} {z k q : Nat} (hq : pages[k]? = some q) : dedI pages z (k + 1) = if q / z ∈ dedI pages z k then dedI pages z k else dedI pages z k ++ [q / z] := by
  unfold dedI
  rw [List.take_add_one, hq, List.map_append]
  exact ded_snoc _ _
theorem dedI_len (pages : List Nat) (z k : Nat) : (dedI pages z k).length ≤ pages.length := by
  unfold dedI
  refine Nat.le_trans (ded_len _) ?_
  rw [List.length_map, List.length_take]
  omega
def OuRel (w : World) (pages : List Nat) (n z : Value) (wr : World) : Prop := ∃ j : Nat, j ≤ 3 ∧ z = .int .i64 (szs j : Nat) ∧ n = .int .i64 (nns pages j : Nat) ∧ Chg NoB w wr
def InRel (w : World) (pages : List Nat) (z : Nat) (sv i : Value) (wr : World) : Prop := ∃ k : Nat, k ≤ pages.length ∧ i = .int .i64 (k : Int) ∧ wr.ownsRow w.heap.size 3 1 sv (dedI pages z k).length (ownV (dedI pages z k)) ∧ Chg NoB w wr
def RtPost (pages : List Nat) (w : World) (e : Ending) (w' : World) : Prop := e = .returned (.int .i64 (tablesN pages : Nat)) ∧ Chg NoB w w'
set_option maxHeartbeats 4000000 in
theorem rtables_any (A : Option Addr) (c : Nat) (pages : List Nat) (w : World) (h : Rd w .i64 A (ownI pages)) (hn : pages.length ≤ 8192) (hp : ∀ q, q ∈ pages → q < 4096) :
    Calls Try.prog 13 #[.slice A pages.length c] w (RtPost pages w) := by
  have hl : (ownI pages).length = pages.length := by simp [ownI]
  have HH := Lib.hid (And.intro h (And.intro hn hp))
  have hB : OuRel w pages (.int .i64 1) (.int .i64 512) w := ⟨0, by omega, rfl, rfl, Chg.refl _ _⟩
  clear h hn hp
  go_enter Try.func13, Try.ntmps13
  go_wp2_with fail
  go_loopw [3, 4] (fun n z wr => OuRel w pages n z wr) (fun n z wr => (intOf z).toNat)
  case atStart => exact hB
  case round =>
    clear hB
    obtain ⟨j, hj, rfl, rfl, hC⟩ := hrel
    rcases (by omega : j = 3 ∨ j < 3) with hj3 | hj3
    · subst hj3
      have F := Lib.hid (show RtPost pages w (.returned (.int .i64 (nns pages 3 : Nat))) wr from ⟨by rw [nns_all], hC⟩)
      have e : szs 3 = 1 := rfl
      rw [e]
      generalize nns pages 3 = N at *
      clear hC hj e
      go_wp2_with fail
      go_ret
      exact F.out
    · obtain ⟨z, hz⟩ : ∃ z, z = szs j := ⟨_, rfl⟩
      have zz : z = 512 ∨ z = 64 ∨ z = 8 := by
        rw [hz]
        rcases (by omega : j = 0 ∨ j = 1 ∨ j = 2) with rfl | rfl | rfl
        · exact .inl rfl
        · exact .inr (.inl rfl)
        · exact .inr (.inr rfl)
      have hz2 : szs (j + 1) = z / 8 := by
        rw [hz]
        rcases (by omega : j = 0 ∨ j = 1 ∨ j = 2) with rfl | rfl | rfl <;> rfl
      have hzl : lsz (j + 1) = z := by rw [hz, szs_lsz j hj3]
      rw [← hz]
      have d0 : decide ((8 : Int) ≤ (z : Int)) = true := decide_eq_true (by omega)
      have d1 : decide (8 ≤ z) = true := decide_eq_true (by omega)
      obtain ⟨N, hN⟩ : ∃ N, N = nns pages j := ⟨_, rfl⟩
      have hNle : N ≤ 65536 := by
        rw [hN]
        have := nns_le pages j
        have hn := HH.out.2.1
        have : j * pages.length ≤ 2 * 8192 := Nat.mul_le_mul (by omega) hn
        omega
      rw [← hN]
      have H := Lib.hid (And.intro hC (And.intro zz (And.intro hz2 (And.intro hzl (And.intro hj3 (And.intro hN hNle))))))
      have hI : InRel w pages z (.slice none 0 0) (.int .i64 0) wr := ⟨0, Nat.zero_le _, rfl, World.ownsRow_nil _ _ _ _, hC⟩
      have hIH := Lib.hid hI
      clear hC zz hz2 hzl hz hI hj hj3 hN hNle
      go_wp2_with fail
      have hB3 := hIH.out
      clear hIH
      go_loopw [5, 6] (fun sv i wr => InRel w pages z sv i wr) (fun sv i wr => pages.length - (intOf i).toNat)
      case atStart => exact hB3
      case round =>
        clear hB3
        obtain ⟨k, hk, rfl, hown, hC⟩ := hrel
        obtain ⟨As, cs, hsv, hls, hrd, _⟩ := own_rdI hown (Nat.le_trans (dedI_len pages z k) (Nat.le_trans HH.out.2.1 (by decide)))
        subst hsv
        rcases Nat.eq_or_lt_of_le hk with hk2 | hk2
        · have e0 : decide ((k : Int) < (pages.length : Int)) = false := decide_eq_false (by omega)
          have e1 : decide (k < pages.length) = false := decide_eq_false (by omega)
          obtain ⟨_, zz, hz2, hzl, hj3, hN, hNle⟩ := H.out
          have hlv : (dedI pages z k).length = lvN pages (j + 1) := by
            unfold dedI lvN
            rw [hzl, hk2, List.take_length]
          have F := Lib.hid (show OuRel w pages (.int .i64 ((N : Int) + ((dedI pages z k).length : Int))) (.int .i64 ((z / 8 : Nat) : Int)) _ from ⟨j + 1, hj3, by rw [hz2], by rw [hlv, hN]; rfl, hC⟩)
          have hM := Lib.hid (show (intOf (.int .i64 ((z / 8 : Nat) : Int))).toNat < (intOf (.int .i64 (z : Int))).toNat by simp only [intOf]; omega)
          have hdl := dedI_len pages z k
          have hn := HH.out.2.1
          generalize (dedI pages z k).length = dl at *
          have b1 : (0 : Int) ≤ (N : Int) + (dl : Int) ∧ (N : Int) + (dl : Int) < 9223372036854775808 := by omega
          have t2 : ((z : Nat) : Int).tdiv 8 = ((z / 8 : Nat) : Int) := by rw [Int.tdiv_eq_ediv_of_nonneg (by omega)]; omega
          have b3 : ((z / 8 : Nat) : Int) < 4096 ∧ (0 : Int) ≤ ((z / 8 : Nat) : Int) := by omega
          obtain ⟨Q, hQ⟩ : ∃ Q, Q = z / 8 := ⟨_, rfl⟩
          rw [← hQ] at F hM t2 b3
          have t5 : wrap64 (Q : Int) = Q := w64_id' _ (Int.le_trans (by decide) b3.2) (Int.lt_trans b3.1 (by decide))
          clear hQ hown hC zz hz2 hzl hj3 hN hlv hrd hdl hn hls H HH hNle
          go_wp2_with fail
          exact ⟨F.out, hM.out⟩
        · have e0 : decide ((k : Int) < (pages.length : Int)) = true := decide_eq_true (by omega)
          have e1 : decide (k < pages.length) = true := decide_eq_true hk2
          have i1 : (k : Int) < (pages.length : Int) := by omega
          have hnn : pages.length ≤ 8192 := HH.out.2.1
          obtain ⟨q, hq⟩ : ∃ q, pages[k]? = some q := ⟨_, List.getElem?_eq_getElem hk2⟩
          have hq4 := HH.out.2.2 q (List.mem_of_getElem? hq)
          obtain ⟨ad, hA, hcl⟩ := (HH.out.1.chg hC (fun _ _ _ x => x)).at_ k (by rw [hl]; exact hk2)
          have hgd : (ownI pages).getD k 0 = (q : Int) := by
            unfold ownI
            rw [List.getD_eq_getElem?_getD, List.getElem?_map, hq]; rfl
          rw [hgd] at hcl
          obtain ⟨d, hd⟩ : ∃ d, d = dedI pages z k := ⟨_, rfl⟩
          have hdl : d.length ≤ 8192 := by rw [hd]; exact Nat.le_trans (dedI_len pages z k) HH.out.2.1
          have hnx := dedI_succ (z := z) hq
          rw [← hd] at hnx hown hrd hls ⊢
          have hls2 : (ownI d).length = d.length := by simp [ownI]
          have hz := H.out.2.1
          obtain ⟨Q, hQ⟩ : ∃ Q, Q = q / z := ⟨_, rfl⟩
          have hQ4 : Q < 4096 := by rw [hQ]; exact Nat.lt_of_le_of_lt (Nat.div_le_self _ _) hq4
          have zpos : (0 : Int) < (z : Int) := by omega
          have z0 : ((z : Int) == 0) = false := by rw [beq_eq_false_iff_ne]; omega
          have z1 : ((z : Int) == -1) = false := by rw [beq_eq_false_iff_ne]; omega
          have t2 : ((q : Nat) : Int).tdiv (z : Int) = (Q : Int) := by
            rw [Int.tdiv_eq_ediv_of_nonneg (by omega), hQ]
            exact (Int.natCast_ediv q z).symm
          have hhas := has_num As cs (ownI d) (Q : Int) wr hrd
          rw [hls2] at hhas
          unfold HasPost at hhas
          have hmi : ((Q : Int) ∈ ownI d) ↔ Q ∈ d := by
            unfold ownI
            rw [List.mem_map]
            constructor
            · rintro ⟨x, hx, e⟩
              have : x = Q := by omega
              rw [← this]; exact hx
            · intro hx; exact ⟨Q, hx, rfl⟩
          have hms := Lib.hid (show pages.length - ((k : Int) + 1).toNat < pages.length - (k : Int).toNat by omega)
          have b3 : (0 : Int) ≤ (Q : Int) ∧ (Q : Int) < 4096 := by omega
          rw [← hQ] at hnx
          subst hA
          have hbase : w.heap.size ≤ wr.heap.size := hC.size
          by_cases hm : Q ∈ d
          · rw [decide_eq_true (hmi.mpr hm)] at hhas
            have F := Lib.hid (show InRel w pages z (.slice As d.length cs) (.int .i64 ((k : Int) + 1)) wr from ⟨k + 1, hk2, rfl, by rw [hnx, if_pos hm]; exact hown, hC⟩)
            have t5 : wrap64 (Q : Int) = Q := w64_id' _ (Int.le_trans (by decide) b3.1) (Int.lt_trans b3.2 (by decide))
            clear hown hC hnx hmi hm hQ hd hrd hls hls2 hgd hq hq4 hz hdl H HH hQ4
            go_wp2_with fail
            refine hhas.mono ?_
            rintro e w2 ⟨rfl, rfl⟩
            clear hhas
            go_wp2_with fail
            exact ⟨F.out, hms.out⟩
          · rw [decide_eq_false (fun x => hm (hmi.mp x))] at hhas
            have hV : ownV (d ++ [Q]) = ownV d ++ [.int .i64 (Q : Int)] := by unfold ownV; rw [List.map_append]; rfl
            have hL : (d ++ [Q]).length = d.length + 1 := by rw [List.length_append]; rfl
            have fin : ∀ v' w3, w3.ownsRow w.heap.size 3 1 v' (d.length + 1) (ownV d ++ [.int .i64 (Q : Int)]) → Chg (fun i => (Value.slice As d.length cs).ownBlock = some i) wr w3 → InRel w pages z v' (.int .i64 ((k : Int) + 1)) w3 := fun v' w3 k1 k2 =>
              ⟨k + 1, hk2, rfl, by rw [hnx, if_neg hm, hV, hL]; exact k1, hC.trans k2 (fun i hi x => by have := (Own.own_ge hown i x).1; omega)⟩
            have FI := Lib.hid fin
            have l1 : d.length + 1 ≤ 9223372036854775807 := Nat.le_trans (Nat.succ_le_succ hdl) (by decide)
            have l2 : (d.length + 1) * 8 ≤ 140737488355328 := Nat.le_trans (Nat.mul_le_mul_right 8 (Nat.succ_le_succ hdl)) (by decide)
            have t5 : wrap64 (Q : Int) = Q := w64_id' _ (Int.le_trans (by decide) b3.1) (Int.lt_trans b3.2 (by decide))
            clear fin hC hnx hmi hm hQ hd hrd hls hls2 hgd hq hq4 hz hdl H HH hQ4 hV hL
            go_wp2_with fail
            refine hhas.mono ?_
            rintro e w2 ⟨rfl, rfl⟩
            clear hhas
            go_wp2_with (first | (at_builtin; go_loud (refine Own.append_own3 (w := wr) (base := w.heap.size) rfl (.tmp 26) (.tmp 33) 34 3 rfl (.int .i64 0) 8 Try.underlying34 info_int rfl (.slice As d.length cs) d.length (ownV d) (by rfl) hbase hown (.int .i64 (Q : Int)) 3 (by rfl) rfl l1 l2 ?_); intro v' w3 hown' hCo hwh; have F := FI.out v' w3 hown' hCo) | go_in)
            exact ⟨F, hms.out⟩
end Go.Proofs.Ytimdojkhdneecaa.Tree

namespace Go.Proofs.Ytimdojkhdneecaa.Tree
open Go.RowKit Go.Proofs.Ytimdojkhdneecaa.Hp Go.Proofs.Ytimdojkhdneecaa.Ram Go.Proofs.Ytimdojkhdneecaa.Word Go.Proofs.Ytimdojkhdneecaa.WordP Go.Proofs.Ytimdojkhdneecaa.Pool
set_option linter.unusedVariables false
set_option linter.unusedSimpArgs false
/-- n sections on line, all free -/
def partS (n : Nat) : PS := ⟨fun f => if f < n * 32 then 1 else 0, fun s => if s < n then 2 else 0, fun _ => false⟩
theorem partS_zero : PS.new = partS 0 := by
  unfold PS.new partS
  congr 1
theorem partS_on (n : Nat) (hn : n < 32) : (partS n).onE (n : Int) 2 = 0 := by
  unfold PS.onE
  rw [if_pos ⟨⟨by omega, by omega⟩, .inl rfl⟩, Int.toNat_natCast]
  show (if (if n < n then (2 : Int) else 0) = 0 then (0 : Int) else 3) = 0
  rw [if_neg (Nat.lt_irrefl n), if_pos rfl]
theorem partS_succ (n : Nat) (hn : n < 32) : (partS n).online (n : Int) 2 [] = partS (n + 1) := by
  unfold PS.online
  rw [partS_on n hn, if_pos rfl, Int.toNat_natCast]
  unfold partS
  congr 1
  · funext f
    show onU _ (n * 32) [] 32 f = _
    unfold onU
    dsimp only
    by_cases c : n * 32 ≤ f ∧ f < n * 32 + 32
    · rw [if_pos c, if_pos (show f < (n + 1) * 32 by omega), if_neg (fun x => x.elim (fun y => by rw [if_neg (show ¬ f < n * 32 by omega)] at y; revert y; decide) (by simp))]
    · rw [if_neg c]
      by_cases c2 : f < n * 32
      · rw [if_pos c2, if_pos (by omega)]
      · rw [if_neg c2, if_neg (by omega)]
  · funext s
    show Pool.upd _ n 2 s = _
    unfold Pool.upd
    dsimp only
    by_cases c : s = n
    · rw [if_pos c, if_pos (by omega)]
    · rw [if_neg c]
      by_cases c2 : s < n
      · rw [if_pos c2, if_pos (by omega)]
      · rw [if_neg c2, if_neg (by omega)]
  · funext s
    show updB _ n false s = false
    unfold updB
    split <;> rfl
def PtRel (w : World) (p b bi n : Nat) (i : Value) (wr : World) : Prop := ∃ k : Nat, k ≤ n ∧ i = .int .i64 (k : Int) ∧ PL w wr p b bi (partS k)
def PartsTo (w : World) (n : Nat) (e : Ending) (w' : World) : Prop := ∃ pm bl p b bi, e = .returned (.tuple #[.pointer (some ⟨pm, 0, none⟩), .pointer (some ⟨p, 0, none⟩)]) ∧ PL w w' p b bi (partS n) ∧ RRam w' pm bl 1024 (fun _ _ => 0) (fun _ => false) ∧
  (w.heap.size ≤ pm ∧ w.heap.size ≤ bl) ∧ (pm ≠ p ∧ pm ≠ bi ∧ pm ≠ b ∧ bl ≠ p ∧ bl ≠ bi ∧ bl ≠ b)
set_option maxHeartbeats 4000000 in
theorem parts_any (n : Nat) (hn : n ≤ 32) (w : World) : Calls Try.prog 8 #[.int .i64 (n : Int)] w (PartsTo w n) := by
  have hnw := l_new w
  go_enter Try.func8, Try.ntmps8
  go_wp2_with fail
  refine hnw.mono ?_
  rintro e w1 ⟨p, b, bi, rfl, hP⟩
  have hB : PtRel w p b bi n (.int .i64 0) w1 := ⟨0, Nat.zero_le _, rfl, by rw [← partS_zero]; exact hP⟩
  clear hnw hP
  have hBH := Lib.hid hB
  clear hB
  go_wp2_with fail
  have hB := hBH.out
  clear hBH
  go_loopw [5] (fun i wr => PtRel w p b bi n i wr) (fun i wr => n - (intOf i).toNat)
  case atStart => exact hB
  case round =>
    clear hB
    obtain ⟨k, hk, rfl, hP⟩ := hrel
    rcases Nat.eq_or_lt_of_le hk with hk2 | hk2
    · have d0 : decide ((k : Int) < (n : Int)) = false := decide_eq_false (by omega)
      have d1 : decide (k < n) = false := decide_eq_false (by omega)
      have hrm := new_any 1024 wr
      have fin : ∀ e w2, NewPost 1024 wr e w2 → ∃ pm, e = .returned (.pointer (some ⟨pm, 0, none⟩)) ∧ PartsTo w n (.returned (.tuple #[.pointer (some ⟨pm, 0, none⟩), .pointer (some ⟨p, 0, none⟩)])) w2 := fun e w2 hp => by
        obtain ⟨pm, bl, rfl, h1, h2, h3, h4⟩ := hp
        have l1 := blt hP.at_.fr.xs
        have l2 := blt hP.at_.fr.st
        obtain ⟨C, l3, _⟩ := hP.at_.st
        have l3 := blt l3
        have sz := hP.ch.size
        have ec : clampF 1024 = 1024 := rfl
        rw [ec] at h1
        refine ⟨pm, rfl, pm, bl, p, b, bi, rfl, ?_, h1, ⟨by omega, by omega⟩, by omega, by omega, by omega, by omega, by omega, by omega⟩
        rw [hk2] at hP
        exact hP.keep h4
      have FI := Lib.hid fin
      clear fin hP hk2
      go_wp2_with fail
      refine hrm.mono ?_
      intro e w2 hp
      obtain ⟨pm, rfl, F⟩ := FI.out e w2 hp
      have FH := Lib.hid F
      clear hrm hp FI F
      go_wp2_with fail
      go_ret2
      exact FH.out
    · have d0 : decide ((k : Int) < (n : Int)) = true := decide_eq_true (by omega)
      have d1 : decide (k < n) = true := decide_eq_true hk2
      have hk32 : k < 32 := by omega
      have d2 : decide ((k : Int) < 32) = true := decide_eq_true (by omega)
      have d3 : decide (k < 32) = true := decide_eq_true hk32
      have hon := l_online (k : Int) 2 none 0 [] hP ⟨by simp, fun h => by simp at h⟩ (fun h => by simp at h)
      rw [partS_on k hk32, partS_succ k hk32] at hon
      rw [show ([] : List Int).length = 0 from rfl] at hon
      have hms := Lib.hid (show n - ((k : Int) + 1).toNat < n - (k : Int).toNat by omega)
      have fin : ∀ w2, PL w w2 p b bi (partS (k + 1)) → PtRel w p b bi n (.int .i64 ((k : Int) + 1)) w2 := fun w2 h => ⟨k + 1, hk2, rfl, h⟩
      have FI := Lib.hid fin
      clear fin hP
      go_wp2_with fail
      refine hon.mono ?_
      rintro e w2 ⟨rfl, hp⟩
      have F := FI.out w2 hp
      clear hon hp FI
      go_wp2_with fail
      exact ⟨F, hms.out⟩
/-! ### how many are free -/
def fN (S : PS) (n : Nat) : Nat := ((List.range n).filter (fun f => decide (S.U f = 1))).length
theorem fN_succ (S : PS) (n : Nat) : fN S (n + 1) = fN S n + (if S.U n = 1 then 1 else 0) := by
  unfold fN
  rw [List.range_succ, List.filter_append, List.length_append]
  congr 1
  by_cases c : S.U n = 1
  · rw [if_pos c]; simp [c]
  · rw [if_neg c]; simp [c]
theorem fN_cnt (S : PS) (a : Nat) : ∀ k, fN S (a + k) = fN S a + cnt S.U 1 a k
  | 0 => rfl
  | k + 1 => by
    rw [← Nat.add_assoc, fN_succ, fN_cnt S a k]
    show _ = fN S a + (cnt S.U 1 a k + _)
    rw [Nat.add_assoc]
    congr 2
    by_cases c : S.U (a + k) = 1
    · rw [if_pos c, if_pos (beq_iff_eq.mpr c)]
    · rw [if_neg c, if_neg (fun x => c (beq_iff_eq.mp x))]
theorem fN_le (S : PS) (n : Nat) : fN S n ≤ n := by
  unfold fN
  have := List.length_filter_le (fun f => decide (S.U f = 1)) (List.range n)
  simpa using this
theorem fN_part (n : Nat) (hn : n ≤ 32) : freeN (partS n) = n * 32 := by
  have key : ∀ m, fN (partS n) m = min m (n * 32) := fun m => by
    induction m with
    | zero => simp [fN]
    | succ m ih =>
      rw [fN_succ, ih]
      show _ + (if (if m < n * 32 then (1 : Int) else 0) = 1 then 1 else 0) = _
      by_cases c : m < n * 32
      · rw [if_pos c, if_pos rfl]; omega
      · rw [if_neg c, if_neg (by decide)]; omega
  show fN (partS n) 1024 = _
  rw [key]; omega
def FreeTo (S : PS) (w : World) (e : Ending) (w' : World) : Prop := e = .returned (.int .i64 (freeN S : Nat)) ∧ w = w'
def FrRel (S : PS) (n i : Value) : Prop := ∃ k : Nat, k ≤ 32 ∧ i = .int .i64 (k : Int) ∧ n = .int .i64 (fN S (k * 32) : Nat)
set_option maxRecDepth 100000 in
set_option maxHeartbeats 4000000 in
theorem free_count {w0 w : World} {p b bi : Nat} {S : PS} (h : PL w0 w p b bi S) : Calls Try.prog 16 #[.pointer (some ⟨p, 0, none⟩)] w (FreeTo S w) := by
  have hcn : ∀ k : Nat, k < 32 → Calls Try.prog 39 #[.pointer (some ⟨p, 0, none⟩), .int .i64 (k : Int), .int .i64 1] w fun e w' => e = .returned (.int .i64 (cnt S.U 1 (k * 32) 32)) ∧ w = w' := fun k hk => count_in p b bi S.U S.Z S.I _ k hk 1 w h.at_
  have HC := Lib.hid hcn
  clear h hcn
  have hB : FrRel S (.int .i64 0) (.int .i64 0) := ⟨0, by omega, rfl, rfl⟩
  go_enter Try.func16, Try.ntmps16
  go_wp2_with fail
  go_loop [3, 4] (fun n i => FrRel S n i) (fun n i => 32 - (intOf i).toNat)
  case atStart => exact hB
  case round =>
    clear hB
    obtain ⟨k, hk, rfl, rfl⟩ := hrel
    rcases Nat.eq_or_lt_of_le hk with hk2 | hk2
    · have d0 : decide ((k : Int) < 32) = false := decide_eq_false (by omega)
      have d1 : decide (k < 32) = false := decide_eq_false (by omega)
      have e : fN S (k * 32) = freeN S := by rw [hk2]; rfl
      obtain ⟨N, hN⟩ : ∃ N, N = freeN S := ⟨_, rfl⟩
      rw [e, ← hN]
      have F := Lib.hid (show FreeTo S w (.returned (.int .i64 (N : Int))) w from ⟨by rw [hN], rfl⟩)
      clear hk2 e hN
      go_wp2_with fail
      go_ret
      exact F.out
    · have d0 : decide ((k : Int) < 32) = true := decide_eq_true (by omega)
      have d1 : decide (k < 32) = true := decide_eq_true hk2
      have hc := HC.out k hk2
      have hnx := fN_cnt S (k * 32) 32
      have hle1 := fN_le S (k * 32)
      have hle2 := cnt_le S.U 1 (k * 32) 32
      have F := Lib.hid (show FrRel S (.int .i64 (((fN S (k * 32) : Nat) : Int) + ((cnt S.U 1 (k * 32) 32 : Nat) : Int))) (.int .i64 ((k : Int) + 1)) from ⟨k + 1, hk2, rfl, by rw [Nat.succ_mul, hnx]; rfl⟩)
      generalize fN S (k * 32) = N at *
      generalize cnt S.U 1 (k * 32) 32 = C at *
      have b1 : (0 : Int) ≤ (N : Int) + (C : Int) ∧ (N : Int) + (C : Int) < 100000 := by omega
      clear hnx
      go_wp2_with fail
      refine hc.mono ?_
      rintro e w1 ⟨rfl, rfl⟩
      clear hc
      go_wp2_with fail
      go_round
      case rel => exact F.out
      case measure => simp [intOf]; omega
end Go.Proofs.Ytimdojkhdneecaa.Tree

namespace Go.Proofs.Ytimdojkhdneecaa.Tree
open Go.RowKit Go.Proofs.Ytimdojkhdneecaa.Hp Go.Proofs.Ytimdojkhdneecaa.Ram Go.Proofs.Ytimdojkhdneecaa.Word Go.Proofs.Ytimdojkhdneecaa.WordP Go.Proofs.Ytimdojkhdneecaa.Pool
set_option linter.unusedVariables false
set_option linter.unusedSimpArgs false
abbrev Ent := Int × Int × Bool
def eOk (x : Ent) : Prop := EntOk x.1 x.2.1 x.2.2
def eN (x : Ent) : Int := entN x.1 x.2.1 x.2.2
def eV (x : Ent) : Value := .agg #[.int .i64 x.1, .int .i64 x.2.1, .bool x.2.2]
def noE : Ent := (0, 0, false)
theorem noE_ok : eOk noE := by unfold eOk noE; decide
theorem noE_n : eN noE = 0 := rfl
theorem eN_zero {x : Ent} (h : eOk x) : eN x = 0 ↔ x.1 = 0 := by
  obtain ⟨k, n, wr⟩ := x
  obtain ⟨h1, h2, h3, h4, h5⟩ := id (show EntOk k n wr from h)
  show entN k n wr = 0 ↔ k = 0
  unfold entN
  constructor
  · intro e
    split at e <;> omega
  · rintro rfl
    have : mostN 0 = 1 := by decide
    rw [this] at h4
    have : wr = false := by cases wr with
      | true => have := h5 rfl; omega
      | false => rfl
    subst this
    have : n = 0 := by omega
    subst this
    rfl
structure Lw (w0 w : World) (pm bl p b bi t : Nat) (S : PS) (B : Nat → Nat → Int) (root : Nat) (ov : Value) (s : TS) (L : Nat → Ent) : Prop where
  ti : TI w0 w pm bl p b bi t S B root ov s 0 0
  zi : ZI S s.own
  ok : ∀ q, eOk (L q)
  en : ∀ q, s.E q = eN (L q)
/-- where a table could be nothing is -/
theorem e_far {s : TS} {ek ep : Nat} (h : TOk s ek ep) {q : Nat} (hq : 4096 ≤ q) : s.E q = 0 := by
  have hn : s.T 3 (q / 8) = none := by
    cases hx : s.T 3 (q / 8) with
    | none => rfl
    | some f =>
      have := (h.lvl _ _ _ hx).2
      have e : (8 : Nat) ^ 3 = 512 := by decide
      omega
  have := h.no _ hn (q % 8) (by omega)
  rwa [Nat.div_add_mod] at this
/-- pages that have something -/
def pagesOf (L : Nat → Ent) : List Nat := (List.range 4096).filter (fun q => decide ((L q).1 ≠ 0))
section
variable {w0 w w' : World} {pm bl p b bi t : Nat} {S S' : PS} {B B' : Nat → Nat → Int} {root : Nat} {ov ov' : Value} {s s' : TS} {L : Nat → Ent}
theorem Lw.keep (h : Lw w0 w pm bl p b bi t S B root ov s L) (hc : Chg NoB w w') : Lw w0 w' pm bl p b bi t S B root ov s L := ⟨h.ti.keep hc, h.zi, h.ok, h.en⟩
theorem Lw.pages (h : Lw w0 w pm bl p b bi t S B root ov s L) (q : Nat) : q ∈ pagesOf L ↔ s.E q ≠ 0 := by
  unfold pagesOf
  rw [List.mem_filter, List.mem_range, decide_eq_true_eq, h.en q, ne_eq, ne_eq, eN_zero (h.ok q)]
  constructor
  · exact fun x => x.2
  · intro x
    refine ⟨?_, x⟩
    rcases Nat.lt_or_ge q 4096 with y | y
    · exact y
    · have := e_far h.ti.ok y
      rw [h.en q, eN_zero (h.ok q)] at this
      exact absurd this x
theorem Lw.count (h : Lw w0 w pm bl p b bi t S B root ov s L) : s.own.length = tablesN (pagesOf L) := own_count h.ti.ok h.pages
theorem Lw.cap (h : Lw w0 w pm bl p b bi t S B root ov s L) : capN S s.own = freeN S + s.own.length := cap_free h.ti.ok.nodup h.ti.use
end
/-- a new tree -/
def newTS (f : Nat) (M : Nat → Nat → Int) : TS := ⟨fun k p => if k = 0 ∧ p = 0 then some f else none, M, fun _ => 0, [f]⟩
theorem newT {f : Nat} {M : Nat → Nat → Int} {k p g : Nat} (h : (newTS f M).T k p = some g) : k = 0 ∧ p = 0 ∧ g = f := by
  have h' : (if k = 0 ∧ p = 0 then some f else none) = some g := h
  by_cases c : k = 0 ∧ p = 0
  · rw [if_pos c] at h'
    exact ⟨c.1, c.2, (Option.some.inj h').symm⟩
  · rw [if_neg c] at h'; cases h'
theorem tok_new (f : Nat) (M : Nat → Nat → Int) (h0 : ∀ n, n < 8 → M f n = 0) : TOk (newTS f M) 0 0 := by
  refine ⟨⟨f, rfl⟩, ?_, ?_, ?_, ?_, fun _ _ _ _ => rfl, ?_, ?_, by simp [newTS], ?_⟩
  · intro k p g h
    obtain ⟨rfl, rfl, _⟩ := newT h
    exact ⟨by omega, by decide⟩
  · intro k p g hk h n hn
    obtain ⟨rfl, rfl, rfl⟩ := newT h
    have : (newTS g M).T (0 + 1) (8 * 0 + n) = none := by
      show (if 0 + 1 = 0 ∧ 8 * 0 + n = 0 then some g else none) = none
      exact if_neg (fun x => by omega)
    rw [this]
    exact h0 n hn
  · intro k p g h
    have := (newT h).1
    omega
  · intro p g h
    have := (newT h).1
    omega
  · intro k p k' p' g h h'
    obtain ⟨a, c, _⟩ := newT h
    obtain ⟨a', c', _⟩ := newT h'
    exact ⟨a.trans a'.symm, c.trans c'.symm⟩
  · intro g
    show g ∈ [f] ↔ _
    rw [List.mem_singleton]
    constructor
    · rintro rfl; exact ⟨0, 0, rfl⟩
    · rintro ⟨k, p, h⟩; exact (newT h).2.2
  · intro k p g h
    have := (newT h).1
    omega
theorem zeros_get (j n : Nat) : (List.replicate n (0 : Int)).getD j 0 = 0 := by
  rw [List.getD_eq_getElem?_getD, List.getElem?_replicate]
  split <;> rfl
theorem lw_new {w0 w' : World} {pm bl p b bi t f : Nat} {S : PS} {B : Nat → Nat → Int} {ov' : Value} (hf : f < 1024) (hu : S.U f = 1) (hz : ZI S []) (h : TL w0 w' pm bl p b bi t (useF S f 2) (Ram.upd B f 0 (List.replicate 64 0)) f [f] ov') :
    Lw w0 w' pm bl p b bi t (useF S f 2) (Ram.upd B f 0 (List.replicate 64 0)) f ov' (newTS f (numM (Ram.upd B f 0 (List.replicate 64 0)))) (fun _ => noE) ∧ Mv S B [] (useF S f 2) (Ram.upd B f 0 (List.replicate 64 0)) [f] := by
  have hM : Mv S B [] (useF S f 2) (Ram.upd B f 0 (List.replicate 64 0)) [f] := by
    refine ⟨rfl, rfl, fun g _ h2 => ?_, fun g _ h2 j => ?_, fun g h1 _ => ?_, fun g h1 => by cases h1⟩
    · show Pool.upd S.U f 2 g = _
      exact if_neg (fun x => h2 (by rw [x]; simp))
    · unfold Ram.upd
      exact if_neg (fun x => h2 (by rw [x.1]; exact hu))
    · rw [List.mem_singleton] at h1
      subst h1
      exact ⟨hf, hu⟩
  refine ⟨⟨⟨h, tok_new f _ (fun n hn => ?_), rfl, fun _ _ _ => rfl, fun g hg => ?_⟩, hM.zi (fun f hf => by cases hf) hz, fun _ => noE_ok, fun _ => rfl⟩, hM⟩
  · rw [numM_zero B f f n hn]
    exact zeroM_at _ _ _
  · have : g = f := by simpa [newTS] using hg
    subst this
    exact ⟨hf, if_pos rfl⟩
theorem zi_part (n : Nat) : ZI (partS n) [] := by
  rintro f ⟨h1, h2 | h2⟩
  · have h3 : (if f < n * 32 then (1 : Int) else 0) = 1 := h2
    have hlt : f < n * 32 := by
      by_cases c : f < n * 32
      · exact c
      · rw [if_neg c] at h3; cases h3
    exact ⟨if_pos (by omega), rfl⟩
  · cases h2
def updL (L : Nat → Ent) (pg : Nat) (x : Ent) : Nat → Ent := fun q => if q = pg then x else L q
/-- what Set says of the pages -/
def LSays (cap : Nat) (L L' : Nat → Ent) (pg : Int) (x : Ent) (E : Int) : Prop :=
  (¬ (0 ≤ pg ∧ pg < 4096) ∧ E = 1 ∧ L' = L) ∨
  ((0 ≤ pg ∧ pg < 4096) ∧ ((¬ eOk x ∧ E = 8 ∧ L' = L) ∨ (eOk x ∧ ((E = 0 ∧ L' = updL L pg.toNat x) ∨
    (E = 4 ∧ L' = L ∧ x.1 ≠ 0 ∧ ∀ pages : List Nat, (∀ q, q ∈ pages ↔ (q = pg.toNat ∨ q ∈ pagesOf L)) → cap < tablesN pages)))))
def LSet (w0 w : World) (pm bl p b bi t : Nat) (S : PS) (B : Nat → Nat → Int) (root : Nat) (ov : Value) (s : TS) (L : Nat → Ent) (pg : Int) (x : Ent) (e : Ending) (w' : World) : Prop :=
  ∃ (E : Int) (S' : PS) (B' : Nat → Nat → Int) (s' : TS) (ov' : Value) (L' : Nat → Ent), e = .returned (.int .i64 E) ∧ Lw w0 w' pm bl p b bi t S' B' root ov' s' L' ∧ Mv S B s.own S' B' s'.own ∧ Chg (TX p bi bl t ov) w w' ∧
    (∀ g, ov'.ownBlock = some g → ov.ownBlock = some g ∨ w.heap.size ≤ g) ∧ LSays (capN S s.own) L L' pg x E
theorem lset_any {w0 w : World} {pm bl p b bi t : Nat} {S : PS} {B : Nat → Nat → Int} {root : Nat} {ov : Value} {s : TS} {L : Nat → Ent} (pg : Int) (x : Ent) (h : Lw w0 w pm bl p b bi t S B root ov s L) :
    Calls Try.prog 10 #[.pointer (some ⟨t, 0, none⟩), .int .i64 pg, eV x] w (LSet w0 w pm bl p b bi t S B root ov s L pg x) := by
  obtain ⟨k, n, wr⟩ := x
  refine (tset_any pg k n wr h.ti h.zi).mono ?_
  rintro e w' ⟨E, S', B', s', ov', rfl, hti, hmv, hch, hob, hs⟩
  have hz := hmv.zi (fun f hf => (h.ti.use f hf).1) h.zi
  rcases hs with ⟨a, rfl, c⟩ | ⟨a, ⟨d, rfl, c⟩ | ⟨d, ⟨rfl, c⟩ | ⟨rfl, c, d2, c2⟩⟩⟩
  · exact ⟨1, S', B', s', ov', L, rfl, ⟨hti, hz, h.ok, fun q => by rw [c]; exact h.en q⟩, hmv, hch, hob, .inl ⟨a, rfl, rfl⟩⟩
  · exact ⟨8, S', B', s', ov', L, rfl, ⟨hti, hz, h.ok, fun q => by rw [c]; exact h.en q⟩, hmv, hch, hob, .inr ⟨a, .inl ⟨d, rfl, rfl⟩⟩⟩
  · refine ⟨0, S', B', s', ov', updL L pg.toNat (k, n, wr), rfl, ⟨hti, hz, fun q => ?_, fun q => ?_⟩, hmv, hch, hob, .inr ⟨a, .inr ⟨d, .inl ⟨rfl, rfl⟩⟩⟩⟩
    · unfold updL
      split
      · exact d
      · exact h.ok q
    · rw [c]
      unfold updE updL
      split
      · rfl
      · exact h.en q
  · refine ⟨4, S', B', s', ov', L, rfl, ⟨hti, hz, h.ok, fun q => by rw [c]; exact h.en q⟩, hmv, hch, hob, .inr ⟨a, .inr ⟨d, .inr ⟨rfl, rfl, ?_, fun pages hp => c2 pages fun q => ?_⟩⟩⟩⟩
    · exact fun z => d2 ((eN_zero (x := (k, n, wr)) d).mpr z)
    · rw [hp, h.pages]
theorem lget_any {w0 w : World} {pm bl p b bi t : Nat} {S : PS} {B : Nat → Nat → Int} {root : Nat} {ov : Value} {s : TS} {L : Nat → Ent} (pg : Nat) (hpg : pg < 4096) (h : Lw w0 w pm bl p b bi t S B root ov s L) :
    Calls Try.prog 14 #[.pointer (some ⟨t, 0, none⟩), .int .i64 (pg : Int)] w (fun e w' => e = .returned (.tuple #[eV (L pg), .int .i64 0]) ∧ Chg NoB w w') :=
  tget_entry pg hpg (L pg).1 (L pg).2.1 (L pg).2.2 (h.ok pg) h.ti (h.en pg)
theorem lget_out {w0 w : World} {pm bl p b bi t : Nat} {S : PS} {B : Nat → Nat → Int} {root : Nat} {own : List Nat} {ov : Value} (pg : Int) (hpg : ¬ (0 ≤ pg ∧ pg < 4096)) (h : TL w0 w pm bl p b bi t S B root own ov) :
    Calls Try.prog 14 #[.pointer (some ⟨t, 0, none⟩), .int .i64 pg] w (GetTo w 0 0 false 1) := by
  have cA : Chg NoB w (w.alloc (.cells #[.int .i64 0, .int .i64 0, .bool false] 33)) := (Chg.refl NoB w).alloc _
  have h1 := h.keep cA
  obtain ⟨A, c, hov⟩ := own_form h1.row
  have hm := may_any (n := own.length) pg (show TBlk _ t pm p root (.slice A own.length c) by rw [← hov]; exact h1.st)
  rw [show mayE pg own.length = 1 from if_pos (by omega)] at hm
  exact get_may pg 1 (by decide) hm
end Go.Proofs.Ytimdojkhdneecaa.Tree

namespace Go.Proofs.Ytimdojkhdneecaa.Tree
open Go.RowKit Go.Proofs.Ytimdojkhdneecaa.Hp Go.Proofs.Ytimdojkhdneecaa.Ram Go.Proofs.Ytimdojkhdneecaa.Word Go.Proofs.Ytimdojkhdneecaa.WordP Go.Proofs.Ytimdojkhdneecaa.Pool
set_option linter.unusedVariables false
set_option linter.unusedSimpArgs false
/-- a new tree on memory of the law's own -/
def NewLw (w0 w : World) (pm bl p b bi : Nat) (S : PS) (e : Ending) (w' : World) : Prop := ∃ t f S' B' ov' s', e = .returned (.tuple #[.pointer (some ⟨t, 0, none⟩), .int .i64 0]) ∧ Lw w0 w' pm bl p b bi t S' B' f ov' s' (fun _ => noE) ∧ capN S' s'.own = freeN S ∧ s'.own = [f] ∧ S.U f = 1 ∧ (∀ g, g ≠ f → S'.U g = S.U g) ∧ w.heap.size ≤ t
theorem new_part {w0 w : World} {pm bl p b bi n : Nat} (hn : 1 ≤ n ∧ n ≤ 32) (hp : PL w0 w p b bi (partS n)) (hr : RRam w pm bl 1024 (fun _ _ => 0) (fun _ => false)) (lo : w0.heap.size ≤ pm ∧ w0.heap.size ≤ bl) (hd : pm ≠ p ∧ pm ≠ bi ∧ pm ≠ b ∧ bl ≠ p ∧ bl ≠ bi ∧ bl ≠ b) :
    Calls Try.prog 9 #[.pointer (some ⟨pm, 0, none⟩), .pointer (some ⟨p, 0, none⟩)] w (NewLw w0 w pm bl p b bi (partS n)) := by
  refine (tnew_any hp hr (fun _ _ => ⟨Int.le_refl _, by decide⟩) lo hd).mono ?_
  rintro e w' ⟨hC, ⟨t, f, ov', hf, hu, ht, rfl, hT, _⟩ | ⟨rfl, _, _, hno⟩⟩
  · obtain ⟨m1, m2⟩ := lw_new hf hu (zi_part n) hT
    have hc := m2.cap (fun f hf => by cases hf)
    refine ⟨t, f, _, _, ov', _, rfl, m1, ?_, rfl, hu, fun g hg => if_neg hg, ht⟩
    have e := cap_free (S := partS n) List.nodup_nil (fun f hf => by cases hf)
    rw [List.length_nil, Nat.add_zero] at e
    exact hc.trans e
  · exact absurd (show (partS n).U 0 = 1 from if_pos (by omega)) (hno 0 (by omega) (if_pos (by omega)) rfl)
theorem pages_upd {L : Nat → Ent} {pg : Nat} {x : Ent} (hpg : pg < 4096) (hx : x.1 ≠ 0) (q : Nat) : q ∈ pagesOf (updL L pg x) ↔ (q = pg ∨ q ∈ pagesOf L) := by
  unfold pagesOf updL
  rw [List.mem_filter, List.mem_filter, List.mem_range, decide_eq_true_eq, decide_eq_true_eq]
  by_cases c : q = pg
  · rw [if_pos c]
    exact ⟨fun _ => .inl c, fun _ => ⟨by omega, hx⟩⟩
  · rw [if_neg c]
    exact ⟨fun y => .inr y, fun y => y.resolve_left c⟩
theorem tablesN_le (pages : List Nat) : tablesN pages ≤ 1 + 3 * pages.length := by
  rw [← nns_all]
  exact nns_le pages 3
def AnsTo (w : World) (e : Ending) (w' : World) : Prop := e = .returned (.bool true) ∧ Chg NoB w w'
set_option maxRecDepth 100000 in
set_option maxHeartbeats 4000000 in
theorem answers_any (w : World) : Calls Try.prog 12 #[] w (AnsTo w) := by
  have hpa := parts_any 1 (by decide) w
  rw [show ((1 : Nat) : Int) = 1 from rfl] at hpa
  go_enter Try.func12, Try.ntmps12
  go_wp2_with fail
  refine hpa.mono ?_
  rintro e w1 ⟨pm, bl, p, b, bi, rfl, hP, hR, hlo, hd⟩
  have hnw := new_part ⟨by decide, by decide⟩ hP hR hlo hd
  clear hpa hP hR hlo hd
  go_wp2_with fail
  refine hnw.mono ?_
  rintro e w2 ⟨t, f, S, B, ov, s, rfl, hL, hcap, _⟩
  have hst := lset_any 9 (2, 5, false) hL
  have HC := Lib.hid (show capN S s.own = 32 by rw [hcap, fN_part 1 (by decide)])
  clear hnw hL hcap
  go_wp2_with fail
  refine hst.mono ?_
  rintro e w3 ⟨E, S', B', s', ov', L', rfl, hL, _, _, _, hs⟩
  have hs2 : E = 0 ∧ L' = updL (fun _ => noE) 9 (2, 5, false) := by
    rcases hs with ⟨a, _⟩ | ⟨_, ⟨a, _⟩ | ⟨_, ⟨a, c⟩ | ⟨_, _, _, c⟩⟩⟩
    · exact absurd ⟨by decide, by decide⟩ a
    · exact absurd (show eOk (2, 5, false) by unfold eOk; decide) a
    · exact ⟨a, c⟩
    · have h1 := c [9] (fun q => by
        have : pagesOf (fun _ => noE) = [] := by
          unfold pagesOf
          rw [List.filter_eq_nil_iff]
          intro q _
          simp [noE]
        rw [this]
        simp)
      rw [HC.out] at h1
      have := tablesN_le [9]
      simp at this
      omega
  obtain ⟨rfl, rfl⟩ := hs2
  have hgt := lget_any 9 (by decide) hL
  rw [show eV (updL (fun _ => noE) 9 (2, 5, false) 9) = .agg #[.int .i64 2, .int .i64 5, .bool false] from rfl, show ((9 : Nat) : Int) = 9 from rfl] at hgt
  have hcnt := hL.count
  have HL := Lib.hid hL
  clear hst hs HC hL
  go_wp2_with fail
  refine hgt.mono ?_
  rintro e w4 ⟨rfl, hC4⟩
  have hL5 := HL.out.keep (hC4.alloc (.cells #[.int .i64 2, .int .i64 5, .bool false] 33))
  have htb := tables_any hL5.ti.tl hL5.ti.len
  have y1 : (w4.alloc (.cells #[.int .i64 2, .int .i64 5, .bool false] 33)).cell? ⟨w4.heap.size, 1, none⟩ = some (.int .i64 5) := by
    have b1 := bnew w4 (.cells #[.int .i64 2, .int .i64 5, .bool false] 33)
    rw [bcell b1]; rfl
  have hlen : s'.own.length = 4 := by
    rw [hcnt]
    kernel_rfl
  have HH := Lib.hid (And.intro hlen hL5)
  clear hgt hC4 HL hcnt hL5 hlen
  go_wp2_with fail
  refine htb.mono ?_
  rintro e w5 ⟨v, rfl, hrow, hC5⟩
  obtain ⟨A, c, rfl⟩ := own_form (w0 := w4.alloc (.cells #[.int .i64 2, .int .i64 5, .bool false] 33)) hrow
  rw [HH.out.1]
  have F := Lib.hid (show AnsTo w (.returned (.bool true)) w5 from ⟨rfl, (HH.out.2.keep hC5).ti.tl.pl.ch⟩)
  clear htb hrow hC5 HH y1
  go_wp2_with fail
  go_ret
  exact F.out
end Go.Proofs.Ytimdojkhdneecaa.Tree
