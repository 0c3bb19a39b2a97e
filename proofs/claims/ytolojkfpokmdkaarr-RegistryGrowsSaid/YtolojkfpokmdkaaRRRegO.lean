/- Chapter 7: a loop over a map's keys, that tells each round that its key is one of the map's (after the kit's worked proofs of maps.Keys, GgKeysAtTheDump and GgStopsAtTheDump, turned to this program). -/
import Derived.Test.YtolojkfpokmdkaaRRRegG
import Derived.RangeFuncNested
import Derived.RangeFuncBound
import Derived.RangeFuncCalls
import Derived.RangeFuncLeaves
import Derived.Shelf.Abstract
import Derived.Shelf.RegionOpen
import Derived.OwnWalkIn
import Derived.TacticsInMore
import Derived.LoopNIn
import Derived.LoopIn
import Derived.Shelf.SlIterI.Stops
namespace Go.Proofs.YtolojkfpokmdkaaRR.Reg
open Go.RowKit Go.Maps Go.Sort Go.Shelf Go.Proofs.YtolojkfpokmdkaaRR.Hp Go.Proofs.YtolojkfpokmdkaaRR.Disk
set_option linter.unusedVariables false
set_option linter.unusedSimpArgs false
attribute [local go_sem] Oper.semAt_some
set_option maxRecDepth 100000 in
set_option maxHeartbeats 1000000 in
theorem keysT_in {H : Type} (F : Fence) (n : Nat) (h10 : F.fn 43) (hro : F.round = none) (hn : 1 ≤ n) (l Bm b nn : Nat) (D0 : DataW H) {R : Value → Option (DataW H × List MemPlace)} (T : Int → Prop) (hT : ∀ x, has D0 (.int .i64 x) = true → T x) (J Jx : List Int → World → Prop)
    (hY : ∀ pre x W, T x → J pre W → pre.length < Maps.size D0 → YieldAt F (n - 1) Try.prog l #[encZ x] W fun e W' =>
      (e = .returned (.bool true) ∧ J (pre ++ [x]) W' ∧ KeepsWalks W W') ∨ (e = .returned (.bool false) ∧ Jx (pre ++ [x]) W'))
    (W : World) (hJ : AbidesFrom W.heap.size J) (hm : W.cell? ⟨Bm, 0, none⟩ = some (.map (some b))) (hown : W.ownsMap Try.prog 3 R b nn D0) (h0 : J [] W) :
    CallsIn F n Try.prog 43 #[.func (.yield l) #[] #[], .pointer (some ⟨Bm, 0, none⟩)] W fun e W' => (∃ v, e = .returned v) ∧
      ((∃ ss : List Int, (ss.Perm (intKeys D0) ∧ ∀ x, x ∈ ss → T x) ∧ J ss W') ∨ (∃ pre : List Int, Jx pre W')) := by
  have k26 := int_keyed Try.underlying3
  refine callsIn_of_wp Try.func43 rfl h10 ?_ hro
  simp only [Try.ntmps43, List.size_toArray, List.length_cons, List.length_nil, Nat.reduceAdd, Nat.reduceSub, Array.replicate_succ, Array.replicate_zero, List.push_toArray, List.append_toArray, List.nil_append, List.cons_append]
  gi_wp2_with (first
    | (gi_at_range; refine wpListIn_range_own _ rfl _ 51 rfl 3 3 k26 Try.underlying51 _ b nn _ rfl hown ?_; intro w0 hrg0 hg0 hs0)
    | gi_in)
  go_frame
  gi_loopw [3] (fun _ wr => ∃ (left : Lit → Bool) (cnt : Nat) (ss : List Int), wr.ranges Try.prog 3 R b W.heap.size nn D0 left cnt ∧ ss.length + cnt ≤ Maps.size D0 ∧ CollectedI D0 left ss ∧ J ss wr)
    (fun _ wr => wr.rangeLeft b W.heap.size)
  case atStart =>
    exact ⟨_, _, [], hrg0, by simp, CollectedI.start D0, hJ [] W w0 none h0 hg0 (fun r e => by cases e)⟩
  case round =>
    obtain ⟨left, cnt, ss, hrg, hcs, hC, hJs⟩ := hrel
    gi_wp2_with (first
      | (gi_at_next; refine wpListIn_next_ranges _ rfl _ rfl 3 k26 R encZ id (fun key kl hk => by obtain ⟨x, hx, _⟩ := Maps.keyOf_i64 Try.underlying3 hk; exact ⟨x, hx⟩) (fun v _ _ => ⟨v, rfl⟩) b W.heap.size nn _ _ _ rfl hrg ?_ ?_)
      | gi_in)
    · intro hc0 hl0
      gi_wp2
      go_end0
      exact ⟨⟨_, rfl⟩, .inl ⟨ss, ⟨hC.perm hown k26 Try.underlying3 hl0, fun x hx => hT x ((hC.2 x).1 hx).1⟩, hJs⟩⟩
    · intro x c kl yd yp w2 cnt2 hkey hlk hv hat hrg2 hlt hg2 hs2 hen
      obtain ⟨x', ex, rfl, _⟩ := Maps.keyOf_i64 Try.underlying3 hkey
      obtain rfl : x = x' := encZ_inj ex
      have hJ2 : J ss w2 := hJ ss wr w2 (some W.heap.size) hJs hg2 (fun r e => by cases e; exact ⟨Nat.le_refl _, hrg.iter_walk⟩)
      have hC2 := hC.step hlk hat
      have hTx : T x := hT x ((hC2.2 x).1 (List.mem_append_right _ (List.mem_singleton.mpr rfl))).1
      obtain ⟨fn, tmps, assign, body, hy, hR⟩ := hY ss x w2 hTx hJ2 (by omega)
      clear hs2
      gi_wp2
      refine hR.mono ?_
      rintro e W3 (⟨rfl, hJ3, hk3⟩ | ⟨rfl, hJx3⟩)
      · gi_wp2
        have hrg3 := hrg2.of_walks hk3
        go_roundw
        case rel => exact ⟨_, cnt2, ss ++ [x], hrg3, by simp; omega, hC2, hJ3⟩
        case measure => rw [hrg3.left_eq, hrg.left_eq]; exact hlt
      · gi_wp2
        refine bodyPost_ret (results_none rfl _ _ _) rfl ?_
        exact ⟨⟨_, rfl⟩, .inr ⟨ss ++ [x], hJx3⟩⟩
theorem keysT_stops {H : Type} (F : Fence) (n : Nat) (h10 : F.fn 43) (hro : F.round = none) (hn : 1 ≤ n) (Bm b nn : Nat) (D0 : DataW H) {R : Value → Option (DataW H × List MemPlace)} (T : Int → Prop) (hT : ∀ x, has D0 (.int .i64 x) = true → T x) (w : World) (hBm : Bm < w.heap.size)
    (hm : w.cell? ⟨Bm, 0, none⟩ = some (.map (some b))) (hown : w.ownsMap Try.prog 3 R b nn D0) :
    SeqStops F n Try.prog 43 #[.pointer (some ⟨Bm, 0, none⟩)] (fun x : {x : Int // T x} => encZ x.1) (fun ss => (ss.map (·.1)).Perm (intKeys D0)) (fun _ => True) (Maps.size D0) w := fun l J Jx W hW hJ hJx hY h0 => by
  have hown' : W.ownsMap Try.prog 3 R b nn D0 := by
    have hbl := hown.lt
    obtain ⟨es, clock, hb, Ft, hs, hD⟩ := hown
    exact ⟨es, clock, (hW.block b hbl).trans hb, Ft, hs, hD⟩
  refine (keysT_in F n h10 hro hn l Bm b nn D0 T hT (fun ss W => ∃ qs : List {x : Int // T x}, qs.map (·.1) = ss ∧ J qs W) (fun ss W => ∃ qs : List {x : Int // T x}, Jx qs W) ?_ W ?_ ((hW.cell (p := ⟨Bm, 0, none⟩) hBm).trans hm) hown' ⟨[], rfl, h0⟩).mono ?_
  · rintro pre x W1 hx ⟨qs, rfl, hj⟩ hlen
    rw [List.length_map] at hlen
    obtain ⟨fn, tmps, assign, body, hy, hR⟩ := hY qs ⟨x, hx⟩ W1 hj hlen
    refine ⟨fn, tmps, assign, body, hy, hR.mono (fun e W' h => ?_)⟩
    rcases h with ⟨e1, e2, e3⟩ | ⟨e1, e2⟩
    · exact .inl ⟨e1, ⟨qs ++ [⟨x, hx⟩], by rw [List.map_append]; rfl, e2⟩, e3⟩
    · exact .inr ⟨e1, _, e2⟩
  · rintro s A B row ⟨qs, h1, h2⟩ hg hr
    exact ⟨qs, h1, hJ qs A B row h2 hg hr⟩
  · rintro e W' ⟨h1, ⟨ss, ⟨hp, _⟩, qs, rfl, hj⟩ | ⟨pre, qs, hj⟩⟩
    · exact ⟨h1, .inl ⟨qs, hp, hj⟩⟩
    · exact ⟨h1, .inr ⟨qs, trivial, hj⟩⟩
end Go.Proofs.YtolojkfpokmdkaaRR.Reg
