/- Chapter 7, plain: records as bytes, what is known; and a registry in memory. -/
import Derived.Test.YtolojkfpokmdkaaRRRgF
namespace Go.Proofs.YtolojkfpokmdkaaRR.Reg
open Go.RowKit Go.Proofs.YtolojkfpokmdkaaRR.Hp Go.Proofs.YtolojkfpokmdkaaRR.By Go.Proofs.YtolojkfpokmdkaaRR.Disk Go.Proofs.YtolojkfpokmdkaaRR.Word Go.Proofs.YtolojkfpokmdkaaRR.WordP Go.Proofs.YtolojkfpokmdkaaRR.Log Go.Proofs.YtolojkfpokmdkaaRR.Slot Go.Proofs.YtolojkfpokmdkaaRR.Jour
set_option linter.unusedVariables false
set_option linter.unusedSimpArgs false
def framesB : List Nat → List Int
  | [] => []
  | f :: l => digs (f : Int) 2 ++ framesB l
theorem framesB_len : ∀ l : List Nat, (framesB l).length = 2 * l.length
  | [] => rfl
  | f :: l => by
    show (digs (f : Int) 2 ++ framesB l).length = _
    rw [List.length_append, digs_length, framesB_len l, List.length_cons]
    omega
theorem framesB_app : ∀ a b : List Nat, framesB (a ++ b) = framesB a ++ framesB b
  | [], b => rfl
  | f :: l, b => by
    show digs (f : Int) 2 ++ framesB (l ++ b) = digs (f : Int) 2 ++ framesB l ++ framesB b
    rw [framesB_app l b, List.append_assoc]
theorem framesB_bytes : ∀ l : List Nat, Bytes (framesB l)
  | [], x, hx => by cases hx
  | f :: l, x, hx => by
    rcases List.mem_append.mp (show x ∈ digs (f : Int) 2 ++ framesB l from hx) with h | h
    · exact digs_bytes _ _ x h
    · exact framesB_bytes l x h
theorem framesB_drop (l : List Nat) (k : Nat) (hk : k ≤ l.length) : (framesB l).drop (2 * k) = framesB (l.drop k) := by
  have h : l = l.take k ++ l.drop k := (List.take_append_drop k l).symm
  have hl : (framesB (l.take k)).length = 2 * k := by rw [framesB_len, List.length_take]; omega
  conv => lhs; rw [h, framesB_app]
  rw [← hl, List.drop_left]
theorem framesB_head (f : Nat) (l : List Nat) (hf : f < 65536) : leN (((framesB (f :: l)).drop 0).take 2) = (f : Int) := by
  have h : (digs (f : Int) 2).length = 2 := digs_length _ _
  have h2 := List.take_left (l₁ := digs (f : Int) 2) (l₂ := framesB l)
  rw [h] at h2
  rw [List.drop_zero, show framesB (f :: l) = digs (f : Int) 2 ++ framesB l from rfl, h2]
  rw [leN_digs _ _ (by omega)]
  have e : (256 : Int) ^ 2 = 65536 := by decide
  rw [e]
  omega
theorem frames_spl (l : List Nat) (k : Nat) (f : Nat) (hk : l[k]? = some f) (m : Nat) : spl (framesB (l.take k) ++ List.replicate (m + 2) 0) (2 * k) (digs (f : Int) 2) = framesB (l.take (k + 1)) ++ List.replicate m 0 := by
  have hl : k < l.length := (List.getElem?_eq_some_iff.mp hk).1
  have h1 : (framesB (l.take k)).length = 2 * k := by rw [framesB_len, List.length_take]; omega
  have h2 : l.take (k + 1) = l.take k ++ [f] := by rw [List.take_add_one, hk]; rfl
  have h3 : List.drop ((framesB (l.take k)).length + 2) (framesB (l.take k) ++ List.replicate (m + 2) (0 : Int)) = List.replicate m 0 := by
    rw [List.drop_append, List.drop_eq_nil_of_le (by omega), List.nil_append, show (framesB (l.take k)).length + 2 - (framesB (l.take k)).length = 2 by omega, List.drop_replicate]
    rfl
  unfold spl
  rw [digs_length, h2, framesB_app, ← h1, List.take_left, h3]
  show _ = framesB (l.take k) ++ (digs (f : Int) 2 ++ []) ++ _
  rw [List.append_nil]
/-- what is known -/
structure RSt where
  bad : Nat → Bool
  st : Nat → Int
def RSt.zero : RSt := ⟨fun _ => false, fun _ => 0⟩
inductive Rec where
  | bads (l : List Nat)
  | state (s n : Nat)
def Rec.ok : Rec → Prop
  | .bads l => (0 < l.length ∧ l.length ≤ 20) ∧ ∀ f, f ∈ l → f < 1024
  | .state s n => s < 32 ∧ n < 4
def Rec.bytes : Rec → List Int
  | .bads l => 1 :: framesB l
  | .state s n => [2, (s : Int), (n : Int)]
def Rec.size : Rec → Nat
  | .bads l => l.length
  | .state _ _ => 0
def RSt.app (x : RSt) : Rec → RSt
  | .bads l => ⟨fun f => x.bad f || decide (f ∈ l), x.st⟩
  | .state s n => ⟨x.bad, fun q => if q = s then (n : Int) else x.st q⟩
theorem Rec.len {c : Rec} (h : c.ok) : c.bytes.length ≤ 41 ∧ 0 < c.bytes.length := by
  cases c with
  | bads l => exact ⟨by show (framesB l).length + 1 ≤ 41; rw [framesB_len]; have := h.1.2; omega, by show 0 < (framesB l).length + 1; omega⟩
  | state s n => exact ⟨by show 3 ≤ 41; omega, by show 0 < 3; omega⟩
theorem Rec.byt {c : Rec} (h : c.ok) : Bytes c.bytes := by
  cases c with
  | bads l =>
    intro x hx
    rcases List.mem_cons.mp (show x ∈ 1 :: framesB l from hx) with e | e
    · omega
    · exact framesB_bytes l x e
  | state s n =>
    intro x hx
    have h1 := h.1
    have h2 := h.2
    have hx' : x ∈ [2, (s : Int), (n : Int)] := hx
    simp at hx'
    omega
/-- the map of what is bad -/
def MapOk (M : Int → Option Value) (bad : Nat → Bool) (K : Nat) : Prop :=
  (∀ k v, M k = some v → ∃ c : Nat, v = .int .i64 (c : Int) ∧ 1 ≤ c ∧ c ≤ K ∧ 0 ≤ k ∧ k < 1024 ∧ bad k.toNat = true) ∧ ∀ f : Nat, f < 1024 → bad f = true → M (f : Int) ≠ none
theorem MapOk.zero : MapOk (fun _ => none) (fun _ => false) 0 := ⟨(fun k v h => (by cases h)), (fun f _ h => (by cases h))⟩
theorem MapOk.none_ {M : Int → Option Value} {bad : Nat → Bool} {K : Nat} (h : MapOk M bad K) {f : Nat} (hb : bad f = false) : M (f : Int) = none := by
  cases e : M (f : Int) with
  | none => rfl
  | some v =>
    obtain ⟨c, _, _, _, _, _, hb'⟩ := h.1 _ _ e
    rw [Int.toNat_natCast, hb] at hb'
    cases hb'
theorem MapOk.up {M : Int → Option Value} {bad : Nat → Bool} {K K' : Nat} (h : MapOk M bad K) (hk : K ≤ K') : MapOk M bad K' :=
  ⟨fun k v e => by obtain ⟨c, a, b, d, r⟩ := h.1 k v e; exact ⟨c, a, b, by omega, r⟩, h.2⟩
/-- one more -/
theorem MapOk.put {M : Int → Option Value} {bad : Nat → Bool} {K K' c : Nat} (h : MapOk M bad K) {f : Nat} (hf : f < 1024) (h1 : 1 ≤ c) (hK : K ≤ K') (hc : c ≤ K') : MapOk (updM M (f : Int) (.int .i64 (c : Int))) (fun q => bad q || decide (q = f)) K' := by
  refine ⟨fun k v e => ?_, fun q hq hb => ?_⟩
  · unfold updM at e
    by_cases ck : k = (f : Int)
    · rw [if_pos ck] at e
      refine ⟨c, (Option.some.inj e).symm, h1, hc, by omega, by omega, ?_⟩
      rw [Bool.or_eq_true, decide_eq_true_eq]
      right; omega
    · rw [if_neg ck] at e
      obtain ⟨c', a, b, d, r1, r2, r3⟩ := h.1 k v e
      exact ⟨c', a, b, by omega, r1, r2, by show (bad k.toNat || _) = true; rw [r3]; rfl⟩
  · unfold updM
    by_cases ck : (q : Int) = (f : Int)
    · rw [if_pos ck]; simp
    · rw [if_neg ck]
      rw [Bool.or_eq_true, decide_eq_true_eq] at hb
      rcases hb with hb | hb
      · exact h.2 q hq hb
      · exact absurd (by rw [hb]) ck
theorem MapOk.inc {M : Int → Option Value} {bad : Nat → Bool} {K c : Nat} (h : MapOk M bad K) {f : Nat} (hf : f < 1024) (h1 : 1 ≤ c) (hc : c ≤ K + 1) : MapOk (updM M (f : Int) (.int .i64 (c : Int))) (fun q => bad q || decide (q = f)) (K + 1) := h.put hf h1 (by omega) hc
def RB (w : World) (r j bm : Nat) (st : Nat → Int) : Prop := ∃ C, Blk w r C 54 ∧ C.size = 34 ∧ C[0]? = some (.pointer (some ⟨j, 0, none⟩)) ∧ C[1]? = some (.map (some bm)) ∧ ∀ s, s < 32 → C[2 + s]? = some (.int .i64 (st s))
/-- a registry in memory, but for its journal -/
structure RM (w : World) (r j bm : Nat) (x : RSt) (K : Nat) : Prop where
  rb : RB w r j bm x.st
  mp : ∃ M, MapAt w bm M ∧ MapOk M x.bad K
section
variable {w w' : World} {r j bm K K' : Nat} {x : RSt} {st : Nat → Int} {S : Nat → Prop}
theorem RB.chg (h : RB w r j bm st) (hc : Chg S w w') (hn : ¬ S r) : RB w' r j bm st := by
  obtain ⟨C, h1, h2⟩ := h
  exact ⟨C, hc.blk h1 hn, h2⟩
theorem RB.two (h : RB w r j bm st) : w.cell? ⟨r, 0, none⟩ = some (.pointer (some ⟨j, 0, none⟩)) ∧ w.cell? ⟨r, 1, none⟩ = some (.map (some bm)) := by
  obtain ⟨C, h1, h2, h3, h4, h5⟩ := h
  exact ⟨by rw [bcell h1]; exact h3, by rw [bcell h1]; exact h4⟩
theorem RB.at_ (h : RB w r j bm st) {s : Nat} (hs : s < 32) : w.cell? ⟨r, 2 + s, none⟩ = some (.int .i64 (st s)) ∧ w.frozen? ⟨r, 2 + s, none⟩ = false := by
  obtain ⟨C, h1, h2, h3, h4, h5⟩ := h
  exact ⟨by rw [bcell h1]; exact h5 s hs, bfroz h1 _⟩
theorem RB.set (h : RB w r j bm st) {s : Nat} (hs : s < 32) (n : Int) : RB (w.setCell ⟨r, 2 + s, none⟩ (.int .i64 n)) r j bm (fun q => if q = s then n else st q) := by
  obtain ⟨C, h1, h2, h3, h4, h5⟩ := h
  refine ⟨_, bset h1 (2 + s) _, by simp [h2], ?_, ?_, fun q hq => ?_⟩
  · rw [Array.getElem?_setIfInBounds, if_neg (by omega)]; exact h3
  · rw [Array.getElem?_setIfInBounds, if_neg (by omega)]; exact h4
  · rw [Array.getElem?_setIfInBounds]
    by_cases c : q = s
    · subst c
      rw [if_pos rfl, if_pos (by omega)]
      show _ = some (Value.int .i64 (if q = q then n else st q))
      rw [if_pos rfl]
    · rw [if_neg (by omega)]
      show _ = some (Value.int .i64 (if q = s then n else st q))
      rw [if_neg c]; exact h5 q hq
theorem RM.ne (h : RM w r j bm x K) : r ≠ bm := fun e => by
  obtain ⟨C, h1, _⟩ := h.rb
  obtain ⟨M, ⟨es, cl, hb, _⟩, _⟩ := h.mp
  rw [e] at h1
  have := hb.symm.trans h1
  simp at this
theorem RM.chg (h : RM w r j bm x K) (hc : Chg S w w') (h1 : ¬ S r) (h2 : ¬ S bm) : RM w' r j bm x K := by
  obtain ⟨M, a, b⟩ := h.mp
  exact ⟨h.rb.chg hc h1, M, a.chg hc h2, b⟩
theorem RM.up (h : RM w r j bm x K) (hk : K ≤ K') : RM w r j bm x K' := by
  obtain ⟨M, a, b⟩ := h.mp
  exact ⟨h.rb, M, a, b.up hk⟩
theorem RM.lt (h : RM w r j bm x K) : r < w.heap.size ∧ bm < w.heap.size := by
  obtain ⟨C, h1, _⟩ := h.rb
  obtain ⟨M, a, b⟩ := h.mp
  exact ⟨blt h1, a.lt⟩
end
end Go.Proofs.YtolojkfpokmdkaaRR.Reg
