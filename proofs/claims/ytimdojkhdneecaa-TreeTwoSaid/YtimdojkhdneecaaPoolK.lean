/- Frames and what they are used for: New, Offline. -/
import Derived.Test.YtimdojkhdneecaaPoolJ
namespace Go.Proofs.Ytimdojkhdneecaa.Pool
open Go.RowKit Go.Proofs.Ytimdojkhdneecaa.Hp Go.Proofs.Ytimdojkhdneecaa.Runs
set_option linter.unusedVariables false
set_option linter.unusedSimpArgs false
def PNewPost (w : World) (e : Ending) (w' : World) : Prop :=
  ∃ p b bi, e = .returned (.pointer (some ⟨p, 0, none⟩)) ∧ PoolAt w' p b bi (fun _ => 0) (fun _ => 0) (fun _ => false) ∧ w.heap.size ≤ p ∧ w.heap.size ≤ b ∧ w.heap.size ≤ bi ∧ Chg NoB w w'
theorem zeroPool : Try.zeroCells85 = (List.replicate 1024 (Value.int .i64 0) ++ ([Value.pointer none] ++ (List.replicate 32 [Value.int .i64 0, Value.bool false]).flatten)).toArray := by kernel_rfl
theorem pairs_at (n s : Nat) (hs : s < n) : (List.replicate n [Value.int .i64 0, Value.bool false]).flatten[s * 2]? = some (.int .i64 0) ∧ (List.replicate n [Value.int .i64 0, Value.bool false]).flatten[s * 2 + 1]? = some (.bool false) := by
  induction n generalizing s with
  | zero => omega
  | succ n ih =>
    rw [List.replicate_succ, List.flatten_cons]
    cases s with
    | zero => exact ⟨rfl, rfl⟩
    | succ s =>
      have h := ih s (by omega)
      refine ⟨?_, ?_⟩
      · rw [List.getElem?_append_right (by show 2 ≤ _; omega), show (s + 1) * 2 - [Value.int .i64 0, Value.bool false].length = s * 2 from by show (s + 1) * 2 - 2 = _; omega]; exact h.1
      · rw [List.getElem?_append_right (by show 2 ≤ _; omega), show (s + 1) * 2 + 1 - [Value.int .i64 0, Value.bool false].length = s * 2 + 1 from by show (s + 1) * 2 + 1 - 2 = _; omega]; exact h.2
def zpL (n m : Nat) : List Value := List.replicate n (Value.int .i64 0) ++ ([Value.pointer none] ++ (List.replicate m [Value.int .i64 0, Value.bool false]).flatten)
theorem zpL_len (n m : Nat) : (zpL n m).length = n + 1 + m * 2 := by simp [zpL]; omega
theorem zpL_a (n m f : Nat) (hf : f < n) : (zpL n m)[f]? = some (.int .i64 0) := by
  unfold zpL; rw [List.getElem?_append_left (by simpa using hf)]; simp [hf]
theorem zpL_c (n m i : Nat) : (zpL n m)[n + 1 + i]? = (List.replicate m [Value.int .i64 0, Value.bool false]).flatten[i]? := by
  unfold zpL
  rw [List.getElem?_append_right (by simp; omega), List.getElem?_append_right (by simp; omega)]
  congr 1; simp; omega
theorem freeL0 (n : Nat) (h : n = 1024) : List.replicate n (0 : Int) = freeL (fun _ => 0) := by
  apply List.ext_getElem
  · rw [freeL_length, List.length_replicate, h]
  · intro i h1 h2; simp [freeL]
theorem pnew_fin (w : World) (b bi : Nat) (h : RSet w b bi (List.replicate (clampF 1024) 0)) :
    PoolAt (w.alloc (.cells (Try.zeroCells85.setIfInBounds 1024 (.pointer (some ⟨b, 0, none⟩))) 85)) w.heap.size b bi (fun _ => 0) (fun _ => 0) (fun _ => false) := by
  have hz : Try.zeroCells85 = (zpL 1024 32).toArray := zeroPool
  have hb := blt h.st
  have hbi := blt h.xs
  have hlen := zpL_len 1024 32
  have ha := zpL_a 1024 32
  have hc := zpL_c 1024 32
  have hp := pairs_at 32
  rw [hz]
  generalize zpL 1024 32 = l at *
  refine ⟨⟨_, bnew _ _, by rw [Array.size_setIfInBounds, List.size_toArray, hlen], fun f hf => ?_, ?_, fun s hs => ?_⟩, ?_, freeL_length _, by omega, by omega⟩
  · rw [Array.getElem?_setIfInBounds_ne (by omega), List.getElem?_toArray, ha f hf]
  · rw [Array.getElem?_setIfInBounds_self_of_lt (by rw [List.size_toArray, hlen]; omega)]
  · rw [Array.getElem?_setIfInBounds_ne (by omega), Array.getElem?_setIfInBounds_ne (by omega), List.getElem?_toArray, List.getElem?_toArray]
    have h1 := hc (s * 2)
    have h2 := hc (s * 2 + 1)
    rw [← Nat.add_assoc] at h2
    exact ⟨h1.trans (hp s hs).1, h2.trans (hp s hs).2⟩
  · rw [← freeL0 (clampF 1024) (by decide)]
    exact h.chg ((Chg.refl NoB w).alloc _) (fun x => x) (fun x => x)
theorem pnew_any (w : World) : Calls Try.prog 19 #[] w (PNewPost w) := by
  go_enter Try.func19, Try.ntmps19
  go_wp2_with fail
  refine (new_any 1024 _).mono ?_
  rintro e w1 ⟨b, bi, rfl, hR, hb, hbi, hC⟩
  have hsz := hC.size
  go_wp2_with fail
  go_ret
  exact ⟨_, b, bi, rfl, pnew_fin w1 b bi hR, by omega, hb, hbi, hC.alloc _⟩
end Go.Proofs.Ytimdojkhdneecaa.Pool
