/- Numbers as bytes: Put (XWord without Get). -/
import Derived.Test.YtimdojkhdneecaaHpC
import Derived.Test.YtimdojkhdneecaaWordP
namespace Go.Proofs.Ytimdojkhdneecaa.Word
open Go.RowKit Go.Proofs.Ytimdojkhdneecaa.Hp Go.Proofs.Ytimdojkhdneecaa.WordP
set_option linter.unusedVariables false
set_option linter.unusedSimpArgs false
def thereB (L at_ n : Int) : Bool := decide (0 ≤ n ∧ n ≤ 8 ∧ 0 ≤ at_ ∧ at_ ≤ L ∧ n ≤ L - at_)
set_option maxHeartbeats 1000000 in
theorem there_any (A : Option Addr) (L c : Nat) (at_ n : Int) (w : World) (hL : L ≤ 140737488351232) :
    Calls Try.prog 65 #[.slice A L c, .int .i64 at_, .int .i64 n] w fun e w' => e = .returned (.bool (thereB L at_ n)) ∧ w = w' := by
  by_cases h1 : 0 ≤ n
  · by_cases h2 : n ≤ 8
    · by_cases h3 : 0 ≤ at_
      · by_cases h4 : at_ ≤ (L : Int)
        · by_cases h5 : n ≤ (L : Int) - at_
          · rw [show thereB L at_ n = true from decide_eq_true ⟨h1, h2, h3, h4, h5⟩]
            go_enter Try.func65, Try.ntmps65
            go_wp2
            go_ret
            exact ⟨rfl, rfl⟩
          · rw [show thereB L at_ n = false from decide_eq_false (fun x => h5 x.2.2.2.2)]
            go_enter Try.func65, Try.ntmps65
            go_wp2
            go_ret
            exact ⟨rfl, rfl⟩
        · rw [show thereB L at_ n = false from decide_eq_false (fun x => h4 x.2.2.2.1)]
          go_enter Try.func65, Try.ntmps65
          go_wp2
          go_ret
          exact ⟨rfl, rfl⟩
      · rw [show thereB L at_ n = false from decide_eq_false (fun x => h3 x.2.2.1)]
        go_enter Try.func65, Try.ntmps65
        go_wp2
        go_ret
        exact ⟨rfl, rfl⟩
    · rw [show thereB L at_ n = false from decide_eq_false (fun x => h2 x.2.1)]
      go_enter Try.func65, Try.ntmps65
      go_wp2
      go_ret
      exact ⟨rfl, rfl⟩
  · rw [show thereB L at_ n = false from decide_eq_false (fun x => h1 x.1)]
    go_enter Try.func65, Try.ntmps65
    go_wp2
    go_ret
    exact ⟨rfl, rfl⟩
/-- A slice of bytes that lies in a block: where, and the bytes. -/
structure InB (w : World) (g off : Nat) (C : Array Value) (T : Nat) (l : List Int) : Prop where
  bk : Blk w g C T
  fit : off + l.length ≤ C.size
  by_ : ∀ j, j < l.length → C[off + j]? = some (.int .u8 (l.getD j 0))
theorem InB.cell {w : World} {g off : Nat} {C : Array Value} {T : Nat} {l : List Int} (h : InB w g off C T l) (j : Nat) (hj : j < l.length) : w.cell? ⟨g, off + j, none⟩ = some (.int .u8 (l.getD j 0)) := by
  rw [bcell h.bk]; exact h.by_ j hj
theorem InB.rd {w : World} {g off : Nat} {C : Array Value} {T : Nat} {l : List Int} (h : InB w g off C T l) (hl : l.length ≤ 140737488351232) : Rd w .u8 (some ⟨g, off, none⟩) l := by
  refine ⟨hl, fun _ => ⟨_, rfl, fun j hj => ?_⟩⟩
  have e : (⟨g, off, none⟩ : Addr).add j = ⟨g, off + j, none⟩ := by unfold Addr.add; split <;> simp_all
  rw [e]; exact h.cell j hj
theorem InB.set {w : World} {g off : Nat} {C : Array Value} {T : Nat} {l : List Int} (h : InB w g off C T l) (i : Nat) (x : Int) (hi : i < l.length) :
    InB (w.setCell ⟨g, off + i, none⟩ (.int .u8 x)) g off (C.setIfInBounds (off + i) (.int .u8 x)) T (l.set i x) := by
  have hf := h.fit
  refine ⟨bset h.bk _ _, by simpa using h.fit, fun j hj => ?_⟩
  rw [List.length_set] at hj
  by_cases e : i = j
  · subst e
    rw [Array.getElem?_setIfInBounds_self_of_lt (by omega)]
    simp [hi]
  · rw [Array.getElem?_setIfInBounds_ne (by omega), h.by_ j hj]
    simp [List.getD_eq_getElem?_getD, List.getElem?_set, e]
theorem put_no (A : Option Addr) (L c : Nat) (at_ v n : Int) (w : World) (hL : L ≤ 140737488351232) (h : thereB L at_ n = false) :
    Calls Try.prog 52 #[.slice A L c, .int .i64 at_, .int .u64 v, .int .i64 n] w fun e w' => e = .returned (.bool false) ∧ w = w' := by
  go_enter Try.func52, Try.ntmps52
  go_wp2_with fail
  refine (there_any A L c at_ n _ hL).mono ?_
  rintro e w1 ⟨rfl, rfl⟩
  rw [h]
  go_wp2_with fail
  go_ret
  exact ⟨rfl, rfl⟩
/-- what stands in a block's other cells stays -/
def Same (off L : Nat) (C C' : Array Value) : Prop := C'.size = C.size ∧ ∀ i, i < off ∨ off + L ≤ i → C'[i]? = C[i]?
def PutRel (w : World) (g off : Nat) (C : Array Value) (T : Nat) (l : List Int) (a n : Nat) (v : Int) (i : Value) (wr : World) : Prop :=
  ∃ (k : Nat) (C' : Array Value), k ≤ n ∧ i = .int .i64 k ∧ InB wr g off C' T (spl l a (digs v k)) ∧ Same off l.length C C' ∧ Chg (· = g) w wr
def PutPost (w : World) (g off : Nat) (C : Array Value) (T : Nat) (l' : List Int) (L : Nat) (e : Ending) (w' : World) : Prop :=
  ∃ C', e = .returned (.bool true) ∧ InB w' g off C' T l' ∧ Same off L C C' ∧ Chg (· = g) w w'
set_option maxHeartbeats 2000000 in
theorem put_yes (g off c : Nat) (C : Array Value) (T : Nat) (l : List Int) (a n : Nat) (v : Int) (w : World) (h : InB w g off C T l) (hL : l.length ≤ 140737488351232) (hv0 : 0 ≤ v) (hv1 : v < 18446744073709551616) (hn : n ≤ 8) (han : a + n ≤ l.length) :
    Calls Try.prog 52 #[.slice (some ⟨g, off, none⟩) l.length c, .int .i64 a, .int .u64 v, .int .i64 n] w (PutPost w g off C T (spl l a (digs v n)) l.length) := by
  have ht : thereB l.length a n = true := decide_eq_true ⟨by omega, by omega, by omega, by omega, by omega⟩
  go_enter Try.func52, Try.ntmps52
  go_wp2_with fail
  refine (there_any _ l.length c a n _ hL).mono ?_
  rintro e w1 ⟨rfl, rfl⟩
  rw [ht]
  clear ht
  go_wp2_with fail
  go_loopw [16] (fun i wr => PutRel w g off C T l a n v i wr) (fun i wr => n - (intOf i).toNat)
  case atStart => exact ⟨0, C, by omega, rfl, by simpa [digs, spl_nil] using h, ⟨rfl, fun _ _ => rfl⟩, Chg.refl _ _⟩
  case round =>
    obtain ⟨k, C', hk, rfl, hI, hS, hC⟩ := hrel
    by_cases hlt : k < n
    · have hsl : (spl l a (digs v k)).length = l.length := spl_length _ _ _ (by rw [digs_length]; omega)
      have hcell := hI.cell (a + k) (by omega)
      have hfr := fun i => bfroz hI.bk i
      have st := put_step l a k v (by omega)
      have hfit := hI.fit
      have fin : PutRel w g off C T l a n v (.int .i64 ((k : Int) + 1)) (wr.setCell ⟨g, off + (a + k), none⟩ (.int .u8 (v / 2 ^ (8 * k) % 256))) := by
        refine ⟨k + 1, C'.setIfInBounds (off + (a + k)) (.int .u8 (v / 2 ^ (8 * k) % 256)), by omega, rfl, ?_, ?_, Chg.set (S := (· = g)) hC (p := ⟨g, off + (a + k), none⟩) (.inl rfl) _⟩
        · rw [← st]; exact hI.set (a + k) _ (by omega)
        · refine ⟨by simpa using hS.1, fun i hi => ?_⟩
          rw [Array.getElem?_setIfInBounds_ne (by omega)]; exact hS.2 i hi
      have FIN := Lib.hid fin
      clear fin st hI hS hC hsl hfit h
      generalize (spl l a (digs v k)).getD (a + k) 0 = x at *
      go_wp2_with fail
      exact ⟨FIN.out, by simp [intOf]; omega⟩
    · obtain rfl : k = n := by omega
      have post : PutPost w g off C T (spl l a (digs v k)) l.length (.returned (.bool true)) wr := ⟨C', rfl, hI, hS, hC⟩
      clear hI hS hC
      go_wp2_with fail
      go_ret
      exact post
end Go.Proofs.Ytimdojkhdneecaa.Word
