/- The pure statement of EntryBack: see the theorem at the end. -/
import Derived.Test.YtkohbmbacdgjaaaPEntryBackx4
import Derived.OpenShut
namespace Go.Proofs.Ytkohbmbacdgjaaa.Pure
open Go.RowKit Go.Proofs.Ytkohbmbacdgjaaa.PEntryBack Go.Proofs.YtkohbmbacdgjaaaW.PrintWords Go.Proofs.YtkohbmbacdgjaaaW.PrintLast Go.Proofs.YtkohbmbacdgjaaaW.PrintMore
set_option linter.unusedVariables false
set_option linter.unusedSimpArgs false
-- general lemmas on Go.bits at u64, over numbers
theorem bits_and_u64 (a b : Nat) (ha : a < 18446744073709551616) (hb : b < 18446744073709551616) : Go.bits .and .u64 a b = ((a &&& b : Nat) : Int) := by
  have ha' : a % 2 ^ 64 = a := Nat.mod_eq_of_lt (by simpa using ha)
  have hb' : b % 2 ^ 64 = b := Nat.mod_eq_of_lt (by simpa using hb)
  show IntKind.u64.wrap ((BitVec.ofInt 64 a &&& BitVec.ofInt 64 b).toNat : Int) = _
  simp only [BitVec.ofInt_natCast, BitVec.toNat_and, BitVec.toNat_ofNat, ha', hb']
  have : a &&& b ≤ b := Nat.and_le_right
  exact IntWalk.u64_in _ ⟨Int.natCast_nonneg _, by omega⟩
theorem bits_or_u64 (a b : Nat) (ha : a < 18446744073709551616) (hb : b < 18446744073709551616) : Go.bits .or .u64 a b = ((a ||| b : Nat) : Int) := by
  have ha' : a % 2 ^ 64 = a := Nat.mod_eq_of_lt (by simpa using ha)
  have hb' : b % 2 ^ 64 = b := Nat.mod_eq_of_lt (by simpa using hb)
  show IntKind.u64.wrap ((BitVec.ofInt 64 a ||| BitVec.ofInt 64 b).toNat : Int) = _
  simp only [BitVec.ofInt_natCast, BitVec.toNat_or, BitVec.toNat_ofNat, ha', hb']
  have : a ||| b < 2 ^ 64 := Nat.or_lt_two_pow (by simpa using ha) (by simpa using hb)
  exact IntWalk.u64_in _ ⟨Int.natCast_nonneg _, by omega⟩
theorem bits_andNot_u64 (a b : Nat) (ha : a < 18446744073709551616) (hb : b < 18446744073709551616) : Go.bits .andNot .u64 a b = (a : Int) - ((a &&& b : Nat) : Int) := by
  have ha' : a % 2 ^ 64 = a := Nat.mod_eq_of_lt (by simpa using ha)
  have hb' : b % 2 ^ 64 = b := Nat.mod_eq_of_lt (by simpa using hb)
  have key : (BitVec.ofNat 64 a &&& BitVec.ofNat 64 b) + (BitVec.ofNat 64 a &&& ~~~ BitVec.ofNat 64 b) = BitVec.ofNat 64 a := by
    rw [BitVec.add_eq_or_of_and_eq_zero]
    · apply BitVec.eq_of_getLsbD_eq; intro i hi; simp only [BitVec.getLsbD_or, BitVec.getLsbD_and, BitVec.getLsbD_not, hi]; cases (BitVec.ofNat 64 a).getLsbD i <;> cases (BitVec.ofNat 64 b).getLsbD i <;> rfl
    · apply BitVec.eq_of_getLsbD_eq; intro i hi; simp only [BitVec.getLsbD_and, BitVec.getLsbD_not, hi, BitVec.getLsbD_zero]; cases (BitVec.ofNat 64 a).getLsbD i <;> cases (BitVec.ofNat 64 b).getLsbD i <;> rfl
  have k2 := congrArg BitVec.toNat key
  rw [BitVec.toNat_add, BitVec.toNat_and, BitVec.toNat_ofNat, BitVec.toNat_ofNat, ha', hb'] at k2
  have hq : (BitVec.ofNat 64 a &&& ~~~ BitVec.ofNat 64 b).toNat ≤ a := by
    rw [BitVec.toNat_and, BitVec.toNat_ofNat, ha']; exact Nat.and_le_left
  have hp : a &&& b ≤ a := Nat.and_le_left
  show IntKind.u64.wrap ((BitVec.ofInt 64 a &&& ~~~ BitVec.ofInt 64 b).toNat : Int) = _
  simp only [BitVec.ofInt_natCast]
  generalize (BitVec.ofNat 64 a &&& ~~~ BitVec.ofNat 64 b).toNat = q at *
  rw [IntWalk.u64_in _ ⟨Int.natCast_nonneg _, by omega⟩]
  omega
theorem and_2_40 (a : Nat) : a &&& 1099511627776 = a / 1099511627776 % 2 * 1099511627776 := by
  apply Nat.eq_of_testBit_eq
  intro i
  rw [Nat.testBit_and, show (1099511627776 : Nat) = 2 ^ 40 from rfl, Nat.testBit_two_pow]
  rw [Nat.testBit_mul_two_pow]
  by_cases h : 40 = i
  · subst h
    simp [Nat.testBit_eq_decide_div_mod_eq]
  · simp only [h, decide_false, Bool.and_false]
    by_cases h2 : 40 ≤ i
    · simp only [h2, decide_true, Bool.true_and]
      have : a / 2 ^ 40 % 2 < 2 ^ (i - 40) := by
        have h3 : 2 ^ 1 ≤ 2 ^ (i - 40) := Nat.pow_le_pow_right (by omega) (by omega)
        omega
      rw [Nat.testBit_lt_two_pow this]
    · simp [h2]
theorem and40 (v : Int) (h0 : 0 ≤ v) (h1 : v < 18446744073709551616) : Go.bits .and .u64 v 1099511627776 = v / 1099511627776 % 2 * 1099511627776 := by
  obtain ⟨a, rfl⟩ := Int.eq_ofNat_of_zero_le h0
  have := bits_and_u64 a 1099511627776 (by omega) (by omega)
  rw [show ((1099511627776 : Nat) : Int) = 1099511627776 from rfl] at this
  rw [this, and_2_40]
  omega
theorem andNot40 (v : Int) (h0 : 0 ≤ v) (h1 : v < 18446744073709551616) : Go.bits .andNot .u64 v 1099511627776 = v - v / 1099511627776 % 2 * 1099511627776 := by
  obtain ⟨a, rfl⟩ := Int.eq_ofNat_of_zero_le h0
  have := bits_andNot_u64 a 1099511627776 (by omega) (by omega)
  rw [show ((1099511627776 : Nat) : Int) = 1099511627776 from rfl] at this
  rw [this, and_2_40]
  omega
theorem or40 (v : Int) (h0 : 0 ≤ v) (h1 : v < 1099511627776) : Go.bits .or .u64 v 1099511627776 = v + 1099511627776 := by
  obtain ⟨a, rfl⟩ := Int.eq_ofNat_of_zero_le h0
  have := bits_or_u64 a 1099511627776 (by omega) (by omega)
  rw [show ((1099511627776 : Nat) : Int) = 1099511627776 from rfl] at this
  have h2 := Nat.two_pow_add_eq_or_of_lt (i := 40) (b := a) (by omega) 1
  rw [this, Nat.or_comm]
  rw [show (1099511627776 : Nat) = 2 ^ 40 * 1 from rfl, ← h2]
  omega
theorem bind_ok {α β : Type} {x : Option α} {a : α} {f : α → Option β} (h : x = some a) : x.bind f = f a := by rw [h]; rfl
-- entry, over numbers
def EOk (a n : Int) (w : Bool) : Prop := (a = 1 ∧ 0 ≤ n ∧ n < 1024) ∨ (a = 2 ∧ 0 ≤ n ∧ n < 32 ∧ w = false) ∨ ((a = 0 ∨ a = 3) ∧ n = 0 ∧ w = false)
instance (a n : Int) (w : Bool) : Decidable (EOk a n w) := by unfold EOk; infer_instance
def enum (a n : Int) (w : Bool) : Int := a + 4 * n + (if w = true then 1099511627776 else 0)
theorem u64_id (n : Int) (h0 : 0 ≤ n) (h1 : n < 18446744073709551616) : IntKind.u64.wrap n = n := IntWalk.u64_in n ⟨h0, by omega⟩
theorem w64_id (n : Int) (h0 : -9223372036854775808 ≤ n) (h1 : n < 9223372036854775808) : wrap64 n = n := by unfold wrap64; omega
theorem enc_yes (k : Nat) (a n : Int) (w : Bool) (h : EOk a n w) : entry_Encode.f (k + 1) a n w = some (enum a n w, 0) := by
  have hn : 0 ≤ a ∧ a ≤ 3 ∧ 0 ≤ n ∧ n < 1024 := by unfold EOk at h; omega
  have e1 : wrap64 (4 * n) = 4 * n := w64_id _ (by omega) (by omega)
  have e2 : wrap64 (a + 4 * n) = a + 4 * n := w64_id _ (by omega) (by omega)
  have e3 : IntKind.u64.wrap (a + 4 * n) = a + 4 * n := u64_id _ (by omega) (by omega)
  have e4 : Go.bits .or .u64 (a + 4 * n) 1099511627776 = a + 4 * n + 1099511627776 := or40 _ (by omega) (by omega)
  have hj : entry_Encode.j0 (k + 1) false a n w = some (enum a n w, 0) := by
    simp only [entry_Encode.j0, e1, e2, e3, e4, enum]
    cases w <;> simp
  unfold entry_Encode.f entry_most.f
  rw [if_neg (by omega), if_neg (by omega), if_neg (by omega)]
  rcases h with ⟨rfl, h1, h2⟩ | ⟨rfl, h1, h2, rfl⟩ | ⟨h0, rfl, rfl⟩
  · simp only [if_pos, Option.bind_some]
    rw [if_neg (by omega)]
    cases w <;> exact hj
  · rw [if_neg (by omega), if_pos rfl]; simp only [Option.bind_some]
    rw [if_neg (by omega)]; exact hj
  · rw [if_neg (by omega), if_neg (by omega)]; simp only [Option.bind_some]
    rw [if_neg (by omega)]; exact hj
theorem enc_no (k : Nat) (a n : Int) (w : Bool) (h : ¬ EOk a n w) : entry_Encode.f (k + 1) a n w = some (0, 8) := by
  have hj : entry_Encode.j0 (k + 1) true a n w = some (0, 8) := by simp [entry_Encode.j0]
  unfold entry_Encode.f
  by_cases c1 : a < 0
  · rw [if_pos c1]; exact hj
  rw [if_neg c1]
  by_cases c2 : a > 3
  · rw [if_pos c2]; exact hj
  rw [if_neg c2]
  by_cases c3 : n < 0
  · rw [if_pos c3]; exact hj
  rw [if_neg c3]
  unfold entry_most.f
  unfold EOk at h
  by_cases d1 : a = 1
  · subst d1
    rw [if_pos rfl]; simp only [Option.bind_some]
    rw [if_pos (by omega)]; exact hj
  rw [if_neg d1]
  by_cases d2 : a = 2
  · subst d2
    rw [if_pos rfl]; simp only [Option.bind_some]
    by_cases d3 : n ≥ 32
    · rw [if_pos d3]; exact hj
    · rw [if_neg d3]
      have hw : w = true := by cases w <;> simp_all
      subst hw
      exact hj
  rw [if_neg d2]; simp only [Option.bind_some]
  by_cases d3 : n ≥ 1
  · rw [if_pos d3]; exact hj
  · rw [if_neg d3]
    have hw : w = true := by
      cases w with
      | true => rfl
      | false => exact absurd (Or.inr (Or.inr ⟨by omega, by omega, rfl⟩)) h
    subst hw
    rw [if_pos rfl, show (a != 1) = true from by simpa using d1]
    exact hj
theorem enc_eq (k : Nat) (a n : Int) (w : Bool) : entry_Encode.f (k + 1) a n w = some (if EOk a n w then (enum a n w, 0) else (0, 8)) := by
  by_cases h : EOk a n w
  · rw [if_pos h]; exact enc_yes k a n w h
  · rw [if_neg h]; exact enc_no k a n w h
theorem dec_eq (k : Nat) (v : Int) (h0 : 0 ≤ v) (h1 : v < 18446744073709551616) :
    entry_Decode.f (k + 1) v = some (if v - v / 1099511627776 % 2 * 1099511627776 < 4096 ∧ EOk (v % 4) (v % 1099511627776 / 4) (decide (v / 1099511627776 % 2 = 1)) then (v % 4, v % 1099511627776 / 4, decide (v / 1099511627776 % 2 = 1), 0) else (0, 0, false, 8)) := by
  unfold entry_Decode.f
  rw [andNot40 v h0 h1, and40 v h0 h1]
  by_cases c : v - v / 1099511627776 % 2 * 1099511627776 ≥ 4096
  · rw [if_pos c, if_neg (by omega)]
  · rw [if_neg c]
    have e0 : v - v / 1099511627776 % 2 * 1099511627776 = v % 1099511627776 := by omega
    rw [e0] at c ⊢
    have e1 : wrap64 (Int.tmod (v % 1099511627776) 4) = v % 4 := by
      rw [Int.tmod_eq_emod_of_nonneg (by omega)]; rw [w64_id _ (by omega) (by omega)]; omega
    have e2 : wrap64 (IntKind.u64.wrap (Int.tdiv (v % 1099511627776) 4)) = v % 1099511627776 / 4 := by
      rw [Int.tdiv_eq_ediv_of_nonneg (by omega)]
      rw [u64_id _ (by omega) (by omega), w64_id _ (by omega) (by omega)]
    have e3 : (v / 1099511627776 % 2 * 1099511627776 != 0) = decide (v / 1099511627776 % 2 = 1) := by
      have : v / 1099511627776 % 2 = 0 ∨ v / 1099511627776 % 2 = 1 := by omega
      rcases this with h | h <;> rw [h] <;> decide
    rw [e1, e2, e3, enc_eq]
    have c' : v % 1099511627776 < 4096 := by omega
    by_cases d : EOk (v % 4) (v % 1099511627776 / 4) (decide (v / 1099511627776 % 2 = 1))
    · rw [if_pos d, if_pos ⟨c', d⟩]; simp
    · rw [if_neg d, if_neg (fun h => d h.2)]; simp
theorem answers11 (k : Nat) : headlandlaw11_answers.f (k + 1) = some true := by
  unfold headlandlaw11_answers.f
  rw [enc_eq, dec_eq k _ (by omega) (by omega)]
  decide
theorem ref_eq (a n : Int) (w : Bool) : headlandref08_Entry.f a n w = some (decide (EOk a n w)) := by
  unfold headlandref08_Entry.f
  by_cases h1 : a = 1
  · subst h1
    rw [if_pos rfl]
    by_cases h : n ≥ 0
    · rw [if_pos h]; congr 1; apply decide_eq_decide.mpr; unfold EOk; omega
    · rw [if_neg h]; congr 1; symm; apply decide_eq_false; unfold EOk; omega
  rw [if_neg h1]
  by_cases h2 : a = 2
  · subst h2
    rw [if_pos rfl]
    by_cases h : n ≥ 0
    · rw [if_pos h]
      by_cases h' : n < 32
      · rw [if_pos h']; congr 1; cases w <;> simp [EOk, h, h']
      · rw [if_neg h']; congr 1; symm; apply decide_eq_false; unfold EOk; omega
    · rw [if_neg h]; congr 1; symm; apply decide_eq_false; unfold EOk; omega
  rw [if_neg h2]
  by_cases h3 : a = 0
  · subst h3
    rw [if_pos rfl]
    by_cases h : n = 0
    · subst h; rw [if_pos rfl]; congr 1; cases w <;> simp [EOk]
    · rw [if_neg h]; congr 1; symm; apply decide_eq_false; unfold EOk; omega
  rw [if_neg h3]
  by_cases h4 : a = 3
  · subst h4
    rw [if_pos rfl]
    by_cases h : n = 0
    · subst h; rw [if_pos rfl]; congr 1; cases w <;> simp [EOk]
    · rw [if_neg h]; congr 1; symm; apply decide_eq_false; unfold EOk; omega
  rw [if_neg h4]; congr 1; symm; apply decide_eq_false; unfold EOk; omega
theorem num_eq (a n : Int) (w : Bool) (h : EOk a n w) : headlandref08_Number.f a n w = some (enum a n w) := by
  have hn : 0 ≤ a ∧ a ≤ 3 ∧ 0 ≤ n ∧ n < 1024 := by unfold EOk at h; omega
  unfold headlandref08_Number.f enum
  rw [u64_id a (by omega) (by omega), u64_id n (by omega) (by omega), u64_id (4 * n) (by omega) (by omega), u64_id (a + 4 * n) (by omega) (by omega), u64_id _ (by omega) (by omega)]
  cases w <;> simp
theorem EntryBack (a n : Int) (w : Bool) (ha : (Lit.int .i64 a).wf = true) (hn : (Lit.int .i64 n).wf = true) : ∃ k, headlandlaw11_EntryBack.f k a n w = some true := by
  have hK : ∃ K, headlandlaw11_answers.f K = some true ∧ (∀ a n w, entry_Encode.f K a n w = some (if EOk a n w then (enum a n w, 0) else (0, 8))) ∧
      (∀ v, 0 ≤ v → v < 18446744073709551616 → entry_Decode.f K v = some (if v - v / 1099511627776 % 2 * 1099511627776 < 4096 ∧ EOk (v % 4) (v % 1099511627776 / 4) (decide (v / 1099511627776 % 2 = 1)) then (v % 4, v % 1099511627776 / 4, decide (v / 1099511627776 % 2 = 1), 0) else (0, 0, false, 8))) :=
    ⟨0 + 1, answers11 0, enc_eq 0, dec_eq 0⟩
  obtain ⟨K, hans, henc, hdec⟩ := hK
  refine ⟨K, ?_⟩
  unfold headlandlaw11_EntryBack.f
  rw [bind_ok (henc a n w), bind_ok (ref_eq a n w)]
  by_cases h : EOk a n w
  · rw [if_pos h, if_pos (decide_eq_true h)]
    have hr : 0 ≤ a ∧ a ≤ 3 ∧ 0 ≤ n ∧ n < 1024 := by unfold EOk at h; omega
    have hd : entry_Decode.f K (enum a n w) = some (a, n, w, 0) := by
      rw [hdec _ (by unfold enum; split <;> omega) (by unfold enum; split <;> omega)]
      have e1 : enum a n w % 4 = a := by unfold enum; split <;> omega
      have e2 : enum a n w % 1099511627776 / 4 = n := by unfold enum; split <;> omega
      have e3 : decide (enum a n w / 1099511627776 % 2 = 1) = w := by
        cases w
        · apply decide_eq_false; unfold enum; simp; omega
        · apply decide_eq_true; unfold enum; simp; omega
      have e4 : enum a n w - enum a n w / 1099511627776 % 2 * 1099511627776 < 4096 := by unfold enum; split <;> omega
      rw [e1, e2, e3, if_pos ⟨e4, h⟩]
    rw [bind_ok hd, bind_ok hans, if_pos rfl, if_pos rfl, bind_ok (num_eq a n w h), if_pos rfl, if_pos rfl]
    simp
  · rw [if_neg h, if_neg (by rw [decide_eq_false h]; simp), bind_ok hans, if_pos rfl, if_pos rfl]
    rfl

end Go.Proofs.Ytkohbmbacdgjaaa.Pure
