/- Numbers as bytes: plain lemmas. -/
import Derived.WalkKit
import Derived.IntWalk
import Derived.Laws.BitsLemmas
import Derived.OpenShut
namespace Go.Proofs.Ytimdojkhdneecaa.WordP
open Go.RowKit
set_option linter.unusedVariables false
set_option linter.unusedSimpArgs false
-- general lemmas on Go.bits at u64, over numbers
theorem bits_and_u64 (a b : Nat) (ha : a < 18446744073709551616) (hb : b < 18446744073709551616) : Go.bits .and .u64 a b = ((a &&& b : Nat) : Int) := by
  have ha' : a % 2 ^ 64 = a := Nat.mod_eq_of_lt (by simpa using ha)
  have hb' : b % 2 ^ 64 = b := Nat.mod_eq_of_lt (by simpa using hb)
  show IntKind.u64.wrap ((BitVec.ofInt 64 a &&& BitVec.ofInt 64 b).toNat : Int) = _
  simp only [BitVec.ofInt_natCast, BitVec.toNat_and, BitVec.toNat_ofNat, ha', hb']
  have : a &&& b ≤ b := Nat.and_le_right
  exact IntWalk.u64_in _ ⟨Int.natCast_nonneg _, by omega⟩
theorem bits_or_u64 (a b : Nat) (ha : a < 18446744073709551616) (hb : b < 18446744073709551616) : Go.bits .or .u64 a b = ((a ||| b : Nat) : Int) := by
  have ha' : a % 2 ^ 64 = a := Nat.mod_eq_of_lt (by simpa using ha)
  have hb' : b % 2 ^ 64 = b := Nat.mod_eq_of_lt (by simpa using hb)
  show IntKind.u64.wrap ((BitVec.ofInt 64 a ||| BitVec.ofInt 64 b).toNat : Int) = _
  simp only [BitVec.ofInt_natCast, BitVec.toNat_or, BitVec.toNat_ofNat, ha', hb']
  have : a ||| b < 2 ^ 64 := Nat.or_lt_two_pow (by simpa using ha) (by simpa using hb)
  exact IntWalk.u64_in _ ⟨Int.natCast_nonneg _, by omega⟩
theorem bits_andNot_u64 (a b : Nat) (ha : a < 18446744073709551616) (hb : b < 18446744073709551616) : Go.bits .andNot .u64 a b = (a : Int) - ((a &&& b : Nat) : Int) := by
  have ha' : a % 2 ^ 64 = a := Nat.mod_eq_of_lt (by simpa using ha)
  have hb' : b % 2 ^ 64 = b := Nat.mod_eq_of_lt (by simpa using hb)
  have key : (BitVec.ofNat 64 a &&& BitVec.ofNat 64 b) + (BitVec.ofNat 64 a &&& ~~~ BitVec.ofNat 64 b) = BitVec.ofNat 64 a := by
    rw [BitVec.add_eq_or_of_and_eq_zero]
    · apply BitVec.eq_of_getLsbD_eq; intro i hi; simp only [BitVec.getLsbD_or, BitVec.getLsbD_and, BitVec.getLsbD_not, hi]; cases (BitVec.ofNat 64 a).getLsbD i <;> cases (BitVec.ofNat 64 b).getLsbD i <;> rfl
    · apply BitVec.eq_of_getLsbD_eq; intro i hi; simp only [BitVec.getLsbD_and, BitVec.getLsbD_not, hi, BitVec.getLsbD_zero]; cases (BitVec.ofNat 64 a).getLsbD i <;> cases (BitVec.ofNat 64 b).getLsbD i <;> rfl
  have k2 := congrArg BitVec.toNat key
  rw [BitVec.toNat_add, BitVec.toNat_and, BitVec.toNat_ofNat, BitVec.toNat_ofNat, ha', hb'] at k2
  have hq : (BitVec.ofNat 64 a &&& ~~~ BitVec.ofNat 64 b).toNat ≤ a := by
    rw [BitVec.toNat_and, BitVec.toNat_ofNat, ha']; exact Nat.and_le_left
  have hp : a &&& b ≤ a := Nat.and_le_left
  show IntKind.u64.wrap ((BitVec.ofInt 64 a &&& ~~~ BitVec.ofInt 64 b).toNat : Int) = _
  simp only [BitVec.ofInt_natCast]
  generalize (BitVec.ofNat 64 a &&& ~~~ BitVec.ofNat 64 b).toNat = q at *
  rw [IntWalk.u64_in _ ⟨Int.natCast_nonneg _, by omega⟩]
  omega
theorem and_2_40 (a : Nat) : a &&& 1099511627776 = a / 1099511627776 % 2 * 1099511627776 := by
  apply Nat.eq_of_testBit_eq
  intro i
  rw [Nat.testBit_and, show (1099511627776 : Nat) = 2 ^ 40 from rfl, Nat.testBit_two_pow]
  rw [Nat.testBit_mul_two_pow]
  by_cases h : 40 = i
  · subst h
    simp [Nat.testBit_eq_decide_div_mod_eq]
  · simp only [h, decide_false, Bool.and_false]
    by_cases h2 : 40 ≤ i
    · simp only [h2, decide_true, Bool.true_and]
      have : a / 2 ^ 40 % 2 < 2 ^ (i - 40) := by
        have h3 : 2 ^ 1 ≤ 2 ^ (i - 40) := Nat.pow_le_pow_right (by omega) (by omega)
        omega
      rw [Nat.testBit_lt_two_pow this]
    · simp [h2]
theorem and40 (v : Int) (h0 : 0 ≤ v) (h1 : v < 18446744073709551616) : Go.bits .and .u64 v 1099511627776 = v / 1099511627776 % 2 * 1099511627776 := by
  obtain ⟨a, rfl⟩ := Int.eq_ofNat_of_zero_le h0
  have := bits_and_u64 a 1099511627776 (by omega) (by omega)
  rw [show ((1099511627776 : Nat) : Int) = 1099511627776 from rfl] at this
  rw [this, and_2_40]
  omega
theorem andNot40 (v : Int) (h0 : 0 ≤ v) (h1 : v < 18446744073709551616) : Go.bits .andNot .u64 v 1099511627776 = v - v / 1099511627776 % 2 * 1099511627776 := by
  obtain ⟨a, rfl⟩ := Int.eq_ofNat_of_zero_le h0
  have := bits_andNot_u64 a 1099511627776 (by omega) (by omega)
  rw [show ((1099511627776 : Nat) : Int) = 1099511627776 from rfl] at this
  rw [this, and_2_40]
  omega
theorem or40 (v : Int) (h0 : 0 ≤ v) (h1 : v < 1099511627776) : Go.bits .or .u64 v 1099511627776 = v + 1099511627776 := by
  obtain ⟨a, rfl⟩ := Int.eq_ofNat_of_zero_le h0
  have := bits_or_u64 a 1099511627776 (by omega) (by omega)
  rw [show ((1099511627776 : Nat) : Int) = 1099511627776 from rfl] at this
  have h2 := Nat.two_pow_add_eq_or_of_lt (i := 40) (b := a) (by omega) 1
  rw [this, Nat.or_comm]
  rw [show (1099511627776 : Nat) = 2 ^ 40 * 1 from rfl, ← h2]
  omega
theorem bind_ok {α β : Type} {x : Option α} {a : α} {f : α → Option β} (h : x = some a) : x.bind f = f a := by rw [h]; rfl
-- word, over numbers
def Bytes (l : List Int) : Prop := ∀ x, x ∈ l → 0 ≤ x ∧ x < 256
def leN : List Int → Int
  | [] => 0
  | b :: r => b + 256 * leN r
def digs (v : Int) : Nat → List Int
  | 0 => []
  | n + 1 => v % 256 :: digs (v / 256) n
theorem w64_id' (n : Int) (h0 : -9223372036854775808 ≤ n) (h1 : n < 9223372036854775808) : wrap64 n = n := by unfold wrap64; omega
theorem u64_id' (n : Int) (h0 : 0 ≤ n) (h1 : n < 18446744073709551616) : IntKind.u64.wrap n = n := IntWalk.u64_in n ⟨h0, by omega⟩
theorem digs_length (v : Int) (n : Nat) : (digs v n).length = n := by
  induction n generalizing v with
  | zero => rfl
  | succ n ih => simp [digs, ih]
theorem pow256 (i : Nat) : (256 : Int) ^ i = 2 ^ (8 * i) := by rw [show (256 : Int) = 2 ^ 8 from rfl, ← Int.pow_mul]
theorem pow256n (i : Nat) : (256 : Nat) ^ i = 2 ^ (8 * i) := by rw [show (256 : Nat) = 2 ^ 8 from rfl, ← Nat.pow_mul]
theorem leN_append (a b : List Int) : leN (a ++ b) = leN a + 256 ^ a.length * leN b := by
  induction a with
  | nil => simp [leN]
  | cons x r ih =>
    simp only [List.cons_append, leN, ih, List.length_cons, Int.pow_succ]
    rw [Int.mul_add, ← Int.mul_assoc, Int.mul_comm 256 (256 ^ r.length)]; omega
theorem leN_range (l : List Int) (h : Bytes l) : 0 ≤ leN l ∧ leN l < 256 ^ l.length := by
  induction l with
  | nil => simp [leN]
  | cons x r ih =>
    have hx := h x (by simp)
    have hr := ih fun y hy => h y (by simp [hy])
    simp only [leN, List.length_cons, Int.pow_succ]
    omega
theorem take_snoc_le (l : List Int) (i : Nat) (h : i < l.length) : leN (l.take (i + 1)) = leN (l.take i) + 256 ^ i * l[i] := by
  rw [List.take_succ_eq_append_getElem h, leN_append]
  simp [leN, Nat.min_eq_left (Nat.le_of_lt h)]
def spl (l : List Int) (a : Nat) (ds : List Int) : List Int := l.take a ++ ds ++ l.drop (a + ds.length)
theorem spl_length (l : List Int) (a : Nat) (ds : List Int) (h : a + ds.length ≤ l.length) : (spl l a ds).length = l.length := by
  simp [spl]; omega
theorem spl_nil (l : List Int) (a : Nat) : spl l a [] = l := by simp [spl]
theorem spl_snoc (l : List Int) (a : Nat) (ds : List Int) (x : Int) (h : a + ds.length < l.length) : (spl l a ds).set (a + ds.length) x = spl l a (ds ++ [x]) := by
  apply List.ext_getElem
  · rw [List.length_set, spl_length _ _ _ (by omega), spl_length _ _ _ (by simp; omega)]
  · intro j h1 h2
    rw [List.length_set, spl_length _ _ _ (by omega)] at h1
    simp only [spl, List.getElem_set, List.getElem_append, List.length_append, List.length_take, List.getElem_take, List.getElem_drop, List.length_cons, List.length_nil]
    have hm : min a l.length = a := by omega
    simp only [hm]
    by_cases c1 : j < a
    · simp [c1, show ¬ (a + ds.length = j) from by omega, show j < a + ds.length from by omega, show j < a + (ds.length + 1) from by omega]
    · by_cases c2 : j < a + ds.length
      · simp [c1, c2, show ¬ (a + ds.length = j) from by omega, show j < a + (ds.length + 1) from by omega, show j - a < ds.length from by omega]
      · by_cases c3 : j = a + ds.length
        · subst c3; simp [c1, c2]
        · simp [c1, c2, show ¬ (a + ds.length = j) from by omega, show ¬ (j < a + (ds.length + 1)) from by omega]
          congr 1; omega
theorem digs_snoc (v : Int) (n : Nat) : digs v (n + 1) = digs v n ++ [v / 256 ^ n % 256] := by
  induction n generalizing v with
  | zero => simp [digs]
  | succ n ih =>
    rw [digs, ih (v / 256)]
    simp only [digs, List.cons_append]
    rw [Int.ediv_ediv_of_nonneg (by omega), Int.pow_succ, Int.mul_comm 256]
theorem digs_bytes (v : Int) (n : Nat) : Bytes (digs v n) := by
  induction n generalizing v with
  | zero => intro x hx; simp [digs] at hx
  | succ n ih =>
    intro x hx
    simp only [digs, List.mem_cons] at hx
    rcases hx with rfl | hx
    · omega
    · exact ih _ x hx
theorem leN_digs (v : Int) (n : Nat) (h : 0 ≤ v) : leN (digs v n) = v % 256 ^ n := by
  induction n generalizing v with
  | zero => simp [digs, leN]
  | succ n ih =>
    simp only [digs, leN]
    rw [ih (v / 256) (by omega), Int.pow_succ]
    obtain ⟨a, rfl⟩ := Int.eq_ofNat_of_zero_le h
    rw [Int.mul_comm (256 ^ n) 256]
    have e := Nat.mod_mul (x := a) (a := 256) (b := 256 ^ n)
    have e2 := congrArg (fun z : Nat => (z : Int)) e
    simp only [Int.natCast_emod, Int.natCast_mul, Int.natCast_add, Int.natCast_ediv, Int.natCast_pow] at e2
    exact e2.symm
theorem or_shift2 (acc b : Int) (i : Nat) (hi : i < 8) (h0 : 0 ≤ acc) (h1 : acc < 256 ^ i) (hb0 : 0 ≤ b) (hb1 : b < 256) :
    Go.bits .or .u64 acc (IntKind.u64.wrap (b * 2 ^ (8 * i))) = acc + 256 ^ i * b := by
  obtain ⟨a, rfl⟩ := Int.eq_ofNat_of_zero_le h0
  obtain ⟨c, rfl⟩ := Int.eq_ofNat_of_zero_le hb0
  have hc : c < 256 := by omega
  have ha : a < 2 ^ (8 * i) := by rw [← pow256n]; exact Int.ofNat_lt.mp (by rw [Int.natCast_pow]; exact h1)
  have hp : 2 ^ (8 * i) * c < 18446744073709551616 := by
    have h1 : 2 ^ (8 * i) ≤ 2 ^ 56 := Nat.pow_le_pow_right (by omega) (by omega)
    have h2 : 2 ^ (8 * i) * c ≤ 2 ^ 56 * 255 := Nat.mul_le_mul h1 (by omega)
    exact Nat.lt_of_le_of_lt h2 (by decide)
  have ha' : a < 18446744073709551616 := by
    have h1 : 2 ^ (8 * i) ≤ 2 ^ 56 := Nat.pow_le_pow_right (by omega) (by omega)
    omega
  rw [show (c : Int) * 2 ^ (8 * i) = ((2 ^ (8 * i) * c : Nat) : Int) from by rw [Int.natCast_mul, Int.natCast_pow, Int.mul_comm]; rfl]
  rw [u64_id' _ (Int.natCast_nonneg _) (by omega), bits_or_u64 a _ ha' hp, Nat.or_comm, ← Nat.two_pow_add_eq_or_of_lt ha, pow256]
  rw [Int.natCast_add, Int.natCast_mul, Int.natCast_pow, Int.add_comm]; rfl
theorem get_step (l : List Int) (hb : Bytes l) (a k : Nat) (hk : k < 8) (hak : a + k < l.length) :
    Go.bits .or .u64 (leN ((l.drop a).take k)) (IntKind.u64.wrap (l.getD (a + k) 0 * 2 ^ (8 * k))) = leN ((l.drop a).take (k + 1)) := by
  have hlen : (l.drop a).length = l.length - a := List.length_drop
  have hil : k < (l.drop a).length := by omega
  have hrange := leN_range ((l.drop a).take k) (fun x hx => hb x (List.mem_of_mem_drop (List.mem_of_mem_take hx)))
  rw [List.length_take, Nat.min_eq_left (by omega)] at hrange
  have hbyte := hb (l[a + k]'hak) (List.getElem_mem _)
  have e1 : l.getD (a + k) 0 = l[a + k]'hak := by simp [hak]
  rw [e1, or_shift2 _ _ k hk hrange.1 hrange.2 hbyte.1 hbyte.2, take_snoc_le _ k hil, List.getElem_drop]
theorem put_step (l : List Int) (a k : Nat) (v : Int) (h : a + k < l.length) : (spl l a (digs v k)).set (a + k) (v / 2 ^ (8 * k) % 256) = spl l a (digs v (k + 1)) := by
  have e := spl_snoc l a (digs v k) (v / 2 ^ (8 * k) % 256) (by rw [digs_length]; exact h)
  rw [digs_length] at e
  rw [e, digs_snoc, pow256]
end Go.Proofs.Ytimdojkhdneecaa.WordP
