/- The pure statement of WordWraps: see the theorem at the end. -/
import Derived.Test.YtkohbmbacdgjaaaPWordWrapsx2
import Derived.OpenShut
namespace Go.Proofs.Ytkohbmbacdgjaaa.Pure
open Go.RowKit Go.Proofs.Ytkohbmbacdgjaaa.PWordWraps Go.Proofs.YtkohbmbacdgjaaaW.PrintWords Go.Proofs.YtkohbmbacdgjaaaW.PrintLast Go.Proofs.YtkohbmbacdgjaaaW.PrintMore
set_option linter.unusedVariables false
set_option linter.unusedSimpArgs false
-- general lemmas on Go.bits at u64, over numbers
theorem bits_and_u64 (a b : Nat) (ha : a < 18446744073709551616) (hb : b < 18446744073709551616) : Go.bits .and .u64 a b = ((a &&& b : Nat) : Int) := by
  have ha' : a % 2 ^ 64 = a := Nat.mod_eq_of_lt (by simpa using ha)
  have hb' : b % 2 ^ 64 = b := Nat.mod_eq_of_lt (by simpa using hb)
  show IntKind.u64.wrap ((BitVec.ofInt 64 a &&& BitVec.ofInt 64 b).toNat : Int) = _
  simp only [BitVec.ofInt_natCast, BitVec.toNat_and, BitVec.toNat_ofNat, ha', hb']
  have : a &&& b ≤ b := Nat.and_le_right
  exact IntWalk.u64_in _ ⟨Int.natCast_nonneg _, by omega⟩
theorem bits_or_u64 (a b : Nat) (ha : a < 18446744073709551616) (hb : b < 18446744073709551616) : Go.bits .or .u64 a b = ((a ||| b : Nat) : Int) := by
  have ha' : a % 2 ^ 64 = a := Nat.mod_eq_of_lt (by simpa using ha)
  have hb' : b % 2 ^ 64 = b := Nat.mod_eq_of_lt (by simpa using hb)
  show IntKind.u64.wrap ((BitVec.ofInt 64 a ||| BitVec.ofInt 64 b).toNat : Int) = _
  simp only [BitVec.ofInt_natCast, BitVec.toNat_or, BitVec.toNat_ofNat, ha', hb']
  have : a ||| b < 2 ^ 64 := Nat.or_lt_two_pow (by simpa using ha) (by simpa using hb)
  exact IntWalk.u64_in _ ⟨Int.natCast_nonneg _, by omega⟩
theorem bits_andNot_u64 (a b : Nat) (ha : a < 18446744073709551616) (hb : b < 18446744073709551616) : Go.bits .andNot .u64 a b = (a : Int) - ((a &&& b : Nat) : Int) := by
  have ha' : a % 2 ^ 64 = a := Nat.mod_eq_of_lt (by simpa using ha)
  have hb' : b % 2 ^ 64 = b := Nat.mod_eq_of_lt (by simpa using hb)
  have key : (BitVec.ofNat 64 a &&& BitVec.ofNat 64 b) + (BitVec.ofNat 64 a &&& ~~~ BitVec.ofNat 64 b) = BitVec.ofNat 64 a := by
    rw [BitVec.add_eq_or_of_and_eq_zero]
    · apply BitVec.eq_of_getLsbD_eq; intro i hi; simp only [BitVec.getLsbD_or, BitVec.getLsbD_and, BitVec.getLsbD_not, hi]; cases (BitVec.ofNat 64 a).getLsbD i <;> cases (BitVec.ofNat 64 b).getLsbD i <;> rfl
    · apply BitVec.eq_of_getLsbD_eq; intro i hi; simp only [BitVec.getLsbD_and, BitVec.getLsbD_not, hi, BitVec.getLsbD_zero]; cases (BitVec.ofNat 64 a).getLsbD i <;> cases (BitVec.ofNat 64 b).getLsbD i <;> rfl
  have k2 := congrArg BitVec.toNat key
  rw [BitVec.toNat_add, BitVec.toNat_and, BitVec.toNat_ofNat, BitVec.toNat_ofNat, ha', hb'] at k2
  have hq : (BitVec.ofNat 64 a &&& ~~~ BitVec.ofNat 64 b).toNat ≤ a := by
    rw [BitVec.toNat_and, BitVec.toNat_ofNat, ha']; exact Nat.and_le_left
  have hp : a &&& b ≤ a := Nat.and_le_left
  show IntKind.u64.wrap ((BitVec.ofInt 64 a &&& ~~~ BitVec.ofInt 64 b).toNat : Int) = _
  simp only [BitVec.ofInt_natCast]
  generalize (BitVec.ofNat 64 a &&& ~~~ BitVec.ofNat 64 b).toNat = q at *
  rw [IntWalk.u64_in _ ⟨Int.natCast_nonneg _, by omega⟩]
  omega
theorem and_2_40 (a : Nat) : a &&& 1099511627776 = a / 1099511627776 % 2 * 1099511627776 := by
  apply Nat.eq_of_testBit_eq
  intro i
  rw [Nat.testBit_and, show (1099511627776 : Nat) = 2 ^ 40 from rfl, Nat.testBit_two_pow]
  rw [Nat.testBit_mul_two_pow]
  by_cases h : 40 = i
  · subst h
    simp [Nat.testBit_eq_decide_div_mod_eq]
  · simp only [h, decide_false, Bool.and_false]
    by_cases h2 : 40 ≤ i
    · simp only [h2, decide_true, Bool.true_and]
      have : a / 2 ^ 40 % 2 < 2 ^ (i - 40) := by
        have h3 : 2 ^ 1 ≤ 2 ^ (i - 40) := Nat.pow_le_pow_right (by omega) (by omega)
        omega
      rw [Nat.testBit_lt_two_pow this]
    · simp [h2]
theorem and40 (v : Int) (h0 : 0 ≤ v) (h1 : v < 18446744073709551616) : Go.bits .and .u64 v 1099511627776 = v / 1099511627776 % 2 * 1099511627776 := by
  obtain ⟨a, rfl⟩ := Int.eq_ofNat_of_zero_le h0
  have := bits_and_u64 a 1099511627776 (by omega) (by omega)
  rw [show ((1099511627776 : Nat) : Int) = 1099511627776 from rfl] at this
  rw [this, and_2_40]
  omega
theorem andNot40 (v : Int) (h0 : 0 ≤ v) (h1 : v < 18446744073709551616) : Go.bits .andNot .u64 v 1099511627776 = v - v / 1099511627776 % 2 * 1099511627776 := by
  obtain ⟨a, rfl⟩ := Int.eq_ofNat_of_zero_le h0
  have := bits_andNot_u64 a 1099511627776 (by omega) (by omega)
  rw [show ((1099511627776 : Nat) : Int) = 1099511627776 from rfl] at this
  rw [this, and_2_40]
  omega
theorem or40 (v : Int) (h0 : 0 ≤ v) (h1 : v < 1099511627776) : Go.bits .or .u64 v 1099511627776 = v + 1099511627776 := by
  obtain ⟨a, rfl⟩ := Int.eq_ofNat_of_zero_le h0
  have := bits_or_u64 a 1099511627776 (by omega) (by omega)
  rw [show ((1099511627776 : Nat) : Int) = 1099511627776 from rfl] at this
  have h2 := Nat.two_pow_add_eq_or_of_lt (i := 40) (b := a) (by omega) 1
  rw [this, Nat.or_comm]
  rw [show (1099511627776 : Nat) = 2 ^ 40 * 1 from rfl, ← h2]
  omega
theorem bind_ok {α β : Type} {x : Option α} {a : α} {f : α → Option β} (h : x = some a) : x.bind f = f a := by rw [h]; rfl
-- word, over numbers
def Bytes (l : List Int) : Prop := ∀ x, x ∈ l → 0 ≤ x ∧ x < 256
def leN : List Int → Int
  | [] => 0
  | b :: r => b + 256 * leN r
def digs (v : Int) : Nat → List Int
  | 0 => []
  | n + 1 => v % 256 :: digs (v / 256) n
theorem w64_id' (n : Int) (h0 : -9223372036854775808 ≤ n) (h1 : n < 9223372036854775808) : wrap64 n = n := by unfold wrap64; omega
theorem u64_id' (n : Int) (h0 : 0 ≤ n) (h1 : n < 18446744073709551616) : IntKind.u64.wrap n = n := IntWalk.u64_in n ⟨h0, by omega⟩
theorem digs_length (v : Int) (n : Nat) : (digs v n).length = n := by
  induction n generalizing v with
  | zero => rfl
  | succ n ih => simp [digs, ih]
theorem pow256 (i : Nat) : (256 : Int) ^ i = 2 ^ (8 * i) := by rw [show (256 : Int) = 2 ^ 8 from rfl, ← Int.pow_mul]
theorem pow256n (i : Nat) : (256 : Nat) ^ i = 2 ^ (8 * i) := by rw [show (256 : Nat) = 2 ^ 8 from rfl, ← Nat.pow_mul]
theorem leN_append (a b : List Int) : leN (a ++ b) = leN a + 256 ^ a.length * leN b := by
  induction a with
  | nil => simp [leN]
  | cons x r ih =>
    simp only [List.cons_append, leN, ih, List.length_cons, Int.pow_succ]
    rw [Int.mul_add, ← Int.mul_assoc, Int.mul_comm 256 (256 ^ r.length)]; omega
theorem leN_range (l : List Int) (h : Bytes l) : 0 ≤ leN l ∧ leN l < 256 ^ l.length := by
  induction l with
  | nil => simp [leN]
  | cons x r ih =>
    have hx := h x (by simp)
    have hr := ih fun y hy => h y (by simp [hy])
    simp only [leN, List.length_cons, Int.pow_succ]
    omega
theorem rd_getElem (xs : List Int) (i : Nat) (h : i < xs.length) : rd xs (i : Int) = xs[i] := by simp [rd, h]
theorem or_shift (acc b : Int) (i : Nat) (hi : i < 8) (h0 : 0 ≤ acc) (h1 : acc < 256 ^ i) (hb0 : 0 ≤ b) (hb1 : b < 256) :
    Go.bits .or .u64 acc (shl .u64 (IntKind.u64.wrap b) (8 * (i : Int))) = acc + 256 ^ i * b := by
  obtain ⟨a, rfl⟩ := Int.eq_ofNat_of_zero_le h0
  obtain ⟨c, rfl⟩ := Int.eq_ofNat_of_zero_le hb0
  have hc : c < 256 := by omega
  have ha : a < 2 ^ (8 * i) := by rw [← pow256n]; exact Int.ofNat_lt.mp (by rw [Int.natCast_pow]; exact h1)
  have hp : 2 ^ (8 * i) * c < 18446744073709551616 := by
    have h1 : 2 ^ (8 * i) ≤ 2 ^ 56 := Nat.pow_le_pow_right (by omega) (by omega)
    have h2 : 2 ^ (8 * i) * c ≤ 2 ^ 56 * 255 := Nat.mul_le_mul h1 (by omega)
    exact Nat.lt_of_le_of_lt h2 (by decide)
  have hs : shl .u64 (IntKind.u64.wrap (c : Int)) (8 * (i : Int)) = ((2 ^ (8 * i) * c : Nat) : Int) := by
    unfold shl
    have : min (8 * (i : Int)).toNat IntKind.u64.bits = 8 * i := by simp only [IntKind.bits]; omega
    rw [this, u64_id' (c : Int) (by omega) (by omega), show (c : Int) * 2 ^ (8 * i) = ((2 ^ (8 * i) * c : Nat) : Int) from by rw [Int.natCast_mul, Int.natCast_pow, Int.mul_comm]; rfl]
    exact u64_id' _ (Int.natCast_nonneg _) (by omega)
  have ha' : a < 18446744073709551616 := by
    have h1 : 2 ^ (8 * i) ≤ 2 ^ 56 := Nat.pow_le_pow_right (by omega) (by omega)
    omega
  rw [hs, bits_or_u64 a _ ha' hp, Nat.or_comm, ← Nat.two_pow_add_eq_or_of_lt ha, pow256]
  rw [Int.natCast_add, Int.natCast_mul, Int.natCast_pow, Int.add_comm]; rfl
theorem there_eq (l : List Int) (at_ n : Int) (hl : l.length ≤ 140737488351232) :
    word_there.f l at_ n = some (decide (0 ≤ n ∧ n ≤ 8 ∧ 0 ≤ at_ ∧ at_ ≤ (l.length : Int) ∧ n ≤ (l.length : Int) - at_)) := by
  unfold word_there.f
  by_cases h1 : n ≥ 0
  · rw [if_pos h1]
    by_cases h2 : n ≤ 8
    · rw [if_pos h2]
      by_cases h3 : at_ ≥ 0
      · rw [if_pos h3]
        by_cases h4 : at_ ≤ (l.length : Int)
        · rw [if_pos h4, w64_id' _ (by omega) (by omega)]
          congr 1; apply decide_eq_decide.mpr; omega
        · rw [if_neg h4]; congr 1; symm; apply decide_eq_false; omega
      · rw [if_neg h3]; congr 1; symm; apply decide_eq_false; omega
    · rw [if_neg h2]; congr 1; symm; apply decide_eq_false; omega
  · rw [if_neg h1]; congr 1; symm; apply decide_eq_false; omega
theorem take_snoc_le (l : List Int) (i : Nat) (h : i < l.length) : leN (l.take (i + 1)) = leN (l.take i) + 256 ^ i * l[i] := by
  rw [List.take_succ_eq_append_getElem h, leN_append]
  simp [leN, Nat.min_eq_left (Nat.le_of_lt h)]
theorem get_loop (l : List Int) (hb : Bytes l) (a n : Nat) (hn : n ≤ 8) (han : a + n ≤ l.length) (hl : l.length ≤ 140737488351232) (d : Nat) :
    ∀ (k i : Nat), i + d = n → d < k → word_Get.l0 k l a (leN ((l.drop a).take i)) n i = some (leN ((l.drop a).take n), true) := by
  induction d with
  | zero =>
    intro k i hi hk
    obtain ⟨k, rfl⟩ : ∃ m, k = m + 1 := ⟨k - 1, by omega⟩
    obtain rfl : i = n := by omega
    simp only [word_Get.l0]; rw [if_neg (by omega)]
  | succ d ih =>
    intro k i hi hk
    obtain ⟨k, rfl⟩ : ∃ m, k = m + 1 := ⟨k - 1, by omega⟩
    have hlen : (l.drop a).length = l.length - a := List.length_drop
    have hil : i < (l.drop a).length := by omega
    have c1 : (i : Int) < n := by omega
    have c2 : 0 ≤ (a : Int) + i := by omega
    have c3 : (a : Int) + i < (l.length : Int) := by omega
    have c4 : 0 ≤ 8 * (i : Int) := by omega
    have c5 : i < 8 := by omega
    have c6 : i + 1 + d = n := by omega
    have c7 : d < k := by omega
    have c9 : a + i < l.length := by omega
    have hrange := leN_range ((l.drop a).take i) (fun x hx => hb x (List.mem_of_mem_drop (List.mem_of_mem_take hx)))
    rw [List.length_take, Nat.min_eq_left (by omega)] at hrange
    have hbyte := hb (l[a + i]'c9) (List.getElem_mem _)
    have hrd : rd l (wrap64 ((a : Int) + i)) = l[a + i]'c9 := by
      rw [w64_id' _ (by omega) (by omega), show ((a : Int) + i) = ((a + i : Nat) : Int) from by push_cast; rfl]
      exact rd_getElem _ _ _
    have hw : wrap64 (8 * (i : Int)) = 8 * (i : Int) := w64_id' _ (by omega) (by omega)
    have hw2 : wrap64 ((a : Int) + i) = (a : Int) + i := w64_id' _ (by omega) (by omega)
    have hw3 : wrap64 ((i : Int) + 1) = ((i + 1 : Nat) : Int) := by rw [w64_id' _ (by omega) (by omega)]; push_cast; rfl
    simp only [word_Get.l0]
    rw [if_pos c1, hrd, hw, hw2, hw3, if_pos c2, if_pos c3, if_pos c4]
    rw [or_shift _ _ i c5 hrange.1 hrange.2 hbyte.1 hbyte.2]
    have : leN ((l.drop a).take i) + 256 ^ i * (l[a + i]'c9) = leN ((l.drop a).take (i + 1)) := by
      rw [take_snoc_le _ i hil, List.getElem_drop]
    rw [this]
    exact ih k (i + 1) c6 c7
theorem get_yes (l : List Int) (hb : Bytes l) (a n : Nat) (hn : n ≤ 8) (han : a + n ≤ l.length) (hl : l.length ≤ 140737488351232) (k : Nat) (hk : n < k) :
    word_Get.f k l a n = some (leN ((l.drop a).take n), true) := by
  unfold word_Get.f
  rw [there_eq l a n hl]
  simp only [Option.bind_some]
  rw [if_pos (by apply decide_eq_true; omega)]
  have := get_loop l hb a n hn han hl n k 0 (by omega) hk
  simpa [leN] using this
theorem get_no (l : List Int) (a n : Int) (hl : l.length ≤ 140737488351232) (h : ¬ (0 ≤ n ∧ n ≤ 8 ∧ 0 ≤ a ∧ a ≤ (l.length : Int) ∧ n ≤ (l.length : Int) - a)) (k : Nat) : word_Get.f k l a n = some (0, false) := by
  unfold word_Get.f
  rw [there_eq l a n hl]
  simp only [Option.bind_some]
  rw [if_neg (by rw [decide_eq_false h]; simp)]
def spl (l : List Int) (a : Nat) (ds : List Int) : List Int := l.take a ++ ds ++ l.drop (a + ds.length)
theorem spl_length (l : List Int) (a : Nat) (ds : List Int) (h : a + ds.length ≤ l.length) : (spl l a ds).length = l.length := by
  simp [spl]; omega
theorem spl_nil (l : List Int) (a : Nat) : spl l a [] = l := by simp [spl]
theorem spl_snoc (l : List Int) (a : Nat) (ds : List Int) (x : Int) (h : a + ds.length < l.length) : (spl l a ds).set (a + ds.length) x = spl l a (ds ++ [x]) := by
  apply List.ext_getElem
  · rw [List.length_set, spl_length _ _ _ (by omega), spl_length _ _ _ (by simp; omega)]
  · intro j h1 h2
    rw [List.length_set, spl_length _ _ _ (by omega)] at h1
    simp only [spl, List.getElem_set, List.getElem_append, List.length_append, List.length_take, List.getElem_take, List.getElem_drop, List.length_cons, List.length_nil]
    have hm : min a l.length = a := by omega
    simp only [hm]
    by_cases c1 : j < a
    · simp [c1, show ¬ (a + ds.length = j) from by omega, show j < a + ds.length from by omega, show j < a + (ds.length + 1) from by omega]
    · by_cases c2 : j < a + ds.length
      · simp [c1, c2, show ¬ (a + ds.length = j) from by omega, show j < a + (ds.length + 1) from by omega, show j - a < ds.length from by omega]
      · by_cases c3 : j = a + ds.length
        · subst c3; simp [c1, c2]
        · simp [c1, c2, show ¬ (a + ds.length = j) from by omega, show ¬ (j < a + (ds.length + 1)) from by omega]
          congr 1; omega
theorem digs_snoc (v : Int) (n : Nat) : digs v (n + 1) = digs v n ++ [v / 256 ^ n % 256] := by
  induction n generalizing v with
  | zero => simp [digs]
  | succ n ih =>
    rw [digs, ih (v / 256)]
    simp only [digs, List.cons_append]
    rw [Int.ediv_ediv_of_nonneg (by omega), Int.pow_succ, Int.mul_comm 256]
theorem digs_bytes (v : Int) (n : Nat) : Bytes (digs v n) := by
  induction n generalizing v with
  | zero => intro x hx; simp [digs] at hx
  | succ n ih =>
    intro x hx
    simp only [digs, List.mem_cons] at hx
    rcases hx with rfl | hx
    · omega
    · exact ih _ x hx
theorem leN_digs (v : Int) (n : Nat) (h : 0 ≤ v) : leN (digs v n) = v % 256 ^ n := by
  induction n generalizing v with
  | zero => simp [digs, leN]
  | succ n ih =>
    simp only [digs, leN]
    rw [ih (v / 256) (by omega), Int.pow_succ]
    obtain ⟨a, rfl⟩ := Int.eq_ofNat_of_zero_le h
    rw [Int.mul_comm (256 ^ n) 256]
    have e := Nat.mod_mul (x := a) (a := 256) (b := 256 ^ n)
    have e2 := congrArg (fun z : Nat => (z : Int)) e
    simp only [Int.natCast_emod, Int.natCast_mul, Int.natCast_add, Int.natCast_ediv, Int.natCast_pow] at e2
    exact e2.symm
theorem put_loop (l : List Int) (a n : Nat) (v : Int) (hv0 : 0 ≤ v) (hn : n ≤ 8) (han : a + n ≤ l.length) (hl : l.length ≤ 140737488351232) (d : Nat) :
    ∀ (k i : Nat), i + d = n → d < k → word_Put.l0 k (spl l a (digs v i)) a v n i = some (true, spl l a (digs v n)) := by
  induction d with
  | zero =>
    intro k i hi hk
    obtain ⟨k, rfl⟩ : ∃ m, k = m + 1 := ⟨k - 1, by omega⟩
    obtain rfl : i = n := by omega
    simp only [word_Put.l0]; rw [if_neg (by omega)]
  | succ d ih =>
    intro k i hi hk
    obtain ⟨k, rfl⟩ : ∃ m, k = m + 1 := ⟨k - 1, by omega⟩
    have c1 : (i : Int) < n := by omega
    have c2 : 0 ≤ (a : Int) + i := by omega
    have c3 : (a : Int) + i < (l.length : Int) := by omega
    have c4 : 0 ≤ 8 * (i : Int) := by omega
    have c5 : i < 8 := by omega
    have c6 : i + 1 + d = n := by omega
    have c7 : d < k := by omega
    have c8 : a + (digs v i).length < l.length := by rw [digs_length]; omega
    have hw : wrap64 (8 * (i : Int)) = 8 * (i : Int) := w64_id' _ (by omega) (by omega)
    have hw2 : wrap64 ((a : Int) + i) = (a : Int) + i := w64_id' _ (by omega) (by omega)
    have hw3 : wrap64 ((i : Int) + 1) = ((i + 1 : Nat) : Int) := by rw [w64_id' _ (by omega) (by omega)]; push_cast; rfl
    have hsl : (spl l a (digs v i)).length = l.length := spl_length _ _ _ (Nat.le_of_lt c8)
    have hsh : shr .u64 v (8 * (i : Int)) = v / 256 ^ i := by
      unfold shr
      have : min (8 * (i : Int)).toNat IntKind.u64.bits = 8 * i := by clear hw hw2 hw3 hsl; simp only [IntKind.bits]; omega
      rw [this, pow256]
    simp only [word_Put.l0]
    rw [if_pos c1, hw, hw2, hw3, if_pos c4, if_pos c2, if_pos (by rw [hsl]; exact c3), hsh]
    have e9 : ((a : Int) + i).toNat = a + (digs v i).length := by rw [digs_length]; clear hw hw2 hw3 hsh; omega
    rw [e9, spl_snoc _ _ _ _ c8, ← digs_snoc]
    exact ih k (i + 1) c6 c7
theorem put_yes (l : List Int) (a n : Nat) (v : Int) (hv0 : 0 ≤ v) (hn : n ≤ 8) (han : a + n ≤ l.length) (hl : l.length ≤ 140737488351232) (k : Nat) (hk : n < k) :
    word_Put.f k l a v n = some (true, spl l a (digs v n)) := by
  unfold word_Put.f
  rw [there_eq l a n hl]
  simp only [Option.bind_some]
  rw [if_pos (by apply decide_eq_true; omega)]
  have := put_loop l a n v hv0 hn han hl n k 0 (by omega) hk
  simpa [digs, spl_nil] using this
theorem put_no (l : List Int) (a n v : Int) (hl : l.length ≤ 140737488351232) (h : ¬ (0 ≤ n ∧ n ≤ 8 ∧ 0 ≤ a ∧ a ≤ (l.length : Int) ∧ n ≤ (l.length : Int) - a)) (k : Nat) : word_Put.f k l a v n = some (false, l) := by
  unfold word_Put.f
  rw [there_eq l a n hl]
  simp only [Option.bind_some]
  rw [if_neg (by rw [decide_eq_false h]; simp)]
theorem sum_nil (k : Nat) : word_Sum.f (k + 1) ([] : List (List Int)) = some (Go.bits .xor .u32 (14695981039346656037 / 4294967296 % 4294967296) (14695981039346656037 % 4294967296)) := by
  unfold word_Sum.f
  rw [word_Sum.l0]; rw [if_neg (by simp)]
theorem rsum_nil (k : Nat) : headlandref01_Sum.f (k + 1) ([] : List Int) = some (Go.bits .xor .u32 (14695981039346656037 / 4294967296 % 4294967296) (14695981039346656037 % 4294967296)) := by
  unfold headlandref01_Sum.f
  rw [headlandref01_Sum.l0]; rw [if_neg (by simp)]
  rw [Int.tdiv_eq_ediv_of_nonneg (by omega), Int.tmod_eq_emod_of_nonneg (by omega), u64_id' _ (by omega) (by omega)]
  simp
theorem answers01 (k : Nat) : headlandlaw01_answers.f (k + 10) = some true := by
  have g : word_Get.f (k + 10) ([52, 18] : List Int) 0 2 = some (4660, true) :=
    (get_yes [52, 18] (by intro x hx; simp at hx; omega) 0 2 (by omega) (by simp) (by simp) (k + 10) (by omega)).trans (by simp [leN])
  have p : word_Put.f (k + 10) (List.replicate 2 0 : List Int) 0 4660 2 = some (true, [52, 18]) :=
    (put_yes (List.replicate 2 0) 0 2 4660 (by omega) (by omega) (by simp) (by simp) (k + 10) (by omega)).trans (by simp [spl, digs])
  unfold headlandlaw01_answers.f
  rw [if_pos (by omega)]
  simp only [Option.bind_some]
  rw [g, p, show k + 10 = (k + 9) + 1 from rfl, sum_nil, rsum_nil]
  simp [rd]
theorem leN_zeros (n : Nat) : leN (List.replicate n 0) = 0 := by
  induction n with
  | zero => rfl
  | succ n ih => simp [List.replicate_succ, leN, ih]
theorem wraps_main (v : Int) (k K : Nat) (hK : 10 ≤ K) (h0 : 0 ≤ v) (hk : k ≤ 8) :
    word_Put.f K (List.replicate 8 0) 0 v k = some (true, spl (List.replicate 8 0) 0 (digs v k)) ∧
    word_Get.f K (spl (List.replicate 8 0) 0 (digs v k)) 0 8 = some (v % 256 ^ k, true) := by
  refine ⟨put_yes (List.replicate 8 0) 0 k v h0 hk (by simpa using hk) (by simp) K (by omega), ?_⟩
  have hlen : (spl (List.replicate 8 0) 0 (digs v k)).length = 8 := by rw [spl_length _ _ _ (by rw [digs_length]; simpa using hk)]; simp
  have hby : Bytes (spl (List.replicate 8 0) 0 (digs v k)) := by
    intro x hx
    simp only [spl, List.take_zero, List.nil_append, List.mem_append] at hx
    rcases hx with hx | hx
    · exact digs_bytes _ _ x hx
    · have := List.eq_of_mem_replicate (List.mem_of_mem_drop hx); omega
  refine (get_yes _ hby 0 8 (by omega) (by omega) (by omega) K (by omega)).trans ?_
  rw [List.drop_zero, List.take_of_length_le (by omega)]
  simp only [spl, List.take_zero, List.nil_append, leN_append, List.drop_replicate, leN_zeros, leN_digs _ _ h0]
  simp
theorem WordWraps : headlandlaw01_WordWraps.Pure := by
  intro v n hv hn
  have hw : 0 ≤ v ∧ v < 18446744073709551616 := by have := bounds_u64 hv; omega
  have hm : 0 ≤ n ∧ n < 256 := by have := bounds_u8 hn; omega
  have ha : headlandlaw01_answers.f 10 = some true := answers01 0
  have hK : ∃ K, 10 ≤ K ∧ headlandlaw01_answers.f K = some true := ⟨10, Nat.le_refl _, ha⟩
  clear ha
  obtain ⟨K, hK, ha⟩ := hK
  refine ⟨K, ?_⟩
  have e0 : wrap64 (Int.tmod n 9) = ((n % 9).toNat : Int) := by
    rw [Int.tmod_eq_emod_of_nonneg hm.1, w64_id' _ (by omega) (by omega)]; omega
  unfold headlandlaw01_WordWraps.f
  rw [if_pos (by omega), e0]
  clear e0
  generalize hk : (n % 9).toNat = k
  have hk8 : k ≤ 8 := by omega
  obtain ⟨h1, h2⟩ := wraps_main v k K hK hw.1 hk8
  rw [bind_ok h1, bind_ok h2]
  by_cases c : (k : Int) < 8
  · rw [if_pos c]
    have e1 : IntKind.u64.wrap (wrap64 (8 * (k : Int))) = 8 * (k : Int) := by
      rw [w64_id' _ (by omega) (by omega), u64_id' _ (by omega) (by omega)]
    have hp : (256 : Int) ^ k ≤ 256 ^ 7 := by
      have : 256 ^ k ≤ 256 ^ 7 := Nat.pow_le_pow_right (by omega) (by omega)
      have h := Int.ofNat_le.mpr this
      rw [Int.natCast_pow] at h
      exact h
    have hp0 : (0 : Int) < 256 ^ k := Int.pow_pos (by omega)
    have e2 : shl .u64 1 (8 * (k : Int)) = 256 ^ k := by
      unfold shl
      have : min (8 * (k : Int)).toNat IntKind.u64.bits = 8 * k := by clear e1; simp only [IntKind.bits]; omega
      clear e1
      rw [this, Int.one_mul, ← pow256]
      clear this
      exact u64_id' _ (by omega) (by omega)
    rw [e1, e2]
    clear e1 e2
    rw [if_pos (by omega), if_neg (by omega), Int.tmod_eq_emod_of_nonneg hw.1, bind_ok ha, if_pos rfl, if_pos rfl]
    simp
  · rw [if_neg c]
    obtain rfl : k = 8 := by omega
    have e : v % 256 ^ 8 = v := by omega
    rw [bind_ok ha, if_pos rfl, if_pos rfl]
    show some (v % 256 ^ 8 == v) = some true
    rw [e]
    simp

end Go.Proofs.Ytkohbmbacdgjaaa.Pure
