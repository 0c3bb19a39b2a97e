/- Chapter 25, plain: numbers and bytes as text, and back. -/
import Derived.Lib.SplitLaws
import Derived.Lib.ItoaMem
import Derived.Lib.AtoiAll
import Derived.Lib.SlTrimSet
namespace Go.Proofs.YtmjnbbdlnplmjaaDoor.ScP
open Go.Lib
set_option linter.unusedVariables false
set_option linter.unusedSimpArgs false
theorem index_no (c : UInt8) : ∀ l : List UInt8, c ∉ l → index l [c] = -1
  | [], _ => rfl
  | b :: l, h => by
    have hb : b ≠ c := fun e => h (by rw [e]; exact List.mem_cons_self ..)
    have hp : ([c] : List UInt8).isPrefixOf (b :: l) = false := by simp [List.isPrefixOf, Ne.symm hb]
    rw [index, hp, index_no c l (fun e => h (List.mem_cons_of_mem _ e))]
    rfl
theorem index_sep (c : UInt8) (r : List UInt8) : ∀ l : List UInt8, c ∉ l → index (l ++ c :: r) [c] = (l.length : Int)
  | [], _ => by
    show index (c :: r) [c] = 0
    rw [index]
    simp [List.isPrefixOf]
  | b :: l, h => by
    have hb : b ≠ c := fun e => h (by rw [e]; exact List.mem_cons_self ..)
    have hp : ([c] : List UInt8).isPrefixOf (b :: (l ++ c :: r)) = false := by simp [List.isPrefixOf, Ne.symm hb]
    have ih := index_sep c r l (fun e => h (List.mem_cons_of_mem _ e))
    show index (b :: (l ++ c :: r)) [c] = _
    rw [index, hp, ih, List.length_cons]
    have hne : ¬ ((l.length : Int) == -1) = true := by rw [beq_iff_eq]; omega
    rw [if_neg (by simp), if_neg hne]
    push_cast; rfl
theorem cut_line (c : UInt8) (l r : List UInt8) (h : c ∉ l) : cut (l ++ c :: r) [c] = (l, r, true) := by
  unfold cut
  rw [index_sep c r l h, if_pos (by omega), Int.toNat_natCast, List.take_left]
  have : (l ++ c :: r).drop (l.length + [c].length) = r := by
    rw [show l ++ c :: r = (l ++ [c]) ++ r by simp, show l.length + [c].length = (l ++ [c]).length by simp, List.drop_left]
  rw [this]
/-- pieces with a sign between them -/
def joinC (c : UInt8) : List UInt8 → List (List UInt8) → List UInt8
  | p, [] => p
  | p, q :: ps => p ++ c :: joinC c q ps
theorem split_join (c : UInt8) : ∀ (ps : List (List UInt8)) (p : List UInt8), (∀ q, q ∈ p :: ps → c ∉ q) → splitK [c] 0 ps.length (joinC c p ps) = p :: ps
  | [], p, _ => rfl
  | q :: ps, p, h => by
    have hp := h p (List.mem_cons_self ..)
    have hix := index_sep c (joinC c q ps) p hp
    show splitK [c] 0 (ps.length + 1) (p ++ c :: joinC c q ps) = _
    have hne : ¬ (index (p ++ c :: joinC c q ps) [c] == -1) = true := by rw [hix, beq_iff_eq]; omega
    rw [splitK, if_neg hne, hix, Int.toNat_natCast, Nat.add_zero, List.take_left]
    have : (p ++ c :: joinC c q ps).drop (p.length + [c].length) = joinC c q ps := by
      rw [show p ++ c :: joinC c q ps = (p ++ [c]) ++ joinC c q ps by simp, show p.length + [c].length = (p ++ [c]).length by simp, List.drop_left]
    rw [this, split_join c ps q (fun z hz => h z (List.mem_cons_of_mem _ hz))]
theorem count_no (c : UInt8) (l : List UInt8) (h : c ∉ l) : l.count c = 0 := List.count_eq_zero.mpr h
theorem count_join (c : UInt8) : ∀ (ps : List (List UInt8)) (p : List UInt8), (∀ q, q ∈ p :: ps → c ∉ q) → (joinC c p ps).count c = ps.length
  | [], p, h => count_no c p (h p (List.mem_cons_self ..))
  | q :: ps, p, h => by
    show (p ++ c :: joinC c q ps).count c = _
    rw [List.count_append, List.count_cons_self, count_no c p (h p (List.mem_cons_self ..)), count_join c ps q (fun z hz => h z (List.mem_cons_of_mem _ hz)), List.length_cons]
    omega
/-- digits -/
def isDig (b : UInt8) : Prop := 48 ≤ b.toNat ∧ b.toNat ≤ 57
theorem ofNat_dig (d : Nat) (h : d < 10) : (UInt8.ofNat (48 + d)).toNat = 48 + d := by
  rw [UInt8.toNat_ofNat']
  omega
theorem dec_dig : ∀ (u : Nat) (b : UInt8), b ∈ decDigits u → isDig b := by
  intro u
  induction u using Nat.strongRecOn with
  | _ u ih =>
    intro b hb
    rw [decDigits] at hb
    by_cases h : u < 10
    · rw [dif_pos h, List.mem_singleton] at hb
      subst hb
      unfold isDig
      rw [ofNat_dig u h]; omega
    · rw [dif_neg h] at hb
      rcases List.mem_append.mp hb with hb | hb
      · exact ih (u / 10) (by omega) b hb
      · rw [List.mem_singleton] at hb
        subst hb
        unfold isDig
        rw [ofNat_dig _ (Nat.mod_lt _ (by decide))]; omega
theorem dec_ne (u : Nat) : decDigits u ≠ [] := by
  rw [decDigits]
  by_cases h : u < 10
  · rw [dif_pos h]; simp
  · rw [dif_neg h]; simp
theorem pu_snoc : ∀ (l : List UInt8) (acc : Nat) (c : UInt8), parseUint10 acc (l ++ [c]) = match parseUint10 acc l with
    | .ok a => parseUint10 a [c]
    | .syntax => .syntax
    | .range => .range
  | [], acc, c => rfl
  | b :: l, acc, c => by
    show parseUint10 acc (b :: (l ++ [c])) = _
    rw [parseUint10, parseUint10]
    by_cases h1 : 48 ≤ b.toNat ∧ b.toNat ≤ 57
    · rw [if_pos h1, if_pos h1]
      by_cases h2 : 1844674407370955162 ≤ acc
      · rw [if_pos h2, if_pos h2]
      · rw [if_neg h2, if_neg h2]
        by_cases h3 : 18446744073709551616 ≤ acc * 10 + (b.toNat - 48)
        · rw [if_pos h3, if_pos h3]
        · rw [if_neg h3, if_neg h3]
          exact pu_snoc l _ c
    · rw [if_neg h1, if_neg h1]
theorem pu_dec : ∀ u : Nat, u < 18446744073709551616 → parseUint10 0 (decDigits u) = .ok u := by
  intro u
  induction u using Nat.strongRecOn with
  | _ u ih =>
    intro hu
    rw [decDigits]
    have one : ∀ a d : Nat, d < 10 → a < 1844674407370955162 → a * 10 + d < 18446744073709551616 → parseUint10 a [UInt8.ofNat (48 + d)] = .ok (a * 10 + d) := fun a d hd ha hs => by
      have e := ofNat_dig d hd
      rw [parseUint10, e, if_pos (by omega), if_neg (by omega), if_neg (by omega), parseUint10]
      congr 1; omega
    by_cases h : u < 10
    · rw [dif_pos h, one 0 u h (by omega) (by omega)]
      congr 1; omega
    · rw [dif_neg h, pu_snoc, ih (u / 10) (by omega) (by omega)]
      show parseUint10 (u / 10) [UInt8.ofNat (48 + u % 10)] = _
      rw [one (u / 10) (u % 10) (Nat.mod_lt _ (by decide)) (by omega) (by omega)]
      congr 1; omega
theorem atoi_itoa (n : Int) (h0 : -9223372036854775808 ≤ n) (h1 : n ≤ 9223372036854775807) : atoiAll (itoa n) = .ok n := by
  by_cases hn : n < 0
  · obtain ⟨u, rfl⟩ : ∃ u : Nat, n = -(u : Int) := ⟨n.natAbs, by omega⟩
    rw [itoa_neg u (by omega)]
    unfold atoiAll
    have e45 : (45 : UInt8).toNat = 45 := rfl
    have hm : parseMag (decDigits u) = .ok u := by
      unfold parseMag
      rw [if_neg (dec_ne u), pu_dec u (by omega)]
    simp only [e45]
    rw [if_pos (by simp), hm]
    simp
    omega
  · obtain ⟨u, rfl⟩ : ∃ u : Nat, n = (u : Int) := ⟨n.toNat, by omega⟩
    rw [itoa_nonneg u]
    have hm : parseMag (decDigits u) = .ok u := by
      unfold parseMag
      rw [if_neg (dec_ne u), pu_dec u (by omega)]
    cases hd : decDigits u with
    | nil => exact absurd hd (dec_ne u)
    | cons c r =>
      have hc := dec_dig u c (by rw [hd]; exact List.mem_cons_self ..)
      unfold isDig at hc
      rw [hd] at hm
      unfold atoiAll
      have hs : ¬ (c.toNat = 43 ∨ c.toNat = 45) := by omega
      have hneg : ¬ (c.toNat = 45) := by omega
      simp only []
      rw [if_neg hs, hm]
      simp [hneg]
      omega
/-- the signs of a numeral -/
theorem itoa_mem (n : Int) (b : UInt8) (h : b ∈ itoa n) : isDig b ∨ b = 45 := by
  by_cases hn : n < 0
  · obtain ⟨u, rfl⟩ : ∃ u : Nat, n = -(u : Int) := ⟨n.natAbs, by omega⟩
    rw [itoa_neg u (by omega)] at h
    rcases List.mem_cons.mp h with e | e
    · exact .inr e
    · exact .inl (dec_dig u b e)
  · obtain ⟨u, rfl⟩ : ∃ u : Nat, n = (u : Int) := ⟨n.toNat, by omega⟩
    rw [itoa_nonneg u] at h
    exact .inl (dec_dig u b h)
/-- hex digits -/
def hexd (k : Nat) : UInt8 := UInt8.ofNat (if k < 10 then 48 + k else 87 + k)
def hexL (zs : List Int) : List UInt8 := zs.flatMap (fun z => [hexd (z.toNat / 16), hexd (z.toNat % 16)])
def digitsL : List UInt8 := [48, 49, 50, 51, 52, 53, 54, 55, 56, 57, 97, 98, 99, 100, 101, 102]
theorem hexd_mem : ∀ k, k < 16 → hexd k ∈ digitsL := by decide
theorem hexL_mem {zs : List Int} (hz : ∀ z, z ∈ zs → 0 ≤ z ∧ z < 256) {b : UInt8} (h : b ∈ hexL zs) : b ∈ digitsL := by
  unfold hexL at h
  obtain ⟨z, hz1, hz2⟩ := List.mem_flatMap.mp h
  have := hz z hz1
  simp at hz2
  rcases hz2 with rfl | rfl
  · exact hexd_mem _ (by omega)
  · exact hexd_mem _ (by omega)
theorem trim_all (l cs : List UInt8) (h : ∀ b, b ∈ l → b ∈ cs) : trimS l cs = [] := by
  have h1 : ∀ m : List UInt8, (∀ b, b ∈ m → b ∈ cs) → m.dropWhile (cs.contains ·) = [] := by
    intro m
    induction m with
    | nil => intro _; rfl
    | cons b m ih =>
      intro hm
      rw [List.dropWhile_cons_of_pos (by simpa using hm b (List.mem_cons_self ..))]
      exact ih (fun z hz => hm z (List.mem_cons_of_mem _ hz))
  unfold trimS trimRightS trimLeftS
  rw [h1 l.reverse (fun b hb => h b (List.mem_reverse.mp hb))]
  rfl
theorem hexL_len (zs : List Int) : (hexL zs).length = 2 * zs.length := by
  induction zs with
  | nil => rfl
  | cons z zs ih =>
    show ([hexd (z.toNat / 16), hexd (z.toNat % 16)] ++ hexL zs).length = _
    rw [List.length_append, ih, List.length_cons]
    simp; omega
end Go.Proofs.YtmjnbbdlnplmjaaDoor.ScP
