/- The log: what a record's sector says (plain); on a disk where nothing fails. -/
import Derived.Test.YtmonkoclbcahiaaLogD
namespace Go.Proofs.Ytmonkoclbcahiaa.Log
open Go.RowKit Go.Proofs.Ytmonkoclbcahiaa.Hp Go.Proofs.Ytmonkoclbcahiaa.By Go.Proofs.Ytmonkoclbcahiaa.Disk Go.Proofs.Ytmonkoclbcahiaa.Word Go.Proofs.Ytmonkoclbcahiaa.WordP
set_option linter.unusedVariables false
set_option linter.unusedSimpArgs false
theorem sec_at (gen n : Int) (l : List Int) (h : l.length ≤ 50) (j : Nat) (hj : j < 60) : (secL gen n l)[j]? = if 9 ≤ j ∧ j < 9 + l.length then l[j - 9]? else if 8 ≤ j ∧ j < 8 + 1 then (digs l.length 1)[j - 8]? else if 4 ≤ j ∧ j < 4 + 4 then (digs n 4)[j - 4]? else if 0 ≤ j ∧ j < 0 + 4 then (digs gen 4)[j - 0]? else (List.replicate 64 (0 : Int))[j]? := by
  have d4 : ∀ v, (digs v 4).length = 4 := fun v => digs_length v 4
  have d1 : ∀ v, (digs v 1).length = 1 := fun v => digs_length v 1
  have e1 : (spl (List.replicate 64 0) 0 (digs gen 4)).length = 64 := by rw [spl_length _ _ _ (by rw [d4]; simp)]; simp
  have e2 : (spl (spl (List.replicate 64 0) 0 (digs gen 4)) 4 (digs n 4)).length = 64 := by rw [spl_length _ _ _ (by rw [d4, e1]; omega)]; exact e1
  have e3 : (spl (spl (spl (List.replicate 64 0) 0 (digs gen 4)) 4 (digs n 4)) 8 (digs l.length 1)).length = 64 := by rw [spl_length _ _ _ (by rw [d1, e2]; omega)]; exact e2
  have e4 := secH_len gen n l h
  unfold secL
  rw [spl_get _ _ 60 j (by rw [d4, e4]; omega), if_neg (by omega)]
  unfold secH
  rw [spl_get _ _ 9 j (by omega), spl_get _ _ 8 j (by rw [d1, e2]; omega), spl_get _ _ 4 j (by rw [d4, e1]; omega), spl_get _ _ 0 j (by rw [d4]; simp), d1, d4, d4]
theorem take_eq (L k : List Int) (a m : Nat) (hk : k.length = m) (h : ∀ j, j < m → L[a + j]? = k[j]?) : (L.drop a).take m = k := by
  apply List.ext_getElem?
  intro j
  rw [List.getElem?_take, List.getElem?_drop]
  by_cases c : j < m
  · rw [if_pos c]; exact h j c
  · rw [if_neg c, List.getElem?_eq_none (by omega)]
theorem sec_gen (gen n : Int) (l : List Int) (h : l.length ≤ 50) : ((secL gen n l).drop 0).take 4 = digs gen 4 :=
  take_eq _ _ 0 4 (digs_length _ _) (fun j hj => by rw [sec_at gen n l h _ (by omega), if_neg (by omega), if_neg (by omega), if_neg (by omega), if_pos (by omega)]; simp)
theorem sec_num (gen n : Int) (l : List Int) (h : l.length ≤ 50) : ((secL gen n l).drop 4).take 4 = digs n 4 :=
  take_eq _ _ 4 4 (digs_length _ _) (fun j hj => by rw [sec_at gen n l h _ (by omega), if_neg (by omega), if_neg (by omega), if_pos (by omega)]; congr 1; omega)
theorem sec_size (gen n : Int) (l : List Int) (h : l.length ≤ 50) : (secL gen n l).getD 8 0 = l.length := by
  rw [List.getD_eq_getElem?_getD, sec_at gen n l h 8 (by omega), if_neg (by omega), if_pos (by omega)]
  have : digs (l.length : Int) 1 = [(l.length : Int)] := by
    rw [show (1 : Nat) = 0 + 1 from rfl, digs_snoc]
    have : ((l.length : Int) / 256 ^ 0 % 256) = l.length := by rw [Int.pow_zero, Int.ediv_one]; omega
    rw [this]; rfl
  rw [this]; rfl
theorem sec_data (gen n : Int) (l : List Int) (h : l.length ≤ 50) : ((secL gen n l).drop 9).take l.length = l :=
  take_eq _ _ 9 _ rfl (fun j hj => by rw [sec_at gen n l h _ (by omega), if_pos (by omega)]; congr 1; omega)
theorem rec_sec (gen n : Int) (l : List Int) (h : l.length ≤ 50) : recOf (secL gen n l) gen n = some l := by
  unfold recOf
  rw [sec_size gen n l h, if_neg (by omega), Int.toNat_natCast, sec_data gen n l h, if_pos rfl]
theorem digs_inj {a b : Int} (ha : 0 ≤ a ∧ a < 4294967296) (hb : 0 ≤ b ∧ b < 4294967296) (h : digs a 4 = digs b 4) : a = b := by
  have h1 := leN_digs a 4 ha.1
  have h2 := leN_digs b 4 hb.1
  rw [h, h2] at h1
  have e : (256 : Int) ^ 4 = 4294967296 := by decide
  rw [e] at h1
  omega
theorem rec_some {L : List Int} {gen n : Int} {b : List Int} (h : recOf L gen n = some b) : secL gen n b = L ∧ b.length ≤ 50 := by
  unfold recOf at h
  by_cases c : 50 < L.getD 8 0
  · rw [if_pos c] at h; cases h
  · rw [if_neg c] at h
    by_cases c2 : secL gen n ((L.drop 9).take (L.getD 8 0).toNat) = L
    · rw [if_pos c2] at h
      obtain rfl := Option.some.inj h
      exact ⟨c2, by rw [List.length_take]; omega⟩
    · rw [if_neg c2] at h; cases h
theorem rec_other {gen n gen' n' : Int} {l : List Int} (h : l.length ≤ 50) (g : 0 ≤ gen ∧ gen < 4294967296) (g' : 0 ≤ gen' ∧ gen' < 4294967296) (hne : gen ≠ gen') : recOf (secL gen n l) gen' n' = none := by
  cases e : recOf (secL gen n l) gen' n' with
  | none => rfl
  | some b =>
    obtain ⟨h1, h2⟩ := rec_some e
    have a := sec_gen gen' n' b h2
    rw [h1, sec_gen gen n l h] at a
    exact absurd (digs_inj g g' a) hne
theorem rec_zero {gen n : Int} (g : 0 < gen ∧ gen < 4294967296) : recOf (List.replicate 64 0) gen n = none := by
  cases e : recOf (List.replicate 64 0) gen n with
  | none => rfl
  | some b =>
    obtain ⟨h1, h2⟩ := rec_some e
    have a := sec_gen gen n b h2
    rw [h1] at a
    have z : ((List.replicate 64 (0 : Int)).drop 0).take 4 = digs 0 4 := by decide
    rw [z] at a
    have := digs_inj (by omega) (by omega) a
    omega
theorem sure_get (s : DSt) (k : Int) : s.sureAll.get k = s.get k := rfl
theorem app_calm {s : DSt} (h : Disk.Calm s) {n : Int} (h0 : 0 ≤ n) (h1 : n < s.n) {l : List Int} (hl : l.length = 64) : appE s n l = 0 ∧ appS s n l = (s.put n.toNat l).sureAll := by
  have e1 := calm_wrE h h0 h1 hl
  have e2 := calm_wr h h0 h1 hl
  have cp : Disk.Calm (s.put n.toNat l) := calm_put h _ _
  have e3 : (s.put n.toNat l).num.work = ((s.put n.toNat l).num, 0) := work_calm _ cp
  unfold appE appS DSt.flE DSt.fl
  rw [e1, e2, if_pos rfl, if_pos rfl, e3, if_pos rfl]
  exact ⟨rfl, rfl⟩
theorem st_calm {s : DSt} (h : Disk.Calm s) : ∀ j, st s j = s
  | 0 => rfl
  | j + 1 => by
    show (st s j).io j = s
    rw [st_calm h j, calm_io h]
def RepAns (w0 w : World) (d : Nat) (ρ : Nat → Nat) (s : DSt) (gen : Int) (k : Nat) (e : Ending) (w' : World) : Prop :=
  ∃ v, e = .returned (.tuple #[v, .int .i64 0]) ∧ Chg (Own ρ) w w' ∧ LRows w' w.heap.size v (recs s gen k) ∧ DL w0 w' d ρ s
theorem rep_calm {w0 w w' : World} {d : Nat} {ρ : Nat → Nat} {s : DSt} {gen : Int} {e : Ending} (h : RepPost w0 w d ρ s gen e w') (hc : Disk.Calm s) (hn : 64 ≤ s.n) (k : Nat) (hk : k ≤ 64) (h1 : ∀ j, j < k → (recOf (s.get j) gen j).isSome = true) (h2 : k = 64 ∨ recOf (s.get k) gen k = none) : RepAns w0 w d ρ s gen k e w' := by
  obtain ⟨v, E, m, rfl, hch, hm, hG, hr⟩ := h
  have io : ∀ j : Nat, j < 64 → (st s j).ioE j = 0 := fun j hj => by rw [st_calm hc]; exact calm_ioE hc (by omega) (by omega)
  have nk : ¬ k < m := fun x => by
    rcases h2 with h2 | h2
    · omega
    · have := (hG k x).2
      rw [h2] at this; cases this
  rcases hr with ⟨rfl, hL, hr⟩ | ⟨a, b, c, _⟩
  · rcases hr with ⟨rfl, hD⟩ | ⟨a, b, c, hD⟩
    · obtain rfl : k = 64 := by omega
      rw [st_calm hc] at hD
      exact ⟨v, rfl, hch, hL, hD⟩
    · have : ¬ m < k := fun x => by
        have := h1 m x
        rw [c] at this; cases this
      obtain rfl : k = m := by omega
      rw [st_calm hc] at hD
      exact ⟨v, rfl, hch, hL, hD⟩
  · exact absurd (by rw [b]; exact io m a) c
end Go.Proofs.Ytmonkoclbcahiaa.Log
