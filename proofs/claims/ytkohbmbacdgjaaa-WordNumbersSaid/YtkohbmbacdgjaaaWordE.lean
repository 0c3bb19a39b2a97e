/- Numbers as bytes: the statements on sums. -/
import Derived.Test.YtkohbmbacdgjaaaWordC
namespace Go.Proofs.Ytkohbmbacdgjaaa.Word
open Go.RowKit Go.Proofs.Ytkohbmbacdgjaaa.Hp Go.Proofs.Ytkohbmbacdgjaaa.WordP
set_option linter.unusedVariables false
set_option linter.unusedSimpArgs false
/-- A new slice of slices. -/
theorem parts_new (w : World) (vs : List (Option Addr × Nat × List Int)) (h : ∀ x, x ∈ vs → Rd w .u8 x.1 x.2.2 ∧ Bytes x.2.2) (T : TypeId) (g : Nat) (hg : g = w.heap.size) :
    Parts (w.alloc (.cells (vs.map fun x => Value.slice x.1 x.2.2.length x.2.1).toArray T)) (some ⟨g, 0, none⟩) (vs.map fun x => x.2.2) := by
  subst hg
  intro j hj
  rw [List.length_map] at hj
  have e : (vs.map fun x => x.2.2).getD j [] = (vs[j]'hj).2.2 := by simp [hj]
  have hx := h (vs[j]'hj) (List.getElem_mem _)
  refine ⟨_, (vs[j]'hj).1, (vs[j]'hj).2.1, rfl, ?_, ?_, ?_⟩
  · have ea : (⟨w.heap.size, 0, none⟩ : Addr).add j = ⟨w.heap.size, j, none⟩ := by unfold Addr.add; split <;> simp_all
    rw [ea, bcell (bnew w _) j, e]
    simp [hj]
  · rw [e]; exact hx.1.chg (((Chg.refl NoB w).alloc _)) (fun _ _ _ x => x)
  · rw [e]; exact hx.2
theorem inb_own {w : World} {base n : Nat} {v : Value} {l : List Int} (h : w.ownsRow base 5 1 v n (l.map (Value.int .u8))) (hn : 0 < n) :
    ∃ g cap C, v = .slice (some ⟨g, 0, none⟩) n cap ∧ base ≤ g ∧ InB w g 0 C 5 l := by
  have hl : l.length = n := by have := h.1; simpa using this
  rcases h.2 with ⟨rfl, rfl⟩ | ⟨g, cap, cur, rfl, hb, hh, h1, h2, h3, h4⟩
  · omega
  · rw [Nat.mul_one] at h4
    have hsz : n ≤ cur.size := by
      have := congrArg List.length h4
      rw [List.length_take, List.length_map] at this
      simp at this
      omega
    refine ⟨g, cap, cur, rfl, hb, ⟨hh, by omega, fun j hj => ?_⟩⟩
    have : (cur.toList.take n)[j]? = (l.map (Value.int .u8))[j]? := by rw [h4]
    rw [List.getElem?_take, if_pos (by omega)] at this
    have h5 : cur[j]? = (l.map (Value.int .u8))[j]? := by rw [← this]; simp
    rw [Nat.zero_add, h5]
    simp [hj]
theorem made0 (w : World) : (w.alloc (.cells #[] 5)).ownsRow w.heap.size 5 1 (.slice (some ⟨w.heap.size, 0, none⟩) 0 0) 0 [] := World.ownsRow_made w _ 0 (Nat.le_refl _) (by unfold maxLen; omega) rfl
set_option maxHeartbeats 8000000 in
theorem wordSums (A1 A2 A3 : Option Addr) (c1 c2 c3 : Nat) (l1 l2 l3 : List Int) (w : World) (h1 : Rd w .u8 A1 l1) (h2 : Rd w .u8 A2 l2) (h3 : Rd w .u8 A3 l3) (n1 : A1 = none → c1 = 0) (n2 : A2 = none → c2 = 0) (n3 : A3 = none → c3 = 0) (b1 : Bytes l1) (b2 : Bytes l2) (b3 : Bytes l3) :
    Calls Try.prog 8 #[.slice A1 l1.length c1, .slice A2 l2.length c2, .slice A3 l3.length c3] w (RetB true w) := by
  have z1 := h1.1
  have z2 := h2.1
  have z3 := h3.1
  by_cases big : 3000 < l1.length + l2.length + l3.length
  · have d1 : decide ((3000 : Int) < (l1.length : Int) + l2.length + l3.length) = true := decide_eq_true (by omega)
    clear big
    go_enter Try.func8, Try.ntmps8
    go_wp2_with fail
    refine (answers _).mono ?_
    rintro e w1 ⟨rfl, hC⟩
    go_wp2_with fail
    go_ret
    exact ⟨rfl, hC⟩
  have d1 : decide ((3000 : Int) < (l1.length : Int) + l2.length + l3.length) = false := decide_eq_false (by omega)
  have m1 : (l1.map (Value.int .u8)).length = l1.length := List.length_map ..
  have m2 : (l2.map (Value.int .u8)).length = l2.length := List.length_map ..
  have m3 : (l3.map (Value.int .u8)).length = l3.length := List.length_map ..
  have hx1 : ∀ a : Act, a.eval (.tmp 19) = .slice A1 l1.length c1 → a.eval (.tmp 19) = .slice A1 (l1.map (Value.int .u8)).length c1 := fun a e => by rw [m1]; exact e
  have hx2 : ∀ a : Act, a.eval (.tmp 21) = .slice A2 l2.length c2 → a.eval (.tmp 21) = .slice A2 (l2.map (Value.int .u8)).length c2 := fun a e => by rw [m2]; exact e
  have hx3 : ∀ a : Act, a.eval (.tmp 23) = .slice A3 l3.length c3 → a.eval (.tmp 23) = .slice A3 (l3.map (Value.int .u8)).length c3 := fun a e => by rw [m3]; exact e
  have HX1 := Lib.hid hx1
  have HX2 := Lib.hid hx2
  have HX3 := Lib.hid hx3
  clear hx1 hx2 hx3
  have hown0 := made0 w
  have q1 : ∀ w', Chg NoB w w' → Rd w' .u8 A1 l1 := fun w' h => h1.chg h (fun _ _ _ x => x)
  have q2 : ∀ w', Chg NoB w w' → Rd w' .u8 A2 l2 := fun w' h => h2.chg h (fun _ _ _ x => x)
  have q3 : ∀ w', Chg NoB w w' → Rd w' .u8 A3 l3 := fun w' h => h3.chg h (fun _ _ _ x => x)
  have hC0 : Chg NoB w (w.alloc (.cells #[] 5)) := (Chg.refl _ _).alloc _
  have sp : ∀ w6, Chg NoB w w6 → Calls Try.prog 23 #[.slice (some ⟨w6.heap.size, 0, none⟩) 4 4] (w6.alloc (.cells #[.slice A1 l1.length c1, .slice none 0 0, .slice A2 l2.length c2, .slice A3 l3.length c3] 37)) (SumPost (sum32 (fold 14695981039346656037 [l1, [], l2, l3].flatten)) (w6.alloc (.cells #[.slice A1 l1.length c1, .slice none 0 0, .slice A2 l2.length c2, .slice A3 l3.length c3] 37))) := by
    intro w6 C6
    have g1 := q1 _ C6
    have g2 := q2 _ C6
    have g3 := q3 _ C6
    have P := parts_new w6 [(A1, c1, l1), (none, 0, []), (A2, c2, l2), (A3, c3, l3)] (by
      intro x hx
      simp only [List.mem_cons, List.not_mem_nil, or_false] at hx
      rcases hx with rfl | rfl | rfl | rfl
      · exact ⟨g1, b1⟩
      · exact ⟨⟨Nat.zero_le _, fun h => absurd h (Nat.lt_irrefl 0)⟩, fun x hx => by cases hx⟩
      · exact ⟨g2, b2⟩
      · exact ⟨g3, b3⟩) 37 _ rfl
    exact sum_any (some ⟨w6.heap.size, 0, none⟩) 4 [l1, [], l2, l3] _ P (by simp)
  have SP := Lib.hid sp
  clear sp
  go_enter Try.func8, Try.ntmps8
  go_wp2_with (first
    | (with_reducible refine append_src (w0 := w) (S := NoB) rfl (.tmp 18) (.tmp 19) 37 5 rfl (.int .u8 0) 1 Try.underlying37 info8 rfl (.slice (some ⟨w.heap.size, 0, none⟩) 0 0) 0 [] rfl hC0 hown0 (l1.map (Value.int .u8)) A1 c1 (HX1.out _ rfl) n1 (rd_src (q1 _ hC0)) (one_u8 l1) (by omega) (by omega) ?_; intro v1 w1 hown1 hC1; rw [List.nil_append, Nat.zero_add, m1] at hown1)
    | (with_reducible refine append_src (w0 := w) (S := NoB) rfl (.tmp 20) (.tmp 21) 37 5 rfl (.int .u8 0) 1 Try.underlying37 info8 rfl v1 l1.length (l1.map (Value.int .u8)) rfl hC1 hown1 (l2.map (Value.int .u8)) A2 c2 (HX2.out _ rfl) n2 (rd_src (q2 _ hC1)) (one_u8 l2) (by omega) (by omega) ?_; intro v2 w2 hown2 hC2; rw [← List.map_append, m2] at hown2)
    | (with_reducible refine append_src (w0 := w) (S := NoB) rfl (.tmp 22) (.tmp 23) 37 5 rfl (.int .u8 0) 1 Try.underlying37 info8 rfl v2 (l1.length + l2.length) ((l1 ++ l2).map (Value.int .u8)) rfl hC2 hown2 (l3.map (Value.int .u8)) A3 c3 (HX3.out _ rfl) n3 (rd_src (q3 _ hC2)) (one_u8 l3) (by omega) (by omega) ?_; intro v3 w3 hown3 hC3; rw [← List.map_append, m3] at hown3))
  obtain ⟨V, c, rfl, hlen, -, hrd, -⟩ := own_rd hown3 (by omega)
  rw [← hlen]
  have b4 : Bytes (l1 ++ l2 ++ l3) := by
    intro x hx
    rcases List.mem_append.mp hx with hx | hx
    · rcases List.mem_append.mp hx with hx | hx
      · exact b1 x hx
      · exact b2 x hx
    · exact b3 x hx
  have f1 : [l1, l2, l3].flatten = l1 ++ l2 ++ l3 := by simp
  have f2 : [l1, [], l2, l3].flatten = l1 ++ l2 ++ l3 := by simp
  have f3 : [l1 ++ l2 ++ l3].flatten = l1 ++ l2 ++ l3 := by simp
  generalize l1 ++ l2 ++ l3 = al at *
  clear hown0 hown1 hown2 hown3 hC0 hC1 hC2 HX1 HX2 HX3 d1 m1 m2 m3 hlen
  refine (answers _).mono ?_
  rintro e w4 ⟨rfl, hC⟩
  have C4 : Chg NoB w w4 := hC3.trans hC (fun i hi hh => hh)
  have R4 : Rd w4 .u8 V al := hrd.chg hC (fun _ _ _ x => x)
  clear hC hC3 hrd
  go_wp2_with fail
  refine (sum_any (some ⟨w4.heap.size, 0, none⟩) 3 [l1, l2, l3] _ (parts_new w4 [(A1, c1, l1), (A2, c2, l2), (A3, c3, l3)] ?_ 37 _ rfl) (by simp)).mono ?_
  · intro x hx
    have g1 := q1 _ C4
    have g2 := q2 _ C4
    have g3 := q3 _ C4
    simp only [List.mem_cons, List.not_mem_nil, or_false] at hx
    rcases hx with rfl | rfl | rfl
    · exact ⟨g1, b1⟩
    · exact ⟨g2, b2⟩
    · exact ⟨g3, b3⟩
  rintro e w5 ⟨rfl, rfl⟩
  rw [f1]
  generalize hy : sum32 (fold 14695981039346656037 al) = y
  have HY := Lib.hid hy
  clear hy
  have C5 := C4.alloc (.cells #[.slice A1 l1.length c1, .slice A2 l2.length c2, .slice A3 l3.length c3] 37)
  have R5 := R4.chg ((Chg.refl NoB w4).alloc (.cells #[.slice A1 l1.length c1, .slice A2 l2.length c2, .slice A3 l3.length c3] 37)) (fun _ _ _ x => x)
  generalize hw5 : w4.alloc (.cells #[.slice A1 l1.length c1, .slice A2 l2.length c2, .slice A3 l3.length c3] 37) = w5 at *
  go_wp2_with fail
  refine (rsum_any V c al _ R5 b4).mono ?_
  rintro e w6 ⟨rfl, rfl⟩
  rw [HY.out]
  clear hw5 R4 C4
  go_wp2_with fail
  refine (sum_any (some ⟨w5.heap.size, 0, none⟩) 1 [al] _ (parts_new w5 [(V, c, al)] ?_ 37 _ rfl) (by simp)).mono ?_
  · intro x hx
    simp only [List.mem_cons, List.not_mem_nil, or_false] at hx
    subst hx
    exact ⟨R5, b4⟩
  rintro e w6 ⟨rfl, rfl⟩
  rw [f3, HY.out]
  have C6 := C5.alloc (.cells #[.slice V al.length c] 37)
  have S6 := SP.out _ C6
  rw [World.size_alloc] at S6
  clear R5 C5 SP
  go_wp2_with fail
  refine S6.mono ?_
  rintro e w7 ⟨rfl, rfl⟩
  rw [f2, HY.out]
  have C7 := C6.alloc (.cells #[.slice A1 l1.length c1, .slice none 0 0, .slice A2 l2.length c2, .slice A3 l3.length c3] 37)
  go_wp2_with fail
  go_ret
  exact ⟨rfl, C7⟩
theorem row_nil {k : IntKind} {w : World} {a : Option Addr} {len cap : Nat} {zs : List Int} (h : IsRow k w a len cap zs) : a = none → cap = 0 := by
  intro e
  rcases h with ⟨_, _, h, _⟩ | ⟨x, h, _⟩
  · exact h
  · rw [h] at e; cases e
theorem wf_bytes {l : List Int} (h : ∀ n ∈ l, (Lit.int .u8 n).wf = true) : Bytes l := by
  intro x hx
  have := bounds_u8 (h x hx)
  omega
theorem wordSums_row (a0 : Option Addr) (len0 cap0 : Nat) (z0 : List Int) (a1 : Option Addr) (len1 cap1 : Nat) (z1 : List Int) (a2 : Option Addr) (len2 cap2 : Nat) (z2 : List Int) (W : World) (w0 : IsRow .u8 W a0 len0 cap0 z0) (y0 : len0 * 1 ≤ 140737488351232) (w1 : IsRow .u8 W a1 len1 cap1 z1) (y1 : len1 * 1 ≤ 140737488351232) (w2 : IsRow .u8 W a2 len2 cap2 z2) (y2 : len2 * 1 ≤ 140737488351232) :
    Calls Try.prog 8 #[.slice a0 len0 cap0, .slice a1 len1 cap1, .slice a2 len2 cap2] W fun e w' => e = .returned (.bool true) ∧ Below W.heap.size W w' := by
  obtain ⟨h1, k1, -, f1⟩ := rd_of_row w0 (by omega)
  obtain ⟨h2, k2, -, f2⟩ := rd_of_row w1 (by omega)
  obtain ⟨h3, k3, -, f3⟩ := rd_of_row w2 (by omega)
  have := wordSums a0 a1 a2 cap0 cap1 cap2 (z0.take len0) (z1.take len1) (z2.take len2) W h1 h2 h3 (row_nil w0) (row_nil w1) (row_nil w2) (wf_bytes f1) (wf_bytes f2) (wf_bytes f3)
  rw [k1, k2, k3] at this
  exact this.mono fun _ _ h => h.below
end Go.Proofs.Ytkohbmbacdgjaaa.Word
