/- Numbers as bytes: the statement on a turned byte. -/
import Derived.Test.YtkohbmbacdgjaaaWordE
namespace Go.Proofs.Ytkohbmbacdgjaaa.Word
open Go.RowKit Go.Proofs.Ytkohbmbacdgjaaa.Hp Go.Proofs.Ytkohbmbacdgjaaa.WordP
set_option linter.unusedVariables false
set_option linter.unusedSimpArgs false
theorem xor8_range (x c : Int) : 0 ≤ Go.bits .xor .u8 x c ∧ Go.bits .xor .u8 x c < 256 := by
  show 0 ≤ IntKind.u8.wrap _ ∧ IntKind.u8.wrap _ < 256
  rw [IntKind.wrap_u8]
  constructor <;> omega
theorem xor8_zero (x : Int) (h0 : 0 ≤ x) (h1 : x < 256) : Go.bits .xor .u8 x 0 = x := by
  obtain ⟨a, rfl⟩ := Int.eq_ofNat_of_zero_le h0
  show IntKind.u8.wrap ((BitVec.ofInt 8 a ^^^ BitVec.ofInt 8 0).toNat : Int) = _
  have ha : a % 2 ^ 8 = a := Nat.mod_eq_of_lt (by omega)
  rw [show BitVec.ofInt 8 0 = 0#8 from rfl, BitVec.xor_zero, BitVec.ofInt_natCast, BitVec.toNat_ofNat, ha, IntKind.wrap_u8]
  omega
theorem bytes_set {l : List Int} (h : Bytes l) (i : Nat) (x : Int) (hx : 0 ≤ x ∧ x < 256) : Bytes (l.set i x) := by
  intro y hy
  rcases List.mem_or_eq_of_mem_set hy with hy | rfl
  · exact h y hy
  · exact hx
theorem sum_one (V : Option Addr) (c n : Nat) (l : List Int) (hn : l.length = n) (w : World) (h : Rd w .u8 V l) (hb : Bytes l) :
    Calls Try.prog 23 #[.slice (some ⟨w.heap.size, 0, none⟩) 1 1] (w.alloc (.cells #[.slice V n c] 37)) (SumPost (sum32 (fold 14695981039346656037 l)) (w.alloc (.cells #[.slice V n c] 37))) := by
  subst hn
  have P := parts_new w [(V, c, l)] (by
    intro x hx
    simp only [List.mem_cons, List.not_mem_nil, or_false] at hx
    subst hx
    exact ⟨h, hb⟩) 37 _ rfl
  have := sum_any (some ⟨w.heap.size, 0, none⟩) 1 [l] _ P (by simp)
  rw [show [l].flatten = l from by simp] at this
  exact this
set_option maxHeartbeats 8000000 in
theorem wordTurned (A : Option Addr) (c : Nat) (l : List Int) (at_ ch : Int) (w : World) (h : Rd w .u8 A l) (hnil : A = none → c = 0) (hb : Bytes l) (a0 : 0 ≤ at_) (a1 : at_ ≤ 65535) (c0 : 0 ≤ ch) (c1 : ch ≤ 255) :
    Calls Try.prog 9 #[.slice A l.length c, .int .u16 at_, .int .u8 ch] w (RetB true w) := by
  have z1 := h.1
  by_cases e0 : l.length = 0
  · have d0 : ((l.length : Int) == 0) = true := by rw [beq_iff_eq]; omega
    have E0 := Lib.hid e0
    clear e0
    go_enter Try.func9, Try.ntmps9
    go_wp2_with fail
    refine (answers _).mono ?_
    rintro e w1 ⟨rfl, hC⟩
    go_wp2_with fail
    go_ret
    exact ⟨rfl, hC⟩
  have d0 : ((l.length : Int) == 0) = false := by rw [beq_eq_false_iff_ne]; omega
  by_cases big : 500 < l.length
  · have d1 : decide ((500 : Int) < (l.length : Int)) = true := decide_eq_true (by omega)
    clear big e0
    go_enter Try.func9, Try.ntmps9
    go_wp2_with fail
    refine (answers _).mono ?_
    rintro e w1 ⟨rfl, hC⟩
    go_wp2_with fail
    go_ret
    exact ⟨rfl, hC⟩
  have d1 : decide ((500 : Int) < (l.length : Int)) = false := decide_eq_false (by omega)
  have m1 : (l.map (Value.int .u8)).length = l.length := List.length_map ..
  have hx1 : ∀ a : Act, a.eval (.tmp 18) = .slice A l.length c → a.eval (.tmp 18) = .slice A (l.map (Value.int .u8)).length c := fun a e => by rw [m1]; exact e
  have HX1 := Lib.hid hx1
  clear hx1
  have hown0 := made0 w
  have q1 : ∀ w', Chg NoB w w' → Rd w' .u8 A l := fun w' h' => h.chg h' (fun _ _ _ x => x)
  have hC0 : Chg NoB w (w.alloc (.cells #[] 5)) := (Chg.refl _ _).alloc _
  obtain ⟨k, hk⟩ := Int.eq_ofNat_of_zero_le (show 0 ≤ at_ % (l.length : Int) from Int.emod_nonneg _ (by omega))
  have hkl : k < l.length := by have := Int.emod_lt_of_pos at_ (show (0 : Int) < l.length by omega); omega
  have ht : at_.tmod (l.length : Int) = k := by rw [Int.tmod_eq_emod_of_nonneg a0]; exact hk
  have len0 : ((l.length : Nat) : Int) ≠ 0 := by omega
  go_enter Try.func9, Try.ntmps9
  go_wp2_with (with_reducible refine append_src (w0 := w) (S := NoB) rfl (.tmp 17) (.tmp 18) 37 5 rfl (.int .u8 0) 1 Try.underlying37 info8 rfl (.slice (some ⟨w.heap.size, 0, none⟩) 0 0) 0 [] rfl hC0 hown0 (l.map (Value.int .u8)) A c (HX1.out _ rfl) hnil (rd_src (q1 _ hC0)) (one_u8 l) (by omega) (by omega) ?_; intro v1 w1 hown1 hC1; rw [List.nil_append, Nat.zero_add, m1] at hown1; obtain ⟨g, cap, C, rfl, hbg, hI⟩ := inb_own hown1 (by omega); have hcell := hI.cell k hkl; rw [Nat.zero_add] at hcell; have hfr := bfroz hI.bk k; obtain ⟨x, hx⟩ : ∃ x, x = l.getD k 0 := ⟨_, rfl⟩; rw [← hx] at hcell; have HXX := Lib.hid hx; clear hx)
  have hx := HXX.out
  have I2 := hI.set k (Go.bits .xor .u8 x ch) hkl
  rw [Nat.zero_add] at I2
  have C2 := hC1.set (p := ⟨g, k, none⟩) (.inr hbg) (.int .u8 (Go.bits .xor .u8 x ch))
  have bx := hb (l[k]'hkl) (List.getElem_mem _)
  have ex : x = l[k]'hkl := by rw [hx]; simp [hkl]
  rw [← ex] at bx
  have B2 := bytes_set hb k _ (xor8_range x ch)
  have same : ch = 0 → l.set k (Go.bits .xor .u8 x ch) = l := by
    rintro rfl
    rw [xor8_zero _ bx.1 bx.2, ex]
    exact List.set_getElem_self hkl
  have l2n : (l.set k (Go.bits .xor .u8 x ch)).length = l.length := List.length_set
  generalize l.set k (Go.bits .xor .u8 x ch) = l2 at *
  generalize w1.setCell ⟨g, k, none⟩ (.int .u8 (Go.bits .xor .u8 x ch)) = w2 at *
  have r2 := I2.rd (by omega)
  have L2N := Lib.hid l2n
  have SAME := Lib.hid same
  clear hown0 hown1 hC0 hC1 HX1 m1 hI hcell hfr bx ex same l2n I2 ht hx HXX
  refine (answers _).mono ?_
  rintro e w3 ⟨rfl, hC⟩
  have C3 : Chg NoB w w3 := C2.trans hC (fun i hi hh => hh)
  have r3 : Rd w3 .u8 _ l2 := r2.chg hC (fun _ _ _ x => x)
  clear hC C2 r2
  go_wp2_with fail
  refine (sum_one _ cap l.length l2 L2N.out _ r3 B2).mono ?_
  rintro e w4 ⟨rfl, rfl⟩
  generalize hy : sum32 (fold 14695981039346656037 l2) = y
  have HY := Lib.hid hy
  clear hy
  have C4 := C3.alloc (.cells #[.slice (some ⟨g, 0, none⟩) l.length cap] 37)
  have r4 := r3.chg ((Chg.refl NoB w3).alloc (.cells #[.slice (some ⟨g, 0, none⟩) l.length cap] 37)) (fun _ _ _ x => x)
  generalize hw4 : w3.alloc (.cells #[.slice (some ⟨g, 0, none⟩) l.length cap] 37) = w4 at *
  have rs := rsum_any _ cap l2 w4 r4 B2
  rw [L2N.out, HY.out] at rs
  clear hw4 C3 r3
  by_cases e : ch = 0
  · have hne : (ch != 0) = false := by rw [bne_eq_false_iff_eq]; exact e
    have el := SAME.out e
    subst el
    clear SAME e
    have s1 := sum_one _ cap l2.length l2 rfl _ r4 B2
    have s2 := sum_one A c l2.length l2 rfl _ (q1 _ (C4.alloc (.cells #[.slice (some ⟨g, 0, none⟩) l2.length cap] 37))) B2
    rw [HY.out] at s1 s2
    rw [World.size_alloc] at s2
    have C6 := (C4.alloc (.cells #[.slice (some ⟨g, 0, none⟩) l2.length cap] 37)).alloc (.cells #[.slice A l2.length c] 37)
    clear q1 r4
    go_wp2_with fail
    refine rs.mono ?_
    rintro e w5 ⟨rfl, rfl⟩
    clear rs
    go_wp2_with fail
    refine s1.mono ?_
    rintro e w5 ⟨rfl, rfl⟩
    clear s1
    go_wp2_with fail
    refine s2.mono ?_
    rintro e w5 ⟨rfl, rfl⟩
    clear s2
    go_wp2_with fail
    go_ret
    exact ⟨rfl, C6⟩
  · have hne : (ch != 0) = true := by rw [bne_iff_ne]; exact e
    clear SAME e q1 r4
    go_wp2_with fail
    refine rs.mono ?_
    rintro e w5 ⟨rfl, rfl⟩
    clear rs
    go_wp2_with fail
    go_ret
    exact ⟨rfl, C4⟩
theorem wordTurned_row (a0 : Option Addr) (len0 cap0 : Nat) (z0 : List Int) (a1 a2 : Int) (W : World) (w0 : IsRow .u8 W a0 len0 cap0 z0) (y0 : len0 * 1 ≤ 140737488351232) (w1 : (Lit.int .u16 a1).wf = true) (w2 : (Lit.int .u8 a2).wf = true) :
    Calls Try.prog 9 #[.slice a0 len0 cap0, .int .u16 a1, .int .u8 a2] W fun e w' => e = .returned (.bool true) ∧ Below W.heap.size W w' := by
  obtain ⟨h1, k1, -, f1⟩ := rd_of_row w0 (by omega)
  have b1 := bounds_u16 w1
  have b2 := bounds_u8 w2
  have := wordTurned a0 cap0 (z0.take len0) a1 a2 W h1 (row_nil w0) (wf_bytes f1) b1.1 b1.2 b2.1 b2.2
  rw [k1] at this
  exact this.mono fun _ _ h => h.below
end Go.Proofs.Ytkohbmbacdgjaaa.Word
