/- Numbers as bytes: the statement on numbers. -/
import Derived.Test.YtkohbmbacdgjaaaWordG
import Derived.Test.YtkohbmbacdgjaaaWordD
import Derived.StillTailTactics
namespace Go.Proofs.Ytkohbmbacdgjaaa.Word
open Go.RowKit Go.Proofs.Ytkohbmbacdgjaaa.Hp Go.Proofs.Ytkohbmbacdgjaaa.WordP
set_option linter.unusedVariables false
set_option linter.unusedSimpArgs false
def PutOwnPost (w1 : World) (base : Nat) (A : Option Addr) (l' : List Int) (e : Ending) (w' : World) : Prop := e = .returned (.bool true) ∧ Rd w' .u8 A l' ∧ Chg (fun g => base ≤ g) w1 w'
theorem put_own (base : Nat) (v1 : Value) (w1 : World) (l : List Int) (a m : Nat) (v : Int) (hown : w1.ownsRow base 5 1 v1 l.length (l.map (Value.int .u8))) (hL : l.length ≤ 1000) (hv0 : 0 ≤ v) (hv1 : v < 18446744073709551616) (hm : m ≤ 8) (ham : a + m ≤ l.length) :
    ∃ A c, v1 = .slice A l.length c ∧ Calls Try.prog 20 #[.slice A l.length c, .int .i64 a, .int .u64 v, .int .i64 m] w1 (PutOwnPost w1 base A (spl l a (digs v m))) := by
  by_cases h0 : m = 0
  · subst h0
    obtain ⟨A, c, rfl, -, -, hrd, -⟩ := own_rd hown (by omega)
    refine ⟨A, c, rfl, (put_zero A l.length c a v w1 (by omega) (by omega)).mono ?_⟩
    rintro e w' ⟨h, rfl⟩
    exact ⟨h, by simpa [digs, spl_nil] using hrd, Chg.refl _ _⟩
  · obtain ⟨g, cap, C, rfl, hb, hI⟩ := inb_own hown (by omega)
    refine ⟨_, cap, rfl, (put_yes g 0 cap C _ l a m v w1 hI (by omega) hv0 hv1 hm ham).mono ?_⟩
    rintro e w' ⟨C', h, hI', -, hC⟩
    refine ⟨h, hI'.rd (by rw [spl_length _ _ _ (by rw [digs_length]; exact ham)]; omega), hC.mono (fun i hi hh => by subst hh; exact hb)⟩
set_option maxHeartbeats 8000000 in
theorem wordNumbers_no (A : Option Addr) (c : Nat) (l : List Int) (at_ n v : Int) (w : World) (h : Rd w .u8 A l) (hnil : A = none → c = 0) (hb : Bytes l) (hL : l.length ≤ 1000) (ht : thereB l.length at_ n = false) :
    Calls Try.prog 7 #[.slice A l.length c, .int .i64 at_, .int .i64 n, .int .u64 v] w (RetB true w) := by
  have d1 : decide ((1000 : Int) < (l.length : Int)) = false := decide_eq_false (by omega)
  have m1 : (l.map (Value.int .u8)).length = l.length := List.length_map ..
  have hx1 : ∀ a : Act, a.eval (.tmp 35) = .slice A l.length c → a.eval (.tmp 35) = .slice A (l.map (Value.int .u8)).length c := fun a e => by rw [m1]; exact e
  have hx2 : ∀ a : Act, a.eval (.tmp 60) = .slice A l.length c → a.eval (.tmp 60) = .slice A (l.map (Value.int .u8)).length c := fun a e => by rw [m1]; exact e
  have HX1 := Lib.hid hx1
  have HX2 := Lib.hid hx2
  clear hx1 hx2
  have hown0 := made0 w
  have q1 : ∀ w', Chg NoB w w' → Rd w' .u8 A l := fun w' h' => h.chg h' (fun _ _ _ x => x)
  have hC0 : Chg NoB w (w.alloc (.cells #[] 5)) := (Chg.refl _ _).alloc _
  go_enter Try.func7, Try.ntmps7
  go_wp2_with fail
  refine (get_no A l.length c at_ n _ (by omega) ht).mono ?_
  rintro e w1 ⟨rfl, rfl⟩
  go_wp2_with fail
  refine (rget_no A l.length c at_ n _ (by omega) ht).mono ?_
  rintro e w1 ⟨rfl, rfl⟩
  go_wp2_with (with_reducible refine append_src (w0 := w) (S := NoB) rfl (.tmp 34) (.tmp 35) 37 5 rfl (.int .u8 0) 1 Try.underlying37 info8 rfl (.slice (some ⟨w.heap.size, 0, none⟩) 0 0) 0 [] rfl hC0 hown0 (l.map (Value.int .u8)) A c (HX1.out _ rfl) hnil (rd_src (q1 _ hC0)) (one_u8 l) (by omega) (by omega) ?_; intro v1 w1 hown1 hC1; rw [List.nil_append, Nat.zero_add, m1] at hown1)
  obtain ⟨V, c1, rfl, -, -, R1, -⟩ := own_rd hown1 (by omega)
  clear hown1 hown0 hC0 HX1
  refine (put_no V l.length c1 at_ v n _ (by omega) ht).mono ?_
  rintro e w2 ⟨rfl, rfl⟩
  go_wp2_with fail
  refine (answers _).mono ?_
  rintro e w2 ⟨rfl, hC⟩
  have R2 : Rd w2 .u8 V l := R1.chg hC (fun _ _ _ x => x)
  have C2 : Chg NoB w w2 := hC1.trans hC (fun i hi hh => hh)
  clear hC hC1 R1
  have hown0 := made0 w2
  have hC0 : Chg NoB w2 (w2.alloc (.cells #[] 5)) := (Chg.refl _ _).alloc _
  have R2' : Rd (w2.alloc (.cells #[] 5)) .u8 A l := q1 _ (C2.alloc _)
  go_wp2_with (with_reducible refine append_src (w0 := w2) (S := NoB) rfl (.tmp 59) (.tmp 60) 37 5 rfl (.int .u8 0) 1 Try.underlying37 info8 rfl (.slice (some ⟨w2.heap.size, 0, none⟩) 0 0) 0 [] rfl hC0 hown0 (l.map (Value.int .u8)) A c (HX2.out _ rfl) hnil (rd_src R2') (one_u8 l) (by omega) (by omega) ?_; intro v3 w3 hown3 hC3; rw [List.nil_append, Nat.zero_add, m1] at hown3)
  obtain ⟨V3, c3, rfl, -, -, R3, -⟩ := own_rd hown3 (by omega)
  have R4 : Rd w3 .u8 V l := R2.chg hC3 (fun _ _ _ x => x)
  have C3 : Chg NoB w w3 := C2.trans hC3 (fun i hi hh => hh)
  clear hown3 hown0 hC0 HX2 hC3 C2 R2 R2'
  refine (same_any V V3 c1 c3 l l _ R4 R3).mono ?_
  rintro e w5 ⟨rfl, hC⟩
  rw [show decide (l = l) = true from decide_eq_true rfl]
  have C5 : Chg NoB w w5 := C3.trans hC (fun i hi hh => hh)
  go_wp2_with fail
  go_ret
  exact ⟨rfl, C5⟩
end Go.Proofs.Ytkohbmbacdgjaaa.Word
