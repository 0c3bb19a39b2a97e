/- A slot: its head. -/
import Derived.Test.YtmonkoclbcahiaaLog
namespace Go.Proofs.Ytmonkoclbcahiaa.Slot
open Go.RowKit Go.Proofs.Ytmonkoclbcahiaa.Hp Go.Proofs.Ytmonkoclbcahiaa.By Go.Proofs.Ytmonkoclbcahiaa.Disk Go.Proofs.Ytmonkoclbcahiaa.Word Go.Proofs.Ytmonkoclbcahiaa.WordP Go.Proofs.Ytmonkoclbcahiaa.Log
set_option linter.unusedVariables false
set_option linter.unusedSimpArgs false
/-- a slot's first sector, without its sum -/
def headH (gen len : Int) : List Int := spl (spl (List.replicate 64 0) 0 (digs gen 4)) 4 (digs len 4)
def headL (gen : Int) (b : List Int) : List Int := spl (headH gen b.length) 8 (digs (sum32 (fold 14695981039346656037 ((headH gen b.length).take 8 ++ b))) 4)
theorem headH_len (gen len : Int) : (headH gen len).length = 64 := by
  have d4 : ∀ v, (digs v 4).length = 4 := fun v => digs_length v 4
  have e1 : (spl (List.replicate 64 0) 0 (digs gen 4)).length = 64 := by rw [spl_length _ _ _ (by rw [d4]; simp)]; simp
  unfold headH
  rw [spl_length _ _ _ (by rw [d4, e1]; omega)]; exact e1
theorem headL_len (gen : Int) (b : List Int) : (headL gen b).length = 64 := by
  unfold headL
  have e := headH_len gen b.length
  rw [spl_length _ _ _ (by rw [digs_length, e]; omega)]; exact e
theorem headH_bytes (gen len : Int) : Bytes (headH gen len) := bytes_spl (bytes_spl (bytes_zero 64) (digs_bytes _ _) 0) (digs_bytes _ _) 4
theorem headL_bytes (gen : Int) (b : List Int) : Bytes (headL gen b) := bytes_spl (headH_bytes gen b.length) (digs_bytes _ _) 8
theorem at_any (gen : Int) (w : World) (g0 : 0 ≤ gen) (g1 : gen < 4294967296) : Calls Try.prog 35 #[.int .u32 gen] w fun e w' => e = .returned (.int .i64 (64 + gen % 2 * 16)) ∧ w = w' := by
  go_enter Try.func35, Try.ntmps35
  go_wp2_with fail
  go_ret
  exact ⟨rfl, rfl⟩
theorem pages_any (n : Nat) (w : World) (hn : n ≤ 100000) : Calls Try.prog 34 #[.int .i64 n] w fun e w' => e = .returned (.int .i64 ((n + 63) / 64 : Nat)) ∧ w = w' := by
  have e : ((n : Int) + 64 - 1).tdiv 64 = (((n + 63) / 64 : Nat) : Int) := by
    rw [Int.tdiv_eq_ediv_of_nonneg (by omega)]; omega
  go_enter Try.func34, Try.ntmps34
  go_wp2_with fail
  go_ret
  exact ⟨rfl, rfl⟩
set_option maxHeartbeats 2000000 in
theorem head_any (gen : Int) (A : Option Addr) (c : Nat) (l : List Int) (w : World) (g0 : 0 ≤ gen) (g1 : gen < 4294967296) (hl : l.length ≤ 100000) (hr : Rd w .u8 A l) (hb : Bytes l) :
    Calls Try.prog 37 #[.int .u32 gen, .slice A l.length c] w (SecPost w (headL gen l)) := by
  have hmk := make64
  go_enter Try.func37, Try.ntmps37
  go_wp2_with fail
  have B0 : InB (w.alloc (.cells (Array.replicate 64 (.int .u8 0)) 5)) w.heap.size 0 (Array.replicate 64 (.int .u8 0)) 5 (List.replicate 64 0) := ⟨bnew w _, by simp, fun j hj => by
    rw [List.length_replicate] at hj
    rw [Nat.zero_add, Array.getElem?_replicate, if_pos hj, List.getD_eq_getElem?_getD, List.getElem?_replicate, if_pos hj]; rfl⟩
  have c0 : Chg NoB w (w.alloc (.cells (Array.replicate 64 (.int .u8 0)) 5)) := (Chg.refl NoB w).alloc _
  have hln : (List.replicate 64 (0 : Int)).length = 64 := by simp
  clear hmk
  generalize w.alloc (.cells (Array.replicate 64 (.int .u8 0)) 5) = w1 at *
  obtain ⟨g, hgg⟩ : ∃ g, g = w.heap.size := ⟨_, rfl⟩
  rw [← hgg] at B0 ⊢
  have hg : w.heap.size ≤ g := Nat.le_of_eq hgg.symm
  clear hgg
  have st : ∀ {wa wb : World}, Chg NoB w wa → Chg (· = g) wa wb → Chg NoB w wb := fun h1 h2 => h1.trans h2 (fun i hi x => by omega)
  have d4 : ∀ v, (digs v 4).length = 4 := fun v => digs_length v 4
  have l1 : (spl (List.replicate 64 0) 0 (digs gen 4)).length = 64 := by rw [spl_length _ _ _ (by rw [d4]; simp)]; simp
  have l2 := headH_len gen l.length
  have sr := sum32_range (fold 14695981039346656037 ((headH gen l.length).take 8 ++ l))
  have fin : ∀ w' C, InB w' g 0 C 5 (headL gen l) → Chg NoB w w' → SecPost w (headL gen l) (.returned (.slice (some ⟨g, 0, none⟩) 64 64)) w' := fun w' C h1 h2 => ⟨_, g, rfl, row_of_inb h1 (headL_len gen l) (headL_bytes gen l), hg, h2⟩
  have FI := Lib.hid fin
  have P4 : ∀ w4 C, InB w4 g 0 C 5 (headH gen l.length) → Chg NoB w w4 → ∀ T, InB (w4.alloc (.cells #[.slice (some ⟨g, 0, none⟩) 8 64, .slice A l.length c] T)) g 0 C 5 (headH gen l.length) ∧ Chg NoB w (w4.alloc (.cells #[.slice (some ⟨g, 0, none⟩) 8 64, .slice A l.length c] T)) ∧
      Calls Try.prog 50 #[.slice (some ⟨w4.heap.size, 0, none⟩) 2 2] (w4.alloc (.cells #[.slice (some ⟨g, 0, none⟩) 8 64, .slice A l.length c] T)) (SumPost (sum32 (fold 14695981039346656037 ((headH gen l.length).take 8 ++ l))) (w4.alloc (.cells #[.slice (some ⟨g, 0, none⟩) 8 64, .slice A l.length c] T))) := by
    intro w4 C h1 h2 T
    have ht : ((headH gen l.length).take 8).length = 8 := by rw [List.length_take]; omega
    have pn := parts_new w4 [(some ⟨g, 0, none⟩, 64, (headH gen l.length).take 8), (A, c, l)] (fun x hx => by
      rcases List.mem_cons.mp hx with rfl | hx
      · exact ⟨(inb_take h1 8).rd (by omega), fun y hy => headH_bytes gen l.length y (List.mem_of_mem_take hy)⟩
      · rw [List.mem_singleton] at hx; subst hx
        exact ⟨hr.chg h2 (fun _ _ _ x => x), hb⟩) T _ rfl
    have sa := sum_any (some ⟨w4.heap.size, 0, none⟩) 2 [(headH gen l.length).take 8, l] _ pn (by simp)
    simp only [List.map_cons, List.map_nil, ht, List.length_cons, List.length_nil, List.flatten_cons, List.flatten_nil, List.append_nil] at sa
    exact ⟨inb_chg h1 ((Chg.refl NoB w4).alloc _) (fun x => x), h2.trans ((Chg.refl NoB w4).alloc _) (fun _ _ x => x), sa⟩
  have PH := Lib.hid P4
  have LN := Lib.hid (And.intro l1 (And.intro l2 sr))
  have p1 := put64 g _ 5 _ 0 4 gen w1 B0 hln g0 (by omega) (by omega) (by omega)
  clear fin P4 l1 l2 sr d4 hln B0
  refine p1.mono ?_
  rintro e w2 ⟨rfl, ⟨C1, B1⟩, hc1⟩
  have c1 := st c0 hc1
  have p2 := put64 g _ 5 _ 4 4 l.length w2 B1 LN.out.1 (by omega) (by omega) (by omega) (by omega)
  clear p1 hc1 c0 B1
  go_wp2_with fail
  refine p2.mono ?_
  rintro e w3 ⟨rfl, ⟨C2, B2⟩, hc2⟩
  have c2 := st c1 hc2
  clear p2 hc2 c1
  go_wp2_with fail
  obtain ⟨B5, c5, sm⟩ := PH.out w3 _ B2 c2 31
  refine sm.mono ?_
  rintro e w6 ⟨rfl, rfl⟩
  have sr := LN.out.2.2
  have p5 := put64 g _ 5 _ 8 4 _ _ B5 LN.out.2.1 sr.1 (by omega) (by omega) (by omega)
  have hs : ∀ y, y = sum32 (fold 14695981039346656037 ((headH gen l.length).take 8 ++ l)) → spl (headH gen l.length) 8 (digs y 4) = headL gen l := fun y e => by rw [e]; rfl
  have HS := Lib.hid hs
  clear hs B5 B2 c2 sm PH hr
  obtain ⟨sr0, sr1⟩ := sr
  generalize hy : sum32 (fold 14695981039346656037 ((headH gen l.length).take 8 ++ l)) = y at *
  have hs2 := HS.out y rfl
  clear HS hy
  generalize w3.alloc (.cells #[.slice (some ⟨g, 0, none⟩) 8 64, .slice A l.length c] 31) = w6 at *
  clear LN
  go_wp2_with fail
  refine p5.mono ?_
  rintro e w7 ⟨rfl, ⟨C5, B6⟩, hc6⟩
  rw [hs2] at B6
  have P := FI.out w7 C5 B6 (st c5 hc6)
  clear B6 hc6 c5 p5 FI hs2
  go_wp2_with fail
  go_ret
  exact P
end Go.Proofs.Ytmonkoclbcahiaa.Slot
