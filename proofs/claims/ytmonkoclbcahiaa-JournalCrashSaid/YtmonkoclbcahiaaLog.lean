/- The log: a record's sector. -/
import Derived.Test.YtmonkoclbcahiaaCalm
import Derived.Test.YtmonkoclbcahiaaWordS
namespace Go.Proofs.Ytmonkoclbcahiaa.Log
open Go.RowKit Go.Proofs.Ytmonkoclbcahiaa.Hp Go.Proofs.Ytmonkoclbcahiaa.By Go.Proofs.Ytmonkoclbcahiaa.Disk Go.Proofs.Ytmonkoclbcahiaa.Word Go.Proofs.Ytmonkoclbcahiaa.WordP
set_option linter.unusedVariables false
set_option linter.unusedSimpArgs false
theorem parts_new (w : World) (vs : List (Option Addr × Nat × List Int)) (h : ∀ x, x ∈ vs → Rd w .u8 x.1 x.2.2 ∧ Bytes x.2.2) (T : TypeId) (g : Nat) (hg : g = w.heap.size) :
    Parts (w.alloc (.cells (vs.map fun x => Value.slice x.1 x.2.2.length x.2.1).toArray T)) (some ⟨g, 0, none⟩) (vs.map fun x => x.2.2) := by
  subst hg
  intro j hj
  rw [List.length_map] at hj
  have e : (vs.map fun x => x.2.2).getD j [] = (vs[j]'hj).2.2 := by simp [hj]
  have hx := h (vs[j]'hj) (List.getElem_mem _)
  refine ⟨_, (vs[j]'hj).1, (vs[j]'hj).2.1, rfl, ?_, ?_, ?_⟩
  · have ea : (⟨w.heap.size, 0, none⟩ : Addr).add j = ⟨w.heap.size, j, none⟩ := by unfold Addr.add; split <;> simp_all
    rw [ea, bcell (bnew w _) j, e]
    simp [hj]
  · rw [e]; exact hx.1.chg (((Chg.refl NoB w).alloc _)) (fun _ _ _ x => x)
  · rw [e]; exact hx.2
/-- a record's sector, without its sum -/
def secH (gen n : Int) (l : List Int) : List Int := spl (spl (spl (spl (List.replicate 64 0) 0 (digs gen 4)) 4 (digs n 4)) 8 (digs l.length 1)) 9 l
def secL (gen n : Int) (l : List Int) : List Int := spl (secH gen n l) 60 (digs (sum32 (fold 14695981039346656037 ((secH gen n l).take 60))) 4)
theorem secH_len (gen n : Int) (l : List Int) (h : l.length ≤ 50) : (secH gen n l).length = 64 := by
  unfold secH
  have d4 : ∀ v, (digs v 4).length = 4 := fun v => digs_length v 4
  have d1 : ∀ v, (digs v 1).length = 1 := fun v => digs_length v 1
  have e1 : (spl (List.replicate 64 0) 0 (digs gen 4)).length = 64 := by rw [spl_length _ _ _ (by rw [d4]; simp)]; simp
  have e2 : (spl (spl (List.replicate 64 0) 0 (digs gen 4)) 4 (digs n 4)).length = 64 := by rw [spl_length _ _ _ (by rw [d4, e1]; omega)]; exact e1
  have e3 : (spl (spl (spl (List.replicate 64 0) 0 (digs gen 4)) 4 (digs n 4)) 8 (digs l.length 1)).length = 64 := by rw [spl_length _ _ _ (by rw [d1, e2]; omega)]; exact e2
  rw [spl_length _ _ _ (by omega)]; exact e3
theorem secL_len (gen n : Int) (l : List Int) (h : l.length ≤ 50) : (secL gen n l).length = 64 := by
  unfold secL
  have e := secH_len gen n l h
  rw [spl_length _ _ _ (by rw [digs_length, e]; omega)]; exact e
theorem bytes_spl {l k : List Int} (h1 : Bytes l) (h2 : Bytes k) (a : Nat) : Bytes (spl l a k) := by
  intro x hx
  unfold spl at hx
  rcases List.mem_append.mp hx with hx | hx
  · rcases List.mem_append.mp hx with hx | hx
    · exact h1 x (List.mem_of_mem_take hx)
    · exact h2 x hx
  · exact h1 x (List.mem_of_mem_drop hx)
theorem bytes_zero (n : Nat) : Bytes (List.replicate n 0) := fun x hx => by rw [List.eq_of_mem_replicate hx]; decide
theorem secH_bytes (gen n : Int) (l : List Int) (h : Bytes l) : Bytes (secH gen n l) :=
  bytes_spl (bytes_spl (bytes_spl (bytes_spl (bytes_zero 64) (digs_bytes _ _) 0) (digs_bytes _ _) 4) (digs_bytes _ _) 8) h 9
theorem secL_bytes (gen n : Int) (l : List Int) (h : Bytes l) : Bytes (secL gen n l) := bytes_spl (secH_bytes gen n l h) (digs_bytes _ _) 60
theorem sum32_range (h : Int) : 0 ≤ sum32 h ∧ sum32 h < 4294967296 := by
  unfold sum32
  show 0 ≤ IntKind.u32.wrap ((BitVec.ofInt 32 _ ^^^ BitVec.ofInt 32 _).toNat : Int) ∧ IntKind.u32.wrap ((BitVec.ofInt 32 _ ^^^ BitVec.ofInt 32 _).toNat : Int) < _
  rw [IntKind.wrap_u32]
  omega
theorem spl_get (l k : List Int) (a j : Nat) (hf : a + k.length ≤ l.length) : (spl l a k)[j]? = if a ≤ j ∧ j < a + k.length then k[j - a]? else l[j]? := by
  have hlL : (l.take a).length = a := by rw [List.length_take]; omega
  unfold spl
  rw [List.append_assoc]
  by_cases c1 : j < a
  · rw [List.getElem?_append_left (by omega), if_neg (by omega), List.getElem?_take, if_pos c1]
  · rw [List.getElem?_append_right (by omega), hlL]
    by_cases c2 : j < a + k.length
    · rw [List.getElem?_append_left (by omega), if_pos (by omega)]
    · rw [List.getElem?_append_right (by omega), if_neg (by omega), List.getElem?_drop]
      congr 1; omega
theorem inb_splA {w w' : World} {g a : Nat} {C : Array Value} {T : Nat} {l k : List Int} (h : InB w g 0 C T l) (hb : Blk w' g (splA C a (k.map (Value.int .u8))) T) (hf : a + k.length ≤ l.length) : InB w' g 0 (splA C a (k.map (Value.int .u8))) T (spl l a k) := by
  have hs := h.fit
  have hm : (k.map (Value.int .u8)).length = k.length := List.length_map _
  have hsz := splA_size C a (k.map (Value.int .u8)) (by omega)
  refine ⟨hb, by rw [hsz, spl_length _ _ _ hf]; exact hs, fun j hj => ?_⟩
  rw [spl_length _ _ _ hf] at hj
  have hby := h.by_ j hj
  rw [Nat.zero_add] at hby ⊢
  rw [List.getD_eq_getElem?_getD, spl_get l k a j hf]
  by_cases c : a ≤ j ∧ j < a + k.length
  · rw [if_pos c]
    have := splA_in C a (k.map (Value.int .u8)) (by omega) (j - a) (by omega)
    rw [show a + (j - a) = j by omega] at this
    rw [this, List.getElem?_map, List.getElem?_eq_getElem (by omega)]
    rfl
  · rw [if_neg c, splA_out C a (k.map (Value.int .u8)) (by omega) j (by omega), hby, List.getD_eq_getElem?_getD]
def SecPost (w : World) (l : List Int) (e : Ending) (w' : World) : Prop := ∃ v g, e = .returned v ∧ Row w' v g l ∧ w.heap.size ≤ g ∧ Chg NoB w w'
theorem row_of_inb {w : World} {g : Nat} {C : Array Value} {l : List Int} (h : InB w g 0 C 5 l) (hl : l.length = 64) (hb : Bytes l) : Row w (.slice (some ⟨g, 0, none⟩) 64 64) g l := by
  have hf := h.fit
  refine ⟨hl, fun x hx => ⟨(hb x hx).1, by have := (hb x hx).2; omega⟩, 64, C, rfl, Nat.le_refl _, h.bk, by omega, fun j hj => ?_⟩
  have := h.by_ j (by omega)
  rwa [Nat.zero_add] at this
theorem put64 (g : Nat) (C : Array Value) (T : Nat) (l : List Int) (a n : Nat) (v : Int) (w : World) (h : InB w g 0 C T l) (hl : l.length = 64) (v0 : 0 ≤ v) (v1 : v < 18446744073709551616) (hn : n ≤ 8) (han : a + n ≤ 64) :
    Calls Try.prog 49 #[.slice (some ⟨g, 0, none⟩) 64 64, .int .i64 (a : Int), .int .u64 v, .int .i64 (n : Int)] w fun e w' => e = .returned (.bool true) ∧ (∃ C', InB w' g 0 C' T (spl l a (digs v n))) ∧ Chg (· = g) w w' := by
  have := put_yes g 0 64 C T l a n v w h (by omega) v0 v1 hn (by omega)
  rw [hl] at this
  exact this.mono fun e w' ⟨C', h1, h2, _, h3⟩ => ⟨h1, ⟨C', h2⟩, h3⟩
theorem inb_take {w : World} {g : Nat} {C : Array Value} {T : Nat} {l : List Int} (h : InB w g 0 C T l) (k : Nat) : InB w g 0 C T (l.take k) := by
  have := h.fit
  refine ⟨h.bk, by rw [List.length_take]; omega, fun j hj => ?_⟩
  rw [List.length_take] at hj
  rw [h.by_ j (by omega), List.getD_eq_getElem?_getD, List.getD_eq_getElem?_getD, List.getElem?_take, if_pos (by omega)]
theorem inb_chg {S : Nat → Prop} {w w' : World} {g off : Nat} {C : Array Value} {T : Nat} {l : List Int} (h : InB w g off C T l) (hc : Chg S w w') (h1 : ¬ S g) : InB w' g off C T l := ⟨hc.blk h.bk h1, h.fit, h.by_⟩
set_option maxHeartbeats 2000000 in
theorem sector_any (gen n : Int) (A : Option Addr) (c : Nat) (l : List Int) (w : World) (g0 : 0 ≤ gen) (g1 : gen < 4294967296) (n0 : 0 ≤ n) (n1 : n ≤ 63) (hl : l.length ≤ 50) (hr : Rd w .u8 A l) (hb : Bytes l) :
    Calls Try.prog 54 #[.int .u32 gen, .int .i64 n, .slice A l.length c] w (SecPost w (secL gen n l)) := by
  have hmk := make64
  go_enter Try.func54, Try.ntmps54
  go_wp2_with fail
  have B0 : InB (w.alloc (.cells (Array.replicate 64 (.int .u8 0)) 5)) w.heap.size 0 (Array.replicate 64 (.int .u8 0)) 5 (List.replicate 64 0) := ⟨bnew w _, by simp, fun j hj => by
    rw [List.length_replicate] at hj
    rw [Nat.zero_add, Array.getElem?_replicate, if_pos hj, List.getD_eq_getElem?_getD, List.getElem?_replicate, if_pos hj]; rfl⟩
  have c0 : Chg NoB w (w.alloc (.cells (Array.replicate 64 (.int .u8 0)) 5)) := (Chg.refl NoB w).alloc _
  have hg : w.heap.size ≤ w.heap.size := Nat.le_refl _
  have hln : (List.replicate 64 (0 : Int)).length = 64 := by simp
  clear hmk
  generalize w.alloc (.cells (Array.replicate 64 (.int .u8 0)) 5) = w1 at *
  obtain ⟨g, hgg⟩ : ∃ g, g = w.heap.size := ⟨_, rfl⟩
  rw [← hgg] at B0 ⊢
  have hg : w.heap.size ≤ g := Nat.le_of_eq hgg.symm
  clear hgg
  have st : ∀ {wa wb : World}, Chg NoB w wa → Chg (· = g) wa wb → Chg NoB w wb := fun h1 h2 => h1.trans h2 (fun i hi x => by omega)
  have d4 : ∀ v, (digs v 4).length = 4 := fun v => digs_length v 4
  have l1 : (spl (List.replicate 64 0) 0 (digs gen 4)).length = 64 := by rw [spl_length _ _ _ (by rw [d4]; simp)]; simp
  have l2 : (spl (spl (List.replicate 64 0) 0 (digs gen 4)) 4 (digs n 4)).length = 64 := by rw [spl_length _ _ _ (by rw [d4, l1]; omega)]; exact l1
  have l3 : (spl (spl (spl (List.replicate 64 0) 0 (digs gen 4)) 4 (digs n 4)) 8 (digs l.length 1)).length = 64 := by rw [spl_length _ _ _ (by rw [digs_length, l2]; omega)]; exact l2
  have l4 := secH_len gen n l hl
  have sr := sum32_range (fold 14695981039346656037 ((secH gen n l).take 60))
  have fin : ∀ w' C, InB w' g 0 C 5 (secL gen n l) → Chg NoB w w' → SecPost w (secL gen n l) (.returned (.slice (some ⟨g, 0, none⟩) 64 64)) w' := fun w' C h1 h2 => ⟨_, g, rfl, row_of_inb h1 (secL_len gen n l hl) (secL_bytes gen n l hb), hg, h2⟩
  have FI := Lib.hid fin
  have P4 : ∀ w4 C, InB w4 g 0 C 5 (secH gen n l) → Chg NoB w w4 → ∀ T, InB (w4.alloc (.cells #[.slice (some ⟨g, 0, none⟩) 60 64] T)) g 0 C 5 (secH gen n l) ∧ Chg NoB w (w4.alloc (.cells #[.slice (some ⟨g, 0, none⟩) 60 64] T)) ∧
      Calls Try.prog 50 #[.slice (some ⟨w4.heap.size, 0, none⟩) 1 1] (w4.alloc (.cells #[.slice (some ⟨g, 0, none⟩) 60 64] T)) (SumPost (sum32 (fold 14695981039346656037 ((secH gen n l).take 60))) (w4.alloc (.cells #[.slice (some ⟨g, 0, none⟩) 60 64] T))) := by
    intro w4 C h1 h2 T
    have ht : ((secH gen n l).take 60).length = 60 := by rw [List.length_take]; omega
    have pn := parts_new w4 [(some ⟨g, 0, none⟩, 64, (secH gen n l).take 60)] (fun x hx => by
      rw [List.mem_singleton] at hx; subst hx
      exact ⟨(inb_take h1 60).rd (by omega), fun y hy => secH_bytes gen n l hb y (List.mem_of_mem_take hy)⟩) T _ rfl
    have sa := sum_any (some ⟨w4.heap.size, 0, none⟩) 1 [(secH gen n l).take 60] _ pn (by simp)
    simp only [List.map_cons, List.map_nil, ht, List.length_cons, List.length_nil, List.flatten_cons, List.flatten_nil, List.append_nil] at sa
    exact ⟨inb_chg h1 ((Chg.refl NoB w4).alloc _) (fun x => x), h2.trans ((Chg.refl NoB w4).alloc _) (fun _ _ x => x), sa⟩
  have PH := Lib.hid P4
  have LN := Lib.hid (And.intro l1 (And.intro l2 (And.intro l3 (And.intro l4 sr))))
  have p1 := put64 g _ 5 _ 0 4 gen w1 B0 hln g0 (by omega) (by omega) (by omega)
  clear fin P4 l1 l2 l3 l4 sr d4 hln B0
  refine p1.mono ?_
  rintro e w2 ⟨rfl, ⟨C1, B1⟩, hc1⟩
  have c1 := st c0 hc1
  have p2 := put64 g _ 5 _ 4 4 n w2 B1 LN.out.1 n0 (by omega) (by omega) (by omega)
  clear p1 hc1 c0 B1
  go_wp2_with fail
  refine p2.mono ?_
  rintro e w3 ⟨rfl, ⟨C2, B2⟩, hc2⟩
  have c2 := st c1 hc2
  have p3 := put64 g _ 5 _ 8 1 l.length w3 B2 LN.out.2.1 (by omega) (by omega) (by omega) (by omega)
  clear p2 hc2 c1 B2
  go_wp2_with fail
  refine p3.mono ?_
  rintro e w4 ⟨rfl, ⟨C3, B3⟩, hc3⟩
  have c3 := st c2 hc3
  have hr4 := hr.chg c3 (fun _ _ _ x => x)
  have hmin : (l.map (Value.int .u8)).length = Nat.min l.length 55 := by
    rw [List.length_map]; exact (Nat.min_eq_left (by omega)).symm
  have hfit : 9 + (l.map (Value.int .u8)).length ≤ C3.size := by
    have := B3.fit; have := LN.out.2.2.1; rw [List.length_map]; omega
  have next : ∀ w5, Blk w5 g (splA C3 9 (l.map (Value.int .u8))) 5 → Chg (· = g) w4 w5 → InB w5 g 0 (splA C3 9 (l.map (Value.int .u8))) 5 (secH gen n l) ∧ Chg NoB w w5 := fun w5 h1 h2 =>
    ⟨inb_splA B3 h1 (by have := LN.out.2.2.1; omega), st c3 h2⟩
  have B3b := B3.bk
  have NX := Lib.hid next
  clear p3 hc3 c2 B3 next c3
  go_wp2_with (with_reducible refine copy_into (w0 := w4) (S := (· = g)) rfl (.tmp 23) (.tmp 24) 31 31 rfl 5 Try.underlying31 sz8 (some ⟨g, 9, none⟩) A 55 55 l.length c rfl rfl g 9 C3 5 B3b (l.map (Value.int .u8)) hmin (fun _ => rfl) (rd_src hr4) hfit (one_u8 l) (Chg.refl _ _) (.inl rfl) ?_; intro w5 h1 h2 h3)
  obtain ⟨B4, c4⟩ := NX.out w5 h1 h2
  obtain ⟨B5, c5, sm⟩ := PH.out w5 _ B4 c4 31
  refine sm.mono ?_
  rintro e w6 ⟨rfl, rfl⟩
  have sr := LN.out.2.2.2.2
  have p5 := put64 g _ 5 _ 60 4 _ _ B5 LN.out.2.2.2.1 sr.1 (by omega) (by omega) (by omega)
  have hs : ∀ y, y = sum32 (fold 14695981039346656037 ((secH gen n l).take 60)) → spl (secH gen n l) 60 (digs y 4) = secL gen n l := fun y e => by rw [e]; rfl
  have HS := Lib.hid hs
  clear hs h1 h2 h3 B4 B5 c4 sm NX PH hr4 hmin hfit B3b
  obtain ⟨sr0, sr1⟩ := sr
  generalize hy : sum32 (fold 14695981039346656037 ((secH gen n l).take 60)) = y at *
  have hs2 := HS.out y rfl
  clear HS hy
  generalize w5.alloc (.cells #[.slice (some ⟨g, 0, none⟩) 60 64] 31) = w6 at *
  clear LN
  go_wp2_with fail
  refine p5.mono ?_
  rintro e w7 ⟨rfl, ⟨C5, B6⟩, hc6⟩
  rw [hs2] at B6
  have P := FI.out w7 C5 B6 (st c5 hc6)
  clear B6 hc6 c5 p5 FI hs2
  go_wp2_with fail
  go_ret
  exact P
end Go.Proofs.Ytmonkoclbcahiaa.Log
