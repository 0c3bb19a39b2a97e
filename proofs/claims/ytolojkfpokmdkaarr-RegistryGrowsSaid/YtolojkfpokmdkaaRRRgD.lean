/- Several texts in one (a claim holds at most 60 files). -/
import Derived.Test.YtolojkfpokmdkaaRRRgC
import Derived.Test.YtolojkfpokmdkaaRRRgA
import Derived.Laws.BytesArg
import Derived.Deep.RegionHeld3
import Derived.WalkMore
-- XLog
namespace Go.Proofs.YtolojkfpokmdkaaRR.Log
open Go.RowKit Go.Proofs.YtolojkfpokmdkaaRR.Hp Go.Proofs.YtolojkfpokmdkaaRR.By Go.Proofs.YtolojkfpokmdkaaRR.Disk Go.Proofs.YtolojkfpokmdkaaRR.Word Go.Proofs.YtolojkfpokmdkaaRR.WordP
set_option linter.unusedVariables false
set_option linter.unusedSimpArgs false
theorem parts_new (w : World) (vs : List (Option Addr × Nat × List Int)) (h : ∀ x, x ∈ vs → Rd w .u8 x.1 x.2.2 ∧ Bytes x.2.2) (T : TypeId) (g : Nat) (hg : g = w.heap.size) :
    Parts (w.alloc (.cells (vs.map fun x => Value.slice x.1 x.2.2.length x.2.1).toArray T)) (some ⟨g, 0, none⟩) (vs.map fun x => x.2.2) := by
  subst hg
  intro j hj
  rw [List.length_map] at hj
  have e : (vs.map fun x => x.2.2).getD j [] = (vs[j]'hj).2.2 := by simp [hj]
  have hx := h (vs[j]'hj) (List.getElem_mem _)
  refine ⟨_, (vs[j]'hj).1, (vs[j]'hj).2.1, rfl, ?_, ?_, ?_⟩
  · have ea : (⟨w.heap.size, 0, none⟩ : Addr).add j = ⟨w.heap.size, j, none⟩ := by unfold Addr.add; split <;> simp_all
    rw [ea, bcell (bnew w _) j, e]
    simp [hj]
  · rw [e]; exact hx.1.chg (((Chg.refl NoB w).alloc _)) (fun _ _ _ x => x)
  · rw [e]; exact hx.2
/-- a record's sector, without its sum -/
def secH (gen n : Int) (l : List Int) : List Int := spl (spl (spl (spl (List.replicate 64 0) 0 (digs gen 4)) 4 (digs n 4)) 8 (digs l.length 1)) 9 l
def secL (gen n : Int) (l : List Int) : List Int := spl (secH gen n l) 60 (digs (sum32 (fold 14695981039346656037 ((secH gen n l).take 60))) 4)
theorem secH_len (gen n : Int) (l : List Int) (h : l.length ≤ 50) : (secH gen n l).length = 64 := by
  unfold secH
  have d4 : ∀ v, (digs v 4).length = 4 := fun v => digs_length v 4
  have d1 : ∀ v, (digs v 1).length = 1 := fun v => digs_length v 1
  have e1 : (spl (List.replicate 64 0) 0 (digs gen 4)).length = 64 := by rw [spl_length _ _ _ (by rw [d4]; simp)]; simp
  have e2 : (spl (spl (List.replicate 64 0) 0 (digs gen 4)) 4 (digs n 4)).length = 64 := by rw [spl_length _ _ _ (by rw [d4, e1]; omega)]; exact e1
  have e3 : (spl (spl (spl (List.replicate 64 0) 0 (digs gen 4)) 4 (digs n 4)) 8 (digs l.length 1)).length = 64 := by rw [spl_length _ _ _ (by rw [d1, e2]; omega)]; exact e2
  rw [spl_length _ _ _ (by omega)]; exact e3
theorem secL_len (gen n : Int) (l : List Int) (h : l.length ≤ 50) : (secL gen n l).length = 64 := by
  unfold secL
  have e := secH_len gen n l h
  rw [spl_length _ _ _ (by rw [digs_length, e]; omega)]; exact e
theorem bytes_spl {l k : List Int} (h1 : Bytes l) (h2 : Bytes k) (a : Nat) : Bytes (spl l a k) := by
  intro x hx
  unfold spl at hx
  rcases List.mem_append.mp hx with hx | hx
  · rcases List.mem_append.mp hx with hx | hx
    · exact h1 x (List.mem_of_mem_take hx)
    · exact h2 x hx
  · exact h1 x (List.mem_of_mem_drop hx)
theorem bytes_zero (n : Nat) : Bytes (List.replicate n 0) := fun x hx => by rw [List.eq_of_mem_replicate hx]; decide
theorem secH_bytes (gen n : Int) (l : List Int) (h : Bytes l) : Bytes (secH gen n l) :=
  bytes_spl (bytes_spl (bytes_spl (bytes_spl (bytes_zero 64) (digs_bytes _ _) 0) (digs_bytes _ _) 4) (digs_bytes _ _) 8) h 9
theorem secL_bytes (gen n : Int) (l : List Int) (h : Bytes l) : Bytes (secL gen n l) := bytes_spl (secH_bytes gen n l h) (digs_bytes _ _) 60
theorem sum32_range (h : Int) : 0 ≤ sum32 h ∧ sum32 h < 4294967296 := by
  unfold sum32
  show 0 ≤ IntKind.u32.wrap ((BitVec.ofInt 32 _ ^^^ BitVec.ofInt 32 _).toNat : Int) ∧ IntKind.u32.wrap ((BitVec.ofInt 32 _ ^^^ BitVec.ofInt 32 _).toNat : Int) < _
  rw [IntKind.wrap_u32]
  omega
theorem spl_get (l k : List Int) (a j : Nat) (hf : a + k.length ≤ l.length) : (spl l a k)[j]? = if a ≤ j ∧ j < a + k.length then k[j - a]? else l[j]? := by
  have hlL : (l.take a).length = a := by rw [List.length_take]; omega
  unfold spl
  rw [List.append_assoc]
  by_cases c1 : j < a
  · rw [List.getElem?_append_left (by omega), if_neg (by omega), List.getElem?_take, if_pos c1]
  · rw [List.getElem?_append_right (by omega), hlL]
    by_cases c2 : j < a + k.length
    · rw [List.getElem?_append_left (by omega), if_pos (by omega)]
    · rw [List.getElem?_append_right (by omega), if_neg (by omega), List.getElem?_drop]
      congr 1; omega
theorem inb_splA {w w' : World} {g a : Nat} {C : Array Value} {T : Nat} {l k : List Int} (h : InB w g 0 C T l) (hb : Blk w' g (splA C a (k.map (Value.int .u8))) T) (hf : a + k.length ≤ l.length) : InB w' g 0 (splA C a (k.map (Value.int .u8))) T (spl l a k) := by
  have hs := h.fit
  have hm : (k.map (Value.int .u8)).length = k.length := List.length_map _
  have hsz := splA_size C a (k.map (Value.int .u8)) (by omega)
  refine ⟨hb, by rw [hsz, spl_length _ _ _ hf]; exact hs, fun j hj => ?_⟩
  rw [spl_length _ _ _ hf] at hj
  have hby := h.by_ j hj
  rw [Nat.zero_add] at hby ⊢
  rw [List.getD_eq_getElem?_getD, spl_get l k a j hf]
  by_cases c : a ≤ j ∧ j < a + k.length
  · rw [if_pos c]
    have := splA_in C a (k.map (Value.int .u8)) (by omega) (j - a) (by omega)
    rw [show a + (j - a) = j by omega] at this
    rw [this, List.getElem?_map, List.getElem?_eq_getElem (by omega)]
    rfl
  · rw [if_neg c, splA_out C a (k.map (Value.int .u8)) (by omega) j (by omega), hby, List.getD_eq_getElem?_getD]
def SecPost (w : World) (l : List Int) (e : Ending) (w' : World) : Prop := ∃ v g, e = .returned v ∧ Row w' v g l ∧ w.heap.size ≤ g ∧ Chg NoB w w'
theorem row_of_inb {w : World} {g : Nat} {C : Array Value} {l : List Int} (h : InB w g 0 C 5 l) (hl : l.length = 64) (hb : Bytes l) : Row w (.slice (some ⟨g, 0, none⟩) 64 64) g l := by
  have hf := h.fit
  refine ⟨hl, fun x hx => ⟨(hb x hx).1, by have := (hb x hx).2; omega⟩, 64, C, rfl, Nat.le_refl _, h.bk, by omega, fun j hj => ?_⟩
  have := h.by_ j (by omega)
  rwa [Nat.zero_add] at this
theorem put64 (g : Nat) (C : Array Value) (T : Nat) (l : List Int) (a n : Nat) (v : Int) (w : World) (h : InB w g 0 C T l) (hl : l.length = 64) (v0 : 0 ≤ v) (v1 : v < 18446744073709551616) (hn : n ≤ 8) (han : a + n ≤ 64) :
    Calls Try.prog 40 #[.slice (some ⟨g, 0, none⟩) 64 64, .int .i64 (a : Int), .int .u64 v, .int .i64 (n : Int)] w fun e w' => e = .returned (.bool true) ∧ (∃ C', InB w' g 0 C' T (spl l a (digs v n))) ∧ Chg (· = g) w w' := by
  have := put_yes g 0 64 C T l a n v w h (by omega) v0 v1 hn (by omega)
  rw [hl] at this
  exact this.mono fun e w' ⟨C', h1, h2, _, h3⟩ => ⟨h1, ⟨C', h2⟩, h3⟩
theorem inb_take {w : World} {g : Nat} {C : Array Value} {T : Nat} {l : List Int} (h : InB w g 0 C T l) (k : Nat) : InB w g 0 C T (l.take k) := by
  have := h.fit
  refine ⟨h.bk, by rw [List.length_take]; omega, fun j hj => ?_⟩
  rw [List.length_take] at hj
  rw [h.by_ j (by omega), List.getD_eq_getElem?_getD, List.getD_eq_getElem?_getD, List.getElem?_take, if_pos (by omega)]
theorem inb_chg {S : Nat → Prop} {w w' : World} {g off : Nat} {C : Array Value} {T : Nat} {l : List Int} (h : InB w g off C T l) (hc : Chg S w w') (h1 : ¬ S g) : InB w' g off C T l := ⟨hc.blk h.bk h1, h.fit, h.by_⟩
set_option maxHeartbeats 2000000 in
theorem sector_any (gen n : Int) (A : Option Addr) (c : Nat) (l : List Int) (w : World) (g0 : 0 ≤ gen) (g1 : gen < 4294967296) (n0 : 0 ≤ n) (n1 : n ≤ 63) (hl : l.length ≤ 50) (hr : Rd w .u8 A l) (hb : Bytes l) :
    Calls Try.prog 62 #[.int .u32 gen, .int .i64 n, .slice A l.length c] w (SecPost w (secL gen n l)) := by
  have hmk := make64
  go_enter Try.func62, Try.ntmps62
  go_wp2_with fail
  have B0 : InB (w.alloc (.cells (Array.replicate 64 (.int .u8 0)) 5)) w.heap.size 0 (Array.replicate 64 (.int .u8 0)) 5 (List.replicate 64 0) := ⟨bnew w _, by simp, fun j hj => by
    rw [List.length_replicate] at hj
    rw [Nat.zero_add, Array.getElem?_replicate, if_pos hj, List.getD_eq_getElem?_getD, List.getElem?_replicate, if_pos hj]; rfl⟩
  have c0 : Chg NoB w (w.alloc (.cells (Array.replicate 64 (.int .u8 0)) 5)) := (Chg.refl NoB w).alloc _
  have hg : w.heap.size ≤ w.heap.size := Nat.le_refl _
  have hln : (List.replicate 64 (0 : Int)).length = 64 := by simp
  clear hmk
  generalize w.alloc (.cells (Array.replicate 64 (.int .u8 0)) 5) = w1 at *
  obtain ⟨g, hgg⟩ : ∃ g, g = w.heap.size := ⟨_, rfl⟩
  rw [← hgg] at B0 ⊢
  have hg : w.heap.size ≤ g := Nat.le_of_eq hgg.symm
  clear hgg
  have st : ∀ {wa wb : World}, Chg NoB w wa → Chg (· = g) wa wb → Chg NoB w wb := fun h1 h2 => h1.trans h2 (fun i hi x => by omega)
  have d4 : ∀ v, (digs v 4).length = 4 := fun v => digs_length v 4
  have l1 : (spl (List.replicate 64 0) 0 (digs gen 4)).length = 64 := by rw [spl_length _ _ _ (by rw [d4]; simp)]; simp
  have l2 : (spl (spl (List.replicate 64 0) 0 (digs gen 4)) 4 (digs n 4)).length = 64 := by rw [spl_length _ _ _ (by rw [d4, l1]; omega)]; exact l1
  have l3 : (spl (spl (spl (List.replicate 64 0) 0 (digs gen 4)) 4 (digs n 4)) 8 (digs l.length 1)).length = 64 := by rw [spl_length _ _ _ (by rw [digs_length, l2]; omega)]; exact l2
  have l4 := secH_len gen n l hl
  have sr := sum32_range (fold 14695981039346656037 ((secH gen n l).take 60))
  have fin : ∀ w' C, InB w' g 0 C 5 (secL gen n l) → Chg NoB w w' → SecPost w (secL gen n l) (.returned (.slice (some ⟨g, 0, none⟩) 64 64)) w' := fun w' C h1 h2 => ⟨_, g, rfl, row_of_inb h1 (secL_len gen n l hl) (secL_bytes gen n l hb), hg, h2⟩
  have FI := Lib.hid fin
  have P4 : ∀ w4 C, InB w4 g 0 C 5 (secH gen n l) → Chg NoB w w4 → ∀ T, InB (w4.alloc (.cells #[.slice (some ⟨g, 0, none⟩) 60 64] T)) g 0 C 5 (secH gen n l) ∧ Chg NoB w (w4.alloc (.cells #[.slice (some ⟨g, 0, none⟩) 60 64] T)) ∧
      Calls Try.prog 76 #[.slice (some ⟨w4.heap.size, 0, none⟩) 1 1] (w4.alloc (.cells #[.slice (some ⟨g, 0, none⟩) 60 64] T)) (SumPost (sum32 (fold 14695981039346656037 ((secH gen n l).take 60))) (w4.alloc (.cells #[.slice (some ⟨g, 0, none⟩) 60 64] T))) := by
    intro w4 C h1 h2 T
    have ht : ((secH gen n l).take 60).length = 60 := by rw [List.length_take]; omega
    have pn := parts_new w4 [(some ⟨g, 0, none⟩, 64, (secH gen n l).take 60)] (fun x hx => by
      rw [List.mem_singleton] at hx; subst hx
      exact ⟨(inb_take h1 60).rd (by omega), fun y hy => secH_bytes gen n l hb y (List.mem_of_mem_take hy)⟩) T _ rfl
    have sa := sum_any (some ⟨w4.heap.size, 0, none⟩) 1 [(secH gen n l).take 60] _ pn (by simp)
    simp only [List.map_cons, List.map_nil, ht, List.length_cons, List.length_nil, List.flatten_cons, List.flatten_nil, List.append_nil] at sa
    exact ⟨inb_chg h1 ((Chg.refl NoB w4).alloc _) (fun x => x), h2.trans ((Chg.refl NoB w4).alloc _) (fun _ _ x => x), sa⟩
  have PH := Lib.hid P4
  have LN := Lib.hid (And.intro l1 (And.intro l2 (And.intro l3 (And.intro l4 sr))))
  have p1 := put64 g _ 5 _ 0 4 gen w1 B0 hln g0 (by omega) (by omega) (by omega)
  clear fin P4 l1 l2 l3 l4 sr d4 hln B0
  refine p1.mono ?_
  rintro e w2 ⟨rfl, ⟨C1, B1⟩, hc1⟩
  have c1 := st c0 hc1
  have p2 := put64 g _ 5 _ 4 4 n w2 B1 LN.out.1 n0 (by omega) (by omega) (by omega)
  clear p1 hc1 c0 B1
  go_wp2_with fail
  refine p2.mono ?_
  rintro e w3 ⟨rfl, ⟨C2, B2⟩, hc2⟩
  have c2 := st c1 hc2
  have p3 := put64 g _ 5 _ 8 1 l.length w3 B2 LN.out.2.1 (by omega) (by omega) (by omega) (by omega)
  clear p2 hc2 c1 B2
  go_wp2_with fail
  refine p3.mono ?_
  rintro e w4 ⟨rfl, ⟨C3, B3⟩, hc3⟩
  have c3 := st c2 hc3
  have hr4 := hr.chg c3 (fun _ _ _ x => x)
  have hmin : (l.map (Value.int .u8)).length = Nat.min l.length 55 := by
    rw [List.length_map]; exact (Nat.min_eq_left (by omega)).symm
  have hfit : 9 + (l.map (Value.int .u8)).length ≤ C3.size := by
    have := B3.fit; have := LN.out.2.2.1; rw [List.length_map]; omega
  have next : ∀ w5, Blk w5 g (splA C3 9 (l.map (Value.int .u8))) 5 → Chg (· = g) w4 w5 → InB w5 g 0 (splA C3 9 (l.map (Value.int .u8))) 5 (secH gen n l) ∧ Chg NoB w w5 := fun w5 h1 h2 =>
    ⟨inb_splA B3 h1 (by have := LN.out.2.2.1; omega), st c3 h2⟩
  have B3b := B3.bk
  have NX := Lib.hid next
  clear p3 hc3 c2 B3 next c3
  go_wp2_with (with_reducible refine copy_into (w0 := w4) (S := (· = g)) rfl (.tmp 23) (.tmp 24) 38 38 rfl 5 Try.underlying38 sz8 (some ⟨g, 9, none⟩) A 55 55 l.length c rfl rfl g 9 C3 5 B3b (l.map (Value.int .u8)) hmin (fun _ => rfl) (rd_src hr4) hfit (one_u8 l) (Chg.refl _ _) (.inl rfl) ?_; intro w5 h1 h2 h3)
  obtain ⟨B4, c4⟩ := NX.out w5 h1 h2
  obtain ⟨B5, c5, sm⟩ := PH.out w5 _ B4 c4 38
  refine sm.mono ?_
  rintro e w6 ⟨rfl, rfl⟩
  have sr := LN.out.2.2.2.2
  have p5 := put64 g _ 5 _ 60 4 _ _ B5 LN.out.2.2.2.1 sr.1 (by omega) (by omega) (by omega)
  have hs : ∀ y, y = sum32 (fold 14695981039346656037 ((secH gen n l).take 60)) → spl (secH gen n l) 60 (digs y 4) = secL gen n l := fun y e => by rw [e]; rfl
  have HS := Lib.hid hs
  clear hs h1 h2 h3 B4 B5 c4 sm NX PH hr4 hmin hfit B3b
  obtain ⟨sr0, sr1⟩ := sr
  generalize hy : sum32 (fold 14695981039346656037 ((secH gen n l).take 60)) = y at *
  have hs2 := HS.out y rfl
  clear HS hy
  generalize w5.alloc (.cells #[.slice (some ⟨g, 0, none⟩) 60 64] 38) = w6 at *
  clear LN
  go_wp2_with fail
  refine p5.mono ?_
  rintro e w7 ⟨rfl, ⟨C5, B6⟩, hc6⟩
  rw [hs2] at B6
  have P := FI.out w7 C5 B6 (st c5 hc6)
  clear B6 hc6 c5 p5 FI hs2
  go_wp2_with fail
  go_ret
  exact P
end Go.Proofs.YtolojkfpokmdkaaRR.Log

-- XLogB
namespace Go.Proofs.YtolojkfpokmdkaaRR.Log
open Go.RowKit Go.Proofs.YtolojkfpokmdkaaRR.Hp Go.Proofs.YtolojkfpokmdkaaRR.By Go.Proofs.YtolojkfpokmdkaaRR.Disk Go.Proofs.YtolojkfpokmdkaaRR.Word Go.Proofs.YtolojkfpokmdkaaRR.WordP
set_option linter.unusedVariables false
set_option linter.unusedSimpArgs false
theorem row_str {w : World} {v : Value} {g : Nat} {l : List Int} (h : Row w v g l) : (convert 38 9 v).run Try.prog w = .ok (.string (strOfNums l)) w := by
  obtain ⟨a, b, cap, C, rfl, f, hb, r1, r2⟩ := h
  exact run_convert_bytes_arg (P := Try.prog) w 38 5 Try.underlying38 Try.underlying5 g 0 64 cap l a (fun i hi => by rw [Nat.zero_add, bcell hb]; exact r2 i hi) 9 Try.underlying9
theorem str_inj {a b : List Int} (ha : ∀ x ∈ a, 0 ≤ x ∧ x ≤ 255) (hb : ∀ x ∈ b, 0 ≤ x ∧ x ≤ 255) (h : strOfNums a = strOfNums b) : a = b := by
  have h1 : a.map (fun n => UInt8.ofNat n.toNat) = b.map (fun n => UInt8.ofNat n.toNat) := by
    have := congrArg (fun x : ByteArray => x.data.toList) h
    simpa [strOfNums] using this
  have back : ∀ l : List Int, (∀ x ∈ l, 0 ≤ x ∧ x ≤ 255) → (l.map (fun n => UInt8.ofNat n.toNat)).map (fun u => (u.toNat : Int)) = l := by
    intro l hl
    rw [List.map_map]
    conv => rhs; rw [← List.map_id l]
    apply List.map_congr_left
    intro x hx
    obtain ⟨c, d⟩ := hl x hx
    simp only [Function.comp, id]
    rw [UInt8.toNat_ofNat']
    omega
  rw [← back a ha, ← back b hb, h1]
def recOf (l : List Int) (gen n : Int) : Option (List Int) :=
  if 50 < l.getD 8 0 then none else if secL gen n ((l.drop 9).take (l.getD 8 0).toNat) = l then some ((l.drop 9).take (l.getD 8 0).toNat) else none
def RecPost (w : World) (g : Nat) (l : List Int) (gen n : Int) (e : Ending) (w' : World) : Prop :=
  ∃ v, e = .returned (.tuple #[v, .bool (recOf l gen n).isSome]) ∧ Chg NoB w w' ∧ ∀ b, recOf l gen n = some b → ∃ c, v = .slice (some ⟨g, 9, none⟩) b.length c ∧ b.length ≤ c
set_option maxRecDepth 100000 in
set_option maxHeartbeats 2000000 in
theorem record_any (gen n : Int) (v : Value) (g : Nat) (l : List Int) (w : World) (g0 : 0 ≤ gen) (g1 : gen < 4294967296) (n0 : 0 ≤ n) (n1 : n ≤ 63) (h : Row w v g l) :
    Calls Try.prog 47 #[v, .int .u32 gen, .int .i64 n] w (RecPost w g l gen n) := by
  have hrow := h
  obtain ⟨hl, hb, cap, C, rfl, hcap, hblk, hC, hcell⟩ := h
  have c8 : w.cell? ⟨g, 8, none⟩ = some (.int .u8 (l.getD 8 0)) := by rw [bcell hblk]; exact hcell 8 (by omega)
  have b8 := hb (l.getD 8 0) (by rw [List.getD_eq_getElem?_getD, List.getElem?_eq_getElem (by omega)]; exact List.getElem_mem _)
  by_cases c : 50 < l.getD 8 0
  · have post : RecPost w g l gen n (.returned (.tuple #[.slice none 0 0, .bool false])) w := by
      have e : recOf l gen n = none := if_pos c
      refine ⟨_, by rw [e]; rfl, Chg.refl _ _, fun b hb => by rw [e] at hb; cases hb⟩
    clear hrow hcell hb hblk
    generalize l.getD 8 0 = x at *
    go_enter Try.func47, Try.ntmps47
    go_wp2_with fail
    go_ret2
    exact post
  · obtain ⟨k, hk⟩ : ∃ k : Nat, l.getD 8 0 = k := ⟨(l.getD 8 0).toNat, by omega⟩
    have hr9 : Rd w .u8 (some ⟨g, 9, none⟩) ((l.drop 9).take k) := by
      refine ⟨by rw [List.length_take]; omega, fun hp => ⟨_, rfl, fun j hj => ?_⟩⟩
      rw [List.length_take, List.length_drop] at hj
      have e : (⟨g, 9, none⟩ : Addr).add j = ⟨g, 9 + j, none⟩ := by unfold Addr.add; split <;> simp_all
      rw [e, bcell hblk, hcell (9 + j) (by omega)]
      simp only [List.getD_eq_getElem?_getD, List.getElem?_take, List.getElem?_drop]
      rw [if_pos (by omega)]
    have hlk : ((l.drop 9).take k).length = k := by rw [List.length_take, List.length_drop]; omega
    have hbb : Bytes ((l.drop 9).take k) := fun x hx => by
      have := hb x (List.mem_of_mem_drop (List.mem_of_mem_take hx)); omega
    have sc := sector_any gen n (some ⟨g, 9, none⟩) (cap - 9) _ w.drew g0 g1 n0 n1 (by rw [hlk]; omega) (hr9.chg ((Chg.refl NoB w).drew) (fun _ _ _ x => x)) hbb
    rw [hlk] at sc
    have hS : ∀ w', Chg NoB w w' → (convert 38 9 (.slice (some ⟨g, 0, none⟩) 64 cap)).run Try.prog w' = .ok (.string (strOfNums l)) w' := fun w' hc => row_str (hrow.chg hc (fun x => x))
    have hw0 := hS w.drew ((Chg.refl NoB w).drew)
    have hrec : recOf l gen n = if secL gen n ((l.drop 9).take k) = l then some ((l.drop 9).take k) else none := by
      unfold recOf; rw [if_neg c, hk, Int.toNat_natCast]
    have hsb : ∀ x ∈ secL gen n ((l.drop 9).take k), 0 ≤ x ∧ x ≤ 255 := fun x hx => by have := secL_bytes gen n _ hbb x hx; omega
    have HR := Lib.hid (And.intro hrec (And.intro hsb (And.intro hb (And.intro hlk hS))))
    rw [hk] at c8
    have hk50 : k ≤ 50 := by omega
    clear hrec hsb hbb hr9 hrow hcell hb hblk b8 c hk hlk hS
    generalize secL gen n ((l.drop 9).take k) = S at *
    go_enter Try.func47, Try.ntmps47
    go_wp2_with fail
    go_region_law (go_simp; refine Calls.mono sc ?_; rintro e w2 ⟨v, g2, rfl, hrow2, hg2, hC2⟩; have hcv := row_str hrow2; have hcs := HR.out.2.2.2.2 w2 (((Chg.refl NoB w).drew).trans hC2 (fun _ _ x => x)); dsimp only)
    all_goals
      have fin : RecPost w g l gen n (.returned (.tuple #[.slice (some ⟨g, 9, none⟩) k (cap - 9), .bool ((strOfNums S).toList == (strOfNums l).toList)])) w2 := by
        obtain ⟨hrec, hsb, hb, hlk, _⟩ := HR.out
        by_cases e : S = l
        · rw [if_pos e] at hrec
          refine ⟨.slice (some ⟨g, 9, none⟩) k (cap - 9), by rw [hrec, e]; simp, ((Chg.refl NoB w).drew).trans hC2 (fun _ _ x => x), fun b hb2 => ?_⟩
          rw [hrec] at hb2
          obtain rfl := Option.some.inj hb2
          exact ⟨cap - 9, by rw [hlk], by omega⟩
        · rw [if_neg e] at hrec
          refine ⟨.slice (some ⟨g, 9, none⟩) k (cap - 9), ?_, ((Chg.refl NoB w).drew).trans hC2 (fun _ _ x => x), fun b hb2 => by rw [hrec] at hb2; cases hb2⟩
          have : ((strOfNums S).toList == (strOfNums l).toList) = false := by
            rw [beq_eq_false_iff_ne]
            intro h
            rw [ByteArray.toList_eq, ByteArray.toList_eq] at h
            exact e (str_inj hsb hb (WideShapes.bytes_inj h))
          rw [hrec, this]; rfl
      clear HR hcv hcs hrow2 hC2 hw0 sc
      generalize ((strOfNums S).toList == (strOfNums l).toList) = ok at *
      go_wp2_with fail
      go_ret2
      exact fin
end Go.Proofs.YtolojkfpokmdkaaRR.Log

-- XLogC
namespace Go.Proofs.YtolojkfpokmdkaaRR.Log
open Go.RowKit Go.Proofs.YtolojkfpokmdkaaRR.Hp Go.Proofs.YtolojkfpokmdkaaRR.By Go.Proofs.YtolojkfpokmdkaaRR.Disk Go.Proofs.YtolojkfpokmdkaaRR.Word Go.Proofs.YtolojkfpokmdkaaRR.WordP
set_option linter.unusedVariables false
set_option linter.unusedSimpArgs false
def appE (s : DSt) (n : Int) (l : List Int) : Int := if s.wrE n l.length = 0 then (s.wr n l).flE else s.wrE n l.length
def appS (s : DSt) (n : Int) (l : List Int) : DSt := if s.wrE n l.length = 0 then (s.wr n l).fl else s.wr n l
def AppPost (w0 w : World) (d : Nat) (ρ : Nat → Nat) (E : Int) (s : DSt) (e : Ending) (w' : World) : Prop :=
  e = .returned (.int .i64 E) ∧ Chg (Own ρ) w w' ∧ ∃ ρ', DL w0 w' d ρ' s ∧ ∀ i, i < w.heap.size → ρ i = 0 → ρ' i = 0
theorem app_bad (P : Option Addr) (gen n : Int) (A : Option Addr) (len c : Nat) (w : World) (hlen : len ≤ 140737488351232) (h : P = none ∨ 50 < len ∨ n < 0 ∨ 63 < n) :
    Calls Try.prog 49 #[.pointer P, .int .u32 gen, .int .i64 n, .slice A len c] w fun e w' => e = .returned (.int .i64 1) ∧ w = w' := by
  cases P with
  | none =>
    clear h
    go_enter Try.func49, Try.ntmps49
    go_wp2_with fail
    go_ret
    exact ⟨rfl, rfl⟩
  | some ad =>
    have h2 : 50 < len ∨ n < 0 ∨ 63 < n := h.resolve_left (by simp)
    clear h
    by_cases c1 : 50 < len
    · clear h2
      go_enter Try.func49, Try.ntmps49
      go_wp2_with fail
      go_ret
      exact ⟨rfl, rfl⟩
    · by_cases c2 : n < 0
      · clear h2
        go_enter Try.func49, Try.ntmps49
        go_wp2_with fail
        go_ret
        exact ⟨rfl, rfl⟩
      · have c3 : 64 ≤ n := by omega
        have c2' : 0 ≤ n := by omega
        clear h2 c2
        go_enter Try.func49, Try.ntmps49
        go_wp2_with fail
        go_ret
        exact ⟨rfl, rfl⟩
set_option maxRecDepth 100000 in
set_option maxHeartbeats 2000000 in
theorem append_any {w0 w : World} {d : Nat} {ρ : Nat → Nat} {s : DSt} (gen n : Int) (A : Option Addr) (c : Nat) (l : List Int) (h : DL w0 w d ρ s) (g0 : 0 ≤ gen) (g1 : gen < 4294967296) (n0 : 0 ≤ n) (n1 : n ≤ 63) (hl : l.length ≤ 50) (hr : Rd w .u8 A l) (hb : Bytes l) :
    Calls Try.prog 49 #[.pointer (some ⟨d, 0, none⟩), .int .u32 gen, .int .i64 n, .slice A l.length c] w (AppPost w0 w d ρ (appE s n (secL gen n l)) (appS s n (secL gen n l))) := by
  have sc := sector_any gen n A c l w g0 g1 n0 n1 hl hr hb
  have slen := secL_len gen n l hl
  have sby := secL_bytes gen n l hb
  generalize secL gen n l = S at *
  have H := Lib.hid (And.intro h (And.intro slen sby))
  have c1 : decide (64 ≤ n) = false := by simp; omega
  have c2 : decide (n < 0) = false := by simp; omega
  have c3 : decide (50 < (l.length : Int)) = false := by simp; omega
  clear h slen sby hr hb
  go_enter Try.func49, Try.ntmps49
  go_wp2_with fail
  refine sc.mono ?_
  rintro e w1 ⟨v, g, rfl, hrow, hg, hC⟩
  have h1 := H.out.1.keep hC
  have hz : ρ g = 0 := by
    obtain ⟨_, _, _, _, _, _, _, hp⟩ := H.out.1.at_
    exact hp.rz g hg
  have hrd := hrow.rd
  obtain ⟨cp, C, rfl, _⟩ := hrow.2.2
  have hw := l_write n (some ⟨g, 0, none⟩) cp S h1 (fun x hx => by have := H.out.2.2 x hx; omega) hrd (fun _ ad e x => x (by have := Option.some.inj e; subst this; exact hz))
  rw [H.out.2.1] at hw
  clear sc hrow hrd
  have HC := Lib.hid (And.intro hC h1)
  clear hC h1
  go_wp2_with fail
  refine hw.mono ?_
  rintro e w2 ⟨rfl, hc2, ρ2, h2, hr2⟩
  rw [H.out.2.1]
  have hsz := HC.out.1.size
  have r2 : ∀ i, i < w.heap.size → ρ i = 0 → ρ2 i = 0 := fun i hi h0 => hr2 i (by omega) h0
  have hct : Chg (Own ρ) w w2 := (HC.out.1.mono (S' := Own ρ) (fun _ _ x => x.elim)).trans hc2 (fun _ _ x => x)
  by_cases e0 : s.wrE n 64 = 0
  · have hfl := l_flush h2
    rw [e0]
    have EE : appE s n S = (s.wr n S).flE ∧ appS s n S = (s.wr n S).fl := by
      unfold appE appS; rw [H.out.2.1, if_pos e0, if_pos e0]; exact ⟨rfl, rfl⟩
    have RR := Lib.hid (And.intro r2 (And.intro hct EE))
    clear hw h2 hc2 hr2 hct r2 EE HC H e0
    go_wp2_with fail
    refine hfl.mono ?_
    rintro e w3 ⟨rfl, hc3, ρ3, h3, hr3⟩
    have fin : AppPost w0 w d ρ (appE s n S) (appS s n S) (.returned (.int .i64 (s.wr n S).flE)) w3 := by
      rw [RR.out.2.2.1, RR.out.2.2.2]
      refine ⟨rfl, RR.out.2.1.trans hc3 (fun i hi x => ?_), ρ3, h3, fun i hi h0 => ?_⟩
      · intro h0; exact x (RR.out.1 i hi h0)
      · have := RR.out.1 i hi h0
        by_cases c : ρ3 i = 0
        · exact c
        · exact absurd this ((hr3 i).mp c)
    clear hfl h3 hc3 hr3 RR
    go_wp2_with fail
    go_ret
    exact fin
  · have EE : appE s n S = s.wrE n 64 ∧ appS s n S = s.wr n S := by
      unfold appE appS; rw [H.out.2.1, if_neg e0, if_neg e0]; exact ⟨rfl, rfl⟩
    have fin : AppPost w0 w d ρ (appE s n S) (appS s n S) (.returned (.int .i64 (s.wrE n 64))) w2 := by
      rw [EE.1, EE.2]
      exact ⟨rfl, hct, ρ2, h2, r2⟩
    have hne : (s.wrE n 64 != 0) = true := by rw [bne_iff_ne]; exact e0
    clear hw h2 hc2 hr2 hct r2 EE HC H e0
    generalize appE s n S = E2 at *
    generalize appS s n S = S2 at *
    generalize s.wrE n 64 = E at *
    go_wp2_with fail
    go_ret
    exact fin
end Go.Proofs.YtolojkfpokmdkaaRR.Log

-- XLogD
namespace Go.Proofs.YtolojkfpokmdkaaRR.Log
open Go.RowKit Go.Proofs.YtolojkfpokmdkaaRR.Hp Go.Proofs.YtolojkfpokmdkaaRR.By Go.Proofs.YtolojkfpokmdkaaRR.Disk Go.Proofs.YtolojkfpokmdkaaRR.Word Go.Proofs.YtolojkfpokmdkaaRR.WordP
set_option linter.unusedVariables false
set_option linter.unusedSimpArgs false
section
variable {P : Program} {ops : Array Oper} {rest : List Oper} {o : Oper} {a : Act} {Q : Exit → Act → World → Prop}
theorem append_own2 {w : World} {base : Nat} (hgd : o.guard = none) (s x : Operand) (t e : TypeId) (ho : o.op = .call { callee := .builtin .append, args := #[s, x], argTypes := #[t, t] })
    (z : Value) (bytes : Nat) (ht : P.underlying t = some (.slice e)) (hinfo : (P.info? e).map (fun i => (i.zero, i.size, i.bytes)) = some (some z, 1, bytes)) (hz : z.cells.size = 1)
    (v : Value) (n : Nat) (xs : List Value) (hs : a.eval s = v) (hbase : base ≤ w.heap.size) (hown : w.ownsRow base e 1 v n xs) (u : Value) (T : TypeId) (hx : a.eval x = .slice (some ⟨w.heap.size, 0, none⟩) 1 1) (hu : u.oneCell' = true)
    (h1 : n + 1 ≤ 9223372036854775807) (h2 : (n + 1) * bytes ≤ 140737488355328)
    (h : ∀ v' w', w'.ownsRow base e 1 v' (n + 1) (xs ++ [u]) → Chg (fun i => v.ownBlock = some i) w w' → wpList P ops Q rest (a.put o.dst v') w') :
    wpList P ops Q (o :: rest) a (w.alloc (.cells #[u] T)) := by
  obtain ⟨i0, hi, hz0, hz1, hz2⟩ := info_parts hinfo
  refine wpList_append_own _ hgd s x t ho base e i0 z 1 bytes ht hi hz0 hz1 hz2 hz (by decide) v n xs hs (hown.alloc _) ⟨w.heap.size, 0, none⟩ 1 1 [u] hx rfl ?_ ?_ (by unfold maxLen; omega) h2 (by simp; omega) ?_
  · intro j u' hj
    have hb : Blk (w.alloc (.cells #[u] T)) w.heap.size #[u] T := bnew w _
    have : j = 0 := by
      have := (List.getElem?_eq_some_iff.1 hj).1
      simp at this; omega
    subst this
    have e : (⟨w.heap.size, 0, none⟩ : Addr).add 0 = ⟨w.heap.size, 0, none⟩ := rfl
    rw [e, bcell hb 0]
    simpa using hj
  · intro u' hu'
    have : u' = u := by simpa using hu'
    subst this; exact hu
  · intro v' w' hown' hgrow _
    exact h v' w' hown' (((Chg.refl _ w).alloc _).trans (Chg.of_grownBy hgrow (fun j hj => .inl hj)) (fun _ _ x => x))
end
theorem info24 : (Try.prog.info? 38).map (fun i => (i.zero, i.size, i.bytes)) = some (some (.slice none 0 0), 1, 24) := by kernel_rfl
/-- the rows that were read, in a slice of the call's own -/
def LRows (w : World) (base : Nat) (v : Value) (bs : List (List Int)) : Prop :=
  ∃ SVs, w.ownsRow base 38 1 v bs.length SVs ∧ ∀ j, j < bs.length → ∃ g c l, SVs[j]? = some (.slice (some ⟨g, 9, none⟩) (bs.getD j []).length c) ∧ (∃ vv, Row w vv g l) ∧ base ≤ g ∧ (l.drop 9).take (bs.getD j []).length = bs.getD j [] ∧ (bs.getD j []).length ≤ 50 ∧ (bs.getD j []).length ≤ c
theorem LRows.nil (w : World) (base : Nat) : LRows w base (.slice none 0 0) [] := ⟨[], World.ownsRow_nil _ _ _ _, fun j hj => by cases hj⟩
theorem own_ge {w : World} {base n : Nat} {e : TypeId} {v : Value} {xs : List Value} (h : w.ownsRow base e 1 v n xs) (g : Nat) (hg : v.ownBlock = some g) : base ≤ g ∧ ∃ C, Blk w g C e := by
  rcases h.2 with ⟨rfl, _⟩ | ⟨g', cap, cur, rfl, hb, hh, _⟩
  · simp [Value.ownBlock] at hg
  · have : g' = g := by simpa [Value.ownBlock] using hg
    subst this
    exact ⟨hb, cur, hh⟩
theorem LRows.chg {S : Nat → Prop} {w w' : World} {base : Nat} {v : Value} {bs : List (List Int)} (h : LRows w base v bs) (hc : Chg S w w') (hS : ∀ i, S i → i < base) : LRows w' base v bs := by
  obtain ⟨SVs, h1, h2⟩ := h
  refine ⟨SVs, own_chg h1 hc (fun g hg x => ?_), fun j hj => ?_⟩
  · have := (own_ge h1 g hg).1; have := hS g x; omega
  · obtain ⟨g, c, l, e1, ⟨vv, e2⟩, e3, e4⟩ := h2 j hj
    exact ⟨g, c, l, e1, ⟨vv, e2.chg hc (fun x => by have := hS g x; omega)⟩, e3, e4⟩
theorem LRows.add {w w' : World} {base : Nat} {v v' : Value} {bs : List (List Int)} {SVs : List Value} {b l : List Int} {g c : Nat} {vv : Value}
    (h2 : ∀ j, j < bs.length → ∃ g c l, SVs[j]? = some (.slice (some ⟨g, 9, none⟩) (bs.getD j []).length c) ∧ (∃ vv, Row w vv g l) ∧ base ≤ g ∧ (l.drop 9).take (bs.getD j []).length = bs.getD j [] ∧ (bs.getD j []).length ≤ 50 ∧ (bs.getD j []).length ≤ c)
    (hown : w.ownsRow base 38 1 v bs.length SVs) (h' : w'.ownsRow base 38 1 v' (bs.length + 1) (SVs ++ [.slice (some ⟨g, 9, none⟩) b.length c])) (hc : Chg (fun i => v.ownBlock = some i) w w')
    (hr : Row w vv g l) (hg : base ≤ g) (hb : (l.drop 9).take b.length = b) (h50 : b.length ≤ 50) (hbc : b.length ≤ c) : LRows w' base v' (bs ++ [b]) := by
  have hlen : SVs.length = bs.length := by have := hown.1; simpa using this
  have ne : ∀ {g l vv}, Row w vv g l → ¬ (v.ownBlock = some g) := by
    intro g l vv hr x
    obtain ⟨_, _, _, C, _, _, hb1, _⟩ := hr
    obtain ⟨_, C', hb2⟩ := own_ge hown g x
    have := hb1.symm.trans hb2
    simp at this
  refine ⟨_, by rw [List.length_append]; exact h', fun j hj => ?_⟩
  rw [List.length_append, List.length_singleton] at hj
  by_cases c' : j < bs.length
  · obtain ⟨g, c, l, e1, ⟨vv, e2⟩, e3, e4⟩ := h2 j c'
    have e : (bs ++ [b]).getD j [] = bs.getD j [] := by rw [List.getD_eq_getElem?_getD, List.getD_eq_getElem?_getD, List.getElem?_append_left c']
    rw [e]
    exact ⟨g, c, l, by rw [List.getElem?_append_left (by omega)]; exact e1, ⟨vv, e2.chg hc (ne e2)⟩, e3, e4⟩
  · obtain rfl : j = bs.length := by omega
    have e : (bs ++ [b]).getD bs.length [] = b := by rw [List.getD_eq_getElem?_getD, List.getElem?_append_right (by omega)]; simp
    rw [e]
    exact ⟨g, c, l, by rw [List.getElem?_append_right (by omega), hlen]; simp, ⟨vv, hr.chg hc (ne hr)⟩, hg, hb, h50, hbc⟩
/-- the disk behind so many reads -/
def st (s : DSt) : Nat → DSt
  | 0 => s
  | j + 1 => (st s j).io j
theorem st_get (s : DSt) (j : Nat) (n : Int) : (st s j).get n = s.get n := by
  induction j with
  | zero => rfl
  | succ j ih =>
    show ((st s j).io j).get n = _
    rw [← ih]
    unfold DSt.io
    split <;> rfl
theorem rec_len {l : List Int} {gen n : Int} {b : List Int} (h : recOf l gen n = some b) (hl : l.length = 64) (h8 : 0 ≤ l.getD 8 0) : (l.drop 9).take b.length = b ∧ b.length ≤ 50 := by
  unfold recOf at h
  by_cases c : 50 < l.getD 8 0
  · rw [if_pos c] at h; cases h
  · rw [if_neg c] at h
    by_cases c2 : secL gen n ((l.drop 9).take (l.getD 8 0).toNat) = l
    · rw [if_pos c2] at h
      obtain rfl := Option.some.inj h
      have e : ((l.drop 9).take (l.getD 8 0).toNat).length = (l.getD 8 0).toNat := by rw [List.length_take, List.length_drop]; omega
      rw [e]
      exact ⟨rfl, by omega⟩
    · rw [if_neg c2] at h; cases h
def recs (s : DSt) (gen : Int) (m : Nat) : List (List Int) := (List.range m).map (fun j : Nat => (recOf (s.get j) gen j).getD [])
theorem recs_len (s : DSt) (gen : Int) (m : Nat) : (recs s gen m).length = m := by unfold recs; simp
theorem recs_snoc (s : DSt) (gen : Int) (m : Nat) (b : List Int) (h : recOf (s.get m) gen m = some b) : recs s gen (m + 1) = recs s gen m ++ [b] := by
  unfold recs
  rw [List.range_succ, List.map_append, List.map_singleton, h]; rfl
def Good (s : DSt) (gen : Int) (m : Nat) : Prop := ∀ j, j < m → (st s j).ioE j = 0 ∧ (recOf (s.get j) gen j).isSome = true
def RepPost (w0 w : World) (d : Nat) (ρ : Nat → Nat) (s : DSt) (gen : Int) (e : Ending) (w' : World) : Prop :=
  ∃ v E m, e = .returned (.tuple #[v, .int .i64 E]) ∧ Chg (Own ρ) w w' ∧ m ≤ 64 ∧ Good s gen m ∧
    ((E = 0 ∧ LRows w' w.heap.size v (recs s gen m) ∧ ((m = 64 ∧ DL w0 w' d ρ (st s 64)) ∨ (m < 64 ∧ (st s m).ioE m = 0 ∧ recOf (s.get m) gen m = none ∧ DL w0 w' d ρ (st s (m + 1))))) ∨
     (m < 64 ∧ E = (st s m).ioE m ∧ E ≠ 0 ∧ v = .slice none 0 0 ∧ DL w0 w' d ρ (st s (m + 1))))
def RepB (w0 w : World) (d : Nat) (ρ : Nat → Nat) (s : DSt) (gen : Int) (out i : Value) (wr : World) : Prop :=
  ∃ m : Nat, m ≤ 64 ∧ i = .int .i64 m ∧ Chg (Own ρ) w wr ∧ Good s gen m ∧ LRows wr w.heap.size out (recs s gen m) ∧ DL w0 wr d ρ (st s m)
set_option maxRecDepth 100000 in
theorem replay_nil (gen : Int) (w : World) : Calls Try.prog 34 #[.pointer none, .int .u32 gen] w fun e w' => e = .returned (.tuple #[.slice none 0 0, .int .i64 1]) ∧ w = w' := by
  go_enter Try.func34, Try.ntmps34
  go_wp2_with fail
  go_step3
  go_wp2_with fail
  rw [Exit.noGoto_ret]
  go_ret2
  exact ⟨rfl, rfl⟩
set_option maxRecDepth 100000 in
set_option maxHeartbeats 4000000 in
theorem replay_any {w0 w : World} {d : Nat} {ρ : Nat → Nat} {s : DSt} (gen : Int) (g0 : 0 ≤ gen) (g1 : gen < 4294967296) (hn : 64 ≤ s.n) (h : DL w0 w d ρ s) :
    Calls Try.prog 34 #[.pointer (some ⟨d, 0, none⟩), .int .u32 gen] w (RepPost w0 w d ρ s gen) := by
  have hB : RepB w0 w d ρ s gen (.slice none 0 0) (.int .i64 0) w := ⟨0, by omega, rfl, Chg.refl _ _, fun j hj => by omega, LRows.nil _ _, h⟩
  have hw0 := h.ch.size
  have hρ : ∀ i, Own ρ i → i < w.heap.size := fun i hi => by
    obtain ⟨_, _, _, _, _, _, _, hp⟩ := h.at_
    by_cases c : i < w.heap.size
    · exact c
    · exact absurd (hp.rz i (by omega)) hi
  clear h
  go_enter Try.func34, Try.ntmps34
  go_wp2_with fail
  go_step3
  go_wp2_with fail
  go_step3
  go_wp2_with fail
  go_loopw [6, 14] (fun out i wr => RepB w0 w d ρ s gen out i wr) (fun _ i wr => (64 - intOf i).toNat)
  case atStart => exact hB
  case round =>
    clear hB
    obtain ⟨m, hm, rfl, hC, hG, hL, hD⟩ := hrel
    by_cases hlt : m < 64
    · have hrd := l_read (m : Int) hD
      have hr0 : w.heap.size ≤ wr.heap.size := hC.size
      by_cases e0 : (st s m).ioE m = 0
      · -- it is read
        have g8 : ∀ {w2 : World} {vv : Value} {g : Nat} {l : List Int}, Row w2 vv g l → 0 ≤ l.getD 8 0 := fun hr => (hr.2.1 _ (by rw [List.getD_eq_getElem?_getD, List.getElem?_eq_getElem (by have := hr.1; omega)]; exact List.getElem_mem _)).1
        have H := Lib.hid (And.intro hC (And.intro hG (And.intro hL e0)))
        clear hC hG hL hD
        go_wp2_with fail
        refine hrd.mono ?_
        rintro e w2 ⟨v, rfl, hD, hc2, hrow, _⟩
        obtain ⟨g, hrow, hgw⟩ := hrow e0
        rw [e0]
        rw [st_get] at hrow
        have rc := record_any gen m v g _ w2 g0 g1 (by omega) (by omega) hrow
        have HR := Lib.hid (And.intro hrow (And.intro hc2 hD))
        obtain ⟨hl64, _, cp, Cq, rfl, _⟩ := hrow
        clear hrd hc2 hD e0
        cases hrec : recOf (s.get m) gen m with
        | none =>
          rw [show RecPost w2 g (s.get m) gen m = fun e w' => ∃ v, e = .returned (.tuple #[v, .bool false]) ∧ Chg NoB w2 w' ∧ True by
            funext e w'; unfold RecPost; rw [hrec]; simp] at rc
          go_wp2_with fail
          refine rc.mono ?_
          rintro e w3 ⟨v3, rfl, hC3, _⟩
          have fin : ∀ out, LRows wr w.heap.size out (recs s gen m) → RepPost w0 w d ρ s gen (.returned (.tuple #[out, .int .i64 0])) w3 := by
            intro out hL
            have hc := (HR.out.2.1.trans (hC3.mono (S' := Own ρ) (fun _ _ x => x.elim)) (fun _ _ x => x))
            refine ⟨out, 0, m, rfl, H.out.1.trans hc (fun _ _ x => x), hm, H.out.2.1, .inl ⟨rfl, hL.chg hc hρ, .inr ⟨hlt, H.out.2.2.2, hrec, HR.out.2.2.keep hC3⟩⟩⟩
          have F := fin _ H.out.2.2.1
          clear rc HR H fin hC3
          go_wp2_with fail
          rw [Exit.noGoto_ret]
          go_ret2
          exact F
        | some b =>
          obtain ⟨rl1, rl2⟩ := rec_len hrec hl64 (g8 HR.out.1)
          have rc : Calls Try.prog 47 #[.slice (some ⟨g, 0, none⟩) 64 cp, .int .u32 gen, .int .i64 m] w2 (fun e w' => ∃ c, e = .returned (.tuple #[.slice (some ⟨g, 9, none⟩) b.length c, .bool true]) ∧ Chg NoB w2 w' ∧ b.length ≤ c) :=
            rc.mono (fun e w' hp => by
              obtain ⟨v, e1, h1, h2⟩ := hp
              obtain ⟨c, h3, h4⟩ := h2 b hrec
              exact ⟨c, by rw [e1, h3, hrec]; rfl, h1, h4⟩)
          go_wp2_with fail
          refine rc.mono ?_
          rintro e w3 ⟨c, rfl, hC3, hbc⟩
          have hc := (HR.out.2.1.trans (hC3.mono (S' := Own ρ) (fun _ _ x => x.elim)) (fun _ _ x => x))
          have hL3 := H.out.2.2.1.chg hc hρ
          obtain ⟨SVs, hown, hels⟩ := hL3
          rw [recs_len] at hown
          have hbase : w.heap.size ≤ w3.heap.size := by have := hc.size; omega
          have fin : ∀ v' w4, w4.ownsRow w.heap.size 38 1 v' (m + 1) (SVs ++ [.slice (some ⟨g, 9, none⟩) b.length c]) → Chg (fun i => u6.ownBlock = some i) w3 w4 → RepB w0 w d ρ s gen v' (.int .i64 ((m : Int) + 1)) w4 := by
            intro v' w4 h4 hc4
            have hro := HR.out.1.chg hC3 (fun x => x)
            have hd3 := HR.out.2.2.keep hC3
            have nO : ∀ i, u6.ownBlock = some i → w.heap.size ≤ i := fun i hi => (own_ge hown i hi).1
            have hDD : DL w0 w4 d ρ (st s (m + 1)) := by
              cases ho : u6.ownBlock with
              | none => exact hd3.keep (hc4.mono (fun i _ x => by rw [ho] at x; cases x))
              | some g' =>
                have hg' := nO g' ho
                refine hd3.side (g := g') (hc4.mono (fun i _ x => by rw [ho] at x; exact (Option.some.inj x).symm)) ?_ (by omega)
                by_cases c : ρ g' = 0
                · exact c
                · have := hρ g' c; omega
            refine ⟨m + 1, by omega, rfl, (H.out.1.trans hc (fun _ _ x => x)).trans hc4 (fun i hi x => by have := nO i x; omega), ?_, ?_, hDD⟩
            · intro j hj
              by_cases c : j < m
              · exact H.out.2.1 j c
              · obtain rfl : j = m := by omega
                exact ⟨H.out.2.2.2, by rw [hrec]; rfl⟩
            · rw [recs_snoc s gen m b hrec]
              exact LRows.add hels (by rw [recs_len]; exact hown) (by rw [recs_len]; exact h4) hc4 hro (by omega) rl1 rl2 hbc
          have FI := Lib.hid fin
          clear fin rc HR H hC3 hc hels
          go_wp2_with (first | (at_builtin; go_loud (refine append_own2 (w := w3) (base := w.heap.size) rfl (.tmp 34) (.tmp 36) 48 38 rfl (.slice none 0 0) 24 Try.underlying48 info24 rfl u6 m SVs (by rfl) hbase hown (.slice (some ⟨g, 9, none⟩) b.length c) 38 (by rfl) rfl (by omega) (by omega) ?_); intro v' w4 hown' hCo))
          exact ⟨FI.out v' w4 hown' hCo, by simp [intOf]; omega⟩
      · have hE : (st s m).ioE m ≠ 0 := e0
        have hne : ((st s m).ioE m != 0) = true := by rw [bne_iff_ne]; exact e0
        have H := Lib.hid (And.intro hC (And.intro hG e0))
        clear hC hG hL hD hE e0
        go_wp2_with fail
        refine hrd.mono ?_
        rintro e w2 ⟨v, rfl, hD, hc2, _, hv⟩
        have hv := hv H.out.2.2
        subst hv
        have fin : RepPost w0 w d ρ s gen (.returned (.tuple #[.slice none 0 0, .int .i64 ((st s m).ioE m)])) w2 :=
          ⟨_, _, m, rfl, H.out.1.trans hc2 (fun _ _ x => x), hm, H.out.2.1, .inr ⟨hlt, rfl, H.out.2.2, rfl, hD⟩⟩
        clear hrd hD hc2 hv H
        generalize (st s m).ioE m = E at *
        go_wp2_with fail
        rw [Exit.noGoto_ret]
        go_ret2
        exact fin
    · obtain rfl : m = 64 := by omega
      have fin : ∀ v, LRows wr w.heap.size v (recs s gen 64) → RepPost w0 w d ρ s gen (.returned (.tuple #[v, .int .i64 0])) wr := fun v hL =>
        ⟨_, _, 64, rfl, hC, hm, hG, .inl ⟨rfl, hL, .inl ⟨rfl, hD⟩⟩⟩
      have F := fin _ hL
      clear fin hC hG hL hD
      go_wp2_with fail
      rw [Exit.noGoto_ret]
      go_ret2
      exact F
end Go.Proofs.YtolojkfpokmdkaaRR.Log

-- XLogE
namespace Go.Proofs.YtolojkfpokmdkaaRR.Log
open Go.RowKit Go.Proofs.YtolojkfpokmdkaaRR.Hp Go.Proofs.YtolojkfpokmdkaaRR.By Go.Proofs.YtolojkfpokmdkaaRR.Disk Go.Proofs.YtolojkfpokmdkaaRR.Word Go.Proofs.YtolojkfpokmdkaaRR.WordP
set_option linter.unusedVariables false
set_option linter.unusedSimpArgs false
theorem sec_at (gen n : Int) (l : List Int) (h : l.length ≤ 50) (j : Nat) (hj : j < 60) : (secL gen n l)[j]? = if 9 ≤ j ∧ j < 9 + l.length then l[j - 9]? else if 8 ≤ j ∧ j < 8 + 1 then (digs l.length 1)[j - 8]? else if 4 ≤ j ∧ j < 4 + 4 then (digs n 4)[j - 4]? else if 0 ≤ j ∧ j < 0 + 4 then (digs gen 4)[j - 0]? else (List.replicate 64 (0 : Int))[j]? := by
  have d4 : ∀ v, (digs v 4).length = 4 := fun v => digs_length v 4
  have d1 : ∀ v, (digs v 1).length = 1 := fun v => digs_length v 1
  have e1 : (spl (List.replicate 64 0) 0 (digs gen 4)).length = 64 := by rw [spl_length _ _ _ (by rw [d4]; simp)]; simp
  have e2 : (spl (spl (List.replicate 64 0) 0 (digs gen 4)) 4 (digs n 4)).length = 64 := by rw [spl_length _ _ _ (by rw [d4, e1]; omega)]; exact e1
  have e3 : (spl (spl (spl (List.replicate 64 0) 0 (digs gen 4)) 4 (digs n 4)) 8 (digs l.length 1)).length = 64 := by rw [spl_length _ _ _ (by rw [d1, e2]; omega)]; exact e2
  have e4 := secH_len gen n l h
  unfold secL
  rw [spl_get _ _ 60 j (by rw [d4, e4]; omega), if_neg (by omega)]
  unfold secH
  rw [spl_get _ _ 9 j (by omega), spl_get _ _ 8 j (by rw [d1, e2]; omega), spl_get _ _ 4 j (by rw [d4, e1]; omega), spl_get _ _ 0 j (by rw [d4]; simp), d1, d4, d4]
theorem take_eq (L k : List Int) (a m : Nat) (hk : k.length = m) (h : ∀ j, j < m → L[a + j]? = k[j]?) : (L.drop a).take m = k := by
  apply List.ext_getElem?
  intro j
  rw [List.getElem?_take, List.getElem?_drop]
  by_cases c : j < m
  · rw [if_pos c]; exact h j c
  · rw [if_neg c, List.getElem?_eq_none (by omega)]
theorem sec_gen (gen n : Int) (l : List Int) (h : l.length ≤ 50) : ((secL gen n l).drop 0).take 4 = digs gen 4 :=
  take_eq _ _ 0 4 (digs_length _ _) (fun j hj => by rw [sec_at gen n l h _ (by omega), if_neg (by omega), if_neg (by omega), if_neg (by omega), if_pos (by omega)]; simp)
theorem sec_num (gen n : Int) (l : List Int) (h : l.length ≤ 50) : ((secL gen n l).drop 4).take 4 = digs n 4 :=
  take_eq _ _ 4 4 (digs_length _ _) (fun j hj => by rw [sec_at gen n l h _ (by omega), if_neg (by omega), if_neg (by omega), if_pos (by omega)]; congr 1; omega)
theorem sec_size (gen n : Int) (l : List Int) (h : l.length ≤ 50) : (secL gen n l).getD 8 0 = l.length := by
  rw [List.getD_eq_getElem?_getD, sec_at gen n l h 8 (by omega), if_neg (by omega), if_pos (by omega)]
  have : digs (l.length : Int) 1 = [(l.length : Int)] := by
    rw [show (1 : Nat) = 0 + 1 from rfl, digs_snoc]
    have : ((l.length : Int) / 256 ^ 0 % 256) = l.length := by rw [Int.pow_zero, Int.ediv_one]; omega
    rw [this]; rfl
  rw [this]; rfl
theorem sec_data (gen n : Int) (l : List Int) (h : l.length ≤ 50) : ((secL gen n l).drop 9).take l.length = l :=
  take_eq _ _ 9 _ rfl (fun j hj => by rw [sec_at gen n l h _ (by omega), if_pos (by omega)]; congr 1; omega)
theorem rec_sec (gen n : Int) (l : List Int) (h : l.length ≤ 50) : recOf (secL gen n l) gen n = some l := by
  unfold recOf
  rw [sec_size gen n l h, if_neg (by omega), Int.toNat_natCast, sec_data gen n l h, if_pos rfl]
theorem digs_inj {a b : Int} (ha : 0 ≤ a ∧ a < 4294967296) (hb : 0 ≤ b ∧ b < 4294967296) (h : digs a 4 = digs b 4) : a = b := by
  have h1 := leN_digs a 4 ha.1
  have h2 := leN_digs b 4 hb.1
  rw [h, h2] at h1
  have e : (256 : Int) ^ 4 = 4294967296 := by decide
  rw [e] at h1
  omega
theorem rec_some {L : List Int} {gen n : Int} {b : List Int} (h : recOf L gen n = some b) : secL gen n b = L ∧ b.length ≤ 50 := by
  unfold recOf at h
  by_cases c : 50 < L.getD 8 0
  · rw [if_pos c] at h; cases h
  · rw [if_neg c] at h
    by_cases c2 : secL gen n ((L.drop 9).take (L.getD 8 0).toNat) = L
    · rw [if_pos c2] at h
      obtain rfl := Option.some.inj h
      exact ⟨c2, by rw [List.length_take]; omega⟩
    · rw [if_neg c2] at h; cases h
theorem rec_other {gen n gen' n' : Int} {l : List Int} (h : l.length ≤ 50) (g : 0 ≤ gen ∧ gen < 4294967296) (g' : 0 ≤ gen' ∧ gen' < 4294967296) (hne : gen ≠ gen') : recOf (secL gen n l) gen' n' = none := by
  cases e : recOf (secL gen n l) gen' n' with
  | none => rfl
  | some b =>
    obtain ⟨h1, h2⟩ := rec_some e
    have a := sec_gen gen' n' b h2
    rw [h1, sec_gen gen n l h] at a
    exact absurd (digs_inj g g' a) hne
theorem rec_zero {gen n : Int} (g : 0 < gen ∧ gen < 4294967296) : recOf (List.replicate 64 0) gen n = none := by
  cases e : recOf (List.replicate 64 0) gen n with
  | none => rfl
  | some b =>
    obtain ⟨h1, h2⟩ := rec_some e
    have a := sec_gen gen n b h2
    rw [h1] at a
    have z : ((List.replicate 64 (0 : Int)).drop 0).take 4 = digs 0 4 := by decide
    rw [z] at a
    have := digs_inj (by omega) (by omega) a
    omega
theorem sure_get (s : DSt) (k : Int) : s.sureAll.get k = s.get k := rfl
theorem app_calm {s : DSt} (h : Disk.Calm s) {n : Int} (h0 : 0 ≤ n) (h1 : n < s.n) {l : List Int} (hl : l.length = 64) : appE s n l = 0 ∧ appS s n l = (s.put n.toNat l).sureAll := by
  have e1 := calm_wrE h h0 h1 hl
  have e2 := calm_wr h h0 h1 hl
  have cp : Disk.Calm (s.put n.toNat l) := calm_put h _ _
  have e3 : (s.put n.toNat l).num.work = ((s.put n.toNat l).num, 0) := work_calm _ cp
  unfold appE appS DSt.flE DSt.fl
  rw [e1, e2, if_pos rfl, if_pos rfl, e3, if_pos rfl]
  exact ⟨rfl, rfl⟩
theorem st_calm {s : DSt} (h : Disk.Calm s) : ∀ j, st s j = s
  | 0 => rfl
  | j + 1 => by
    show (st s j).io j = s
    rw [st_calm h j, calm_io h]
def RepAns (w0 w : World) (d : Nat) (ρ : Nat → Nat) (s : DSt) (gen : Int) (k : Nat) (e : Ending) (w' : World) : Prop :=
  ∃ v, e = .returned (.tuple #[v, .int .i64 0]) ∧ Chg (Own ρ) w w' ∧ LRows w' w.heap.size v (recs s gen k) ∧ DL w0 w' d ρ s
theorem rep_calm {w0 w w' : World} {d : Nat} {ρ : Nat → Nat} {s : DSt} {gen : Int} {e : Ending} (h : RepPost w0 w d ρ s gen e w') (hc : Disk.Calm s) (hn : 64 ≤ s.n) (k : Nat) (hk : k ≤ 64) (h1 : ∀ j, j < k → (recOf (s.get j) gen j).isSome = true) (h2 : k = 64 ∨ recOf (s.get k) gen k = none) : RepAns w0 w d ρ s gen k e w' := by
  obtain ⟨v, E, m, rfl, hch, hm, hG, hr⟩ := h
  have io : ∀ j : Nat, j < 64 → (st s j).ioE j = 0 := fun j hj => by rw [st_calm hc]; exact calm_ioE hc (by omega) (by omega)
  have nk : ¬ k < m := fun x => by
    rcases h2 with h2 | h2
    · omega
    · have := (hG k x).2
      rw [h2] at this; cases this
  rcases hr with ⟨rfl, hL, hr⟩ | ⟨a, b, c, _⟩
  · rcases hr with ⟨rfl, hD⟩ | ⟨a, b, c, hD⟩
    · obtain rfl : k = 64 := by omega
      rw [st_calm hc] at hD
      exact ⟨v, rfl, hch, hL, hD⟩
    · have : ¬ m < k := fun x => by
        have := h1 m x
        rw [c] at this; cases this
      obtain rfl : k = m := by omega
      rw [st_calm hc] at hD
      exact ⟨v, rfl, hch, hL, hD⟩
  · exact absurd (by rw [b]; exact io m a) c
end Go.Proofs.YtolojkfpokmdkaaRR.Log

-- XLogH
namespace Go.Proofs.YtolojkfpokmdkaaRR.Log
open Go.RowKit Go.Proofs.YtolojkfpokmdkaaRR.Hp Go.Proofs.YtolojkfpokmdkaaRR.By Go.Proofs.YtolojkfpokmdkaaRR.Disk Go.Proofs.YtolojkfpokmdkaaRR.Word Go.Proofs.YtolojkfpokmdkaaRR.WordP
set_option linter.unusedVariables false
set_option linter.unusedSimpArgs false
theorem u32_mod (x : Int) : IntKind.u32.wrap (x % 4294967296) = IntKind.u32.wrap x := by
  rw [IntKind.wrap_u32, IntKind.wrap_u32]; omega
def RSumRel (l : List Int) (h i : Value) : Prop := ∃ k : Nat, k ≤ l.length ∧ i = .int .i64 k ∧ h = .int .u64 (fold 14695981039346656037 (l.take k))
def RNumRel (w : World) (v : Int) (n : Nat) (x o i : Value) (wr : World) : Prop :=
  ∃ k : Nat, k ≤ n ∧ i = .int .i64 k ∧ x = .int .u64 (v / 256 ^ k) ∧ wr.ownsRow w.heap.size 5 1 o k ((digs v k).map (Value.int .u8)) ∧ Chg NoB w wr
def RNumPost (w : World) (l : List Int) (n : Nat) (e : Ending) (w' : World) : Prop := ∃ o, e = .returned o ∧ w'.ownsRow w.heap.size 5 1 o n (l.map (Value.int .u8)) ∧ Chg NoB w w'
theorem div_range (v : Int) (k : Nat) (h0 : 0 ≤ v) (h1 : v < 18446744073709551616) : 0 ≤ v / 256 ^ k ∧ v / 256 ^ k < 18446744073709551616 := by
  have hp : (0 : Int) < 256 ^ k := Int.pow_pos (by omega)
  refine ⟨Int.ediv_nonneg h0 (by omega), ?_⟩
  exact Int.lt_of_le_of_lt (Int.ediv_le_self _ h0) h1
end Go.Proofs.YtolojkfpokmdkaaRR.Log

-- XLogI
namespace Go.Proofs.YtolojkfpokmdkaaRR.Log
open Go.RowKit Go.Proofs.YtolojkfpokmdkaaRR.Hp Go.Proofs.YtolojkfpokmdkaaRR.By Go.Proofs.YtolojkfpokmdkaaRR.Disk Go.Proofs.YtolojkfpokmdkaaRR.Word Go.Proofs.YtolojkfpokmdkaaRR.WordP
set_option linter.unusedVariables false
set_option linter.unusedSimpArgs false
def refH (gen n : Int) (l : List Int) : List Int := digs gen 4 ++ digs n 4 ++ [(l.length : Int)] ++ l
theorem refH_len (gen n : Int) (l : List Int) : (refH gen n l).length = 9 + l.length := by
  unfold refH; simp [digs_length]; omega
theorem refH_eq (gen n : Int) (l : List Int) (h : l.length ≤ 50) : refH gen n l ++ List.replicate (51 - l.length) 0 = (secL gen n l).take 60 := by
  have d4 : ∀ v, (digs v 4).length = 4 := fun v => digs_length v 4
  have d1 : digs (l.length : Int) 1 = [(l.length : Int)] := by
    rw [show (1 : Nat) = 0 + 1 from rfl, digs_snoc]
    have : ((l.length : Int) / 256 ^ 0 % 256) = l.length := by rw [Int.pow_zero, Int.ediv_one]; omega
    rw [this]; rfl
  apply List.ext_getElem?
  intro j
  rw [List.getElem?_take]
  by_cases hj : j < 60
  · rw [if_pos hj, sec_at gen n l h j hj]
    unfold refH
    by_cases c1 : j < 4
    · rw [if_neg (by omega), if_neg (by omega), if_neg (by omega), if_pos (by omega), List.append_assoc, List.append_assoc, List.append_assoc, List.getElem?_append_left (by rw [d4]; omega)]
      rfl
    · by_cases c2 : j < 8
      · rw [if_neg (by omega), if_neg (by omega), if_pos (by omega), List.append_assoc, List.append_assoc, List.append_assoc, List.getElem?_append_right (by rw [d4]; omega), d4, List.getElem?_append_left (by rw [d4]; omega)]
      · by_cases c3 : j < 9
        · rw [if_neg (by omega), if_pos (by omega), d1, List.append_assoc, List.append_assoc, List.append_assoc, List.getElem?_append_right (by rw [d4]; omega), d4, List.getElem?_append_right (by rw [d4]; omega), d4]
          obtain rfl : j = 8 := by omega
          rfl
        · by_cases c4 : j < 9 + l.length
          · rw [if_pos (by omega), List.append_assoc, List.append_assoc, List.append_assoc, List.getElem?_append_right (by rw [d4]; omega), d4, List.getElem?_append_right (by rw [d4]; omega), d4, List.getElem?_append_right (by simp; omega), List.length_singleton, List.getElem?_append_left (by omega)]
            congr 1 <;> omega
          · rw [if_neg (by omega), if_neg (by omega), if_neg (by omega), if_neg (by omega), List.getElem?_append_right (by simp [d4]; omega), List.getElem?_replicate, List.getElem?_replicate, if_pos (by simp [d4]; omega), if_pos (by omega)]
  · rw [if_neg hj, List.getElem?_eq_none]
    rw [List.length_append, refH_len, List.length_replicate]; omega
theorem secL_ref (gen n : Int) (l : List Int) (h : l.length ≤ 50) : secL gen n l = (refH gen n l ++ List.replicate (51 - l.length) 0) ++ digs (sum32 (fold 14695981039346656037 (refH gen n l ++ List.replicate (51 - l.length) 0))) 4 := by
  have e4 := secH_len gen n l h
  have e : (secL gen n l).take 60 = (secH gen n l).take 60 := by
    apply List.ext_getElem?
    intro j
    rw [List.getElem?_take, List.getElem?_take]
    by_cases hj : j < 60
    · rw [if_pos hj, if_pos hj]
      unfold secL
      rw [spl_get _ _ 60 j (by rw [digs_length, e4]; omega), if_neg (by omega)]
    · rw [if_neg hj, if_neg hj]
  rw [refH_eq gen n l h, e]
  unfold secL spl
  rw [digs_length, List.drop_of_length_le (by omega), List.append_nil]
def RSecRel (RH : List Int) (len : Nat) (w : World) (o : Value) (wr : World) : Prop := ∃ m N : Nat, N = 9 + len + m ∧ N ≤ 60 ∧ wr.ownsRow w.heap.size 5 1 o N ((RH ++ List.replicate m 0).map (Value.int .u8)) ∧ Chg NoB w wr
def toGo : Value → Nat
  | .slice _ n _ => 60 - n
  | _ => 60
def RSecPost (w : World) (l : List Int) (e : Ending) (w' : World) : Prop := ∃ A c, e = .returned (.slice A 64 c) ∧ Rd w' .u8 A l ∧ Chg NoB w w'
end Go.Proofs.YtolojkfpokmdkaaRR.Log

-- XLogJ
namespace Go.Proofs.YtolojkfpokmdkaaRR.Log
open Go.RowKit Go.Proofs.YtolojkfpokmdkaaRR.Hp Go.Proofs.YtolojkfpokmdkaaRR.By Go.Proofs.YtolojkfpokmdkaaRR.Disk Go.Proofs.YtolojkfpokmdkaaRR.Word Go.Proofs.YtolojkfpokmdkaaRR.WordP
set_option linter.unusedVariables false
set_option linter.unusedSimpArgs false
/-- a slice of slices of bytes -/
def Rows (w : World) (A : Option Addr) (ps : List (List Int)) : Prop :=
  ∀ j, j < ps.length → ∃ ad B c, A = some ad ∧ w.cell? (ad.add j) = some (.slice B (ps.getD j []).length c) ∧ Rd w .u8 B (ps.getD j [])
theorem Rows.keep {w w' : World} {A : Option Addr} {ps : List (List Int)} (h : Rows w A ps) (hc : Chg NoB w w') : Rows w' A ps := fun j hj => by
  obtain ⟨ad, B, c, e, h1, h2⟩ := h j hj
  exact ⟨ad, B, c, e, hc.cell h1 (fun x => x), h2.chg hc (fun _ _ _ x => x)⟩
def SARel (ps qs : List (List Int)) (w : World) (i : Value) (wr : World) : Prop := ∃ k : Nat, k ≤ ps.length ∧ i = .int .i64 k ∧ ps.take k = qs.take k ∧ Chg NoB w wr
theorem takeL_succ (xs : List (List Int)) (j : Nat) (h : j < xs.length) : xs.take (j + 1) = xs.take j ++ [xs.getD j []] := by
  rw [List.take_add_one]
  simp [h]
end Go.Proofs.YtolojkfpokmdkaaRR.Log

-- XLogL
namespace Go.Proofs.YtolojkfpokmdkaaRR.Log
open Go.RowKit Go.Proofs.YtolojkfpokmdkaaRR.Hp Go.Proofs.YtolojkfpokmdkaaRR.By Go.Proofs.YtolojkfpokmdkaaRR.Disk Go.Proofs.YtolojkfpokmdkaaRR.Word Go.Proofs.YtolojkfpokmdkaaRR.WordP
set_option linter.unusedVariables false
set_option linter.unusedSimpArgs false
/-- 64 sectors that lie in a slice -/
def SIn (w : World) (A : Option Addr) (f : Nat → List Int) : Prop := ∀ j, j < 64 → ∃ ad g V, A = some ad ∧ w.cell? (ad.add j) = some V ∧ Row w V g (f j)
theorem SIn.keep {w w' : World} {A : Option Addr} {f : Nat → List Int} (h : SIn w A f) (hc : Chg NoB w w') : SIn w' A f := fun j hj => by
  obtain ⟨ad, g, V, e, h1, h2⟩ := h j hj
  exact ⟨ad, g, V, e, hc.cell h1 (fun x => x), h2.chg hc (fun x => x)⟩
def recsF (f : Nat → List Int) (gen : Int) (m : Nat) : List (List Int) := (List.range m).map (fun j : Nat => (recOf (f j) gen j).getD [])
/-- the cuts of them, in a slice of the call's own -/
def RRows (w wr : World) (f : Nat → List Int) (gen : Int) (v : Value) (m : Nat) : Prop :=
  ∃ SVs, wr.ownsRow w.heap.size 38 1 v m SVs ∧ ∀ j, j < m → ∃ g c V b, SVs[j]? = some (.slice (some ⟨g, 9, none⟩) b.length c) ∧ Row w V g (f j) ∧ recOf (f j) gen j = some b
def RcB (w : World) (f : Nat → List Int) (gen : Int) (out i : Value) (wr : World) : Prop := ∃ m : Nat, m ≤ 64 ∧ i = .int .i64 m ∧ Chg NoB w wr ∧ RRows w wr f gen out m
def RcPost (w : World) (f : Nat → List Int) (gen : Int) (e : Ending) (w' : World) : Prop := ∃ v m, e = .returned v ∧ Chg NoB w w' ∧ m ≤ 64 ∧ RRows w w' f gen v m ∧ (m = 64 ∨ recOf (f m) gen m = none)
theorem rc_no {w wr : World} {f : Nat → List Int} {gen : Int} {m : Nat} (hC : Chg NoB w wr) (h : recOf (f m) gen m = none) (hm : m ≤ 64) : ∀ w', Chg NoB wr w' → ∀ out, RRows w wr f gen out m → RcPost w f gen (.returned out) w' := fun w' hc out hL => by
  obtain ⟨SVs, h1, h2⟩ := hL
  exact ⟨out, m, rfl, hC.trans hc (fun _ _ x => x), hm, ⟨SVs, own_chg h1 hc (fun _ _ x => x), h2⟩, .inr h⟩
end Go.Proofs.YtolojkfpokmdkaaRR.Log

-- XLogM
namespace Go.Proofs.YtolojkfpokmdkaaRR.Log
open Go.RowKit Go.Proofs.YtolojkfpokmdkaaRR.Hp Go.Proofs.YtolojkfpokmdkaaRR.By Go.Proofs.YtolojkfpokmdkaaRR.Disk Go.Proofs.YtolojkfpokmdkaaRR.Word Go.Proofs.YtolojkfpokmdkaaRR.WordP
set_option linter.unusedVariables false
set_option linter.unusedSimpArgs false
/-- a cut at 9 of a sector, read -/
theorem cut_rd {w : World} {V : Value} {g : Nat} {l b : List Int} (h : Row w V g l) (hb : (l.drop 9).take b.length = b) (h50 : b.length ≤ 50) : Rd w .u8 (some ⟨g, 9, none⟩) b := by
  obtain ⟨hl, _, cap, C, _, _, hblk, hCs, hcell⟩ := h
  refine ⟨by omega, fun hp => ⟨_, rfl, fun j hj => ?_⟩⟩
  have e : (⟨g, 9, none⟩ : Addr).add j = ⟨g, 9 + j, none⟩ := by unfold Addr.add; split <;> simp_all
  rw [e, bcell hblk, hcell (9 + j) (by omega)]
  have hj2 : b[j]? = l[9 + j]? := by
    have h0 := congrArg (fun x => x[j]?) hb
    simp only [List.getElem?_take, List.getElem?_drop, if_pos hj] at h0
    exact h0.symm
  simp only [List.getD_eq_getElem?_getD, hj2]
theorem own_cells {w : World} {base n : Nat} {v : Value} {SVs : List Value} (h : w.ownsRow base 38 1 v n SVs) : ∃ A c, v = .slice A n c ∧ ∀ j V, SVs[j]? = some V → ∃ ad, A = some ad ∧ w.cell? (ad.add j) = some V := by
  have hlen : SVs.length = n := by have := h.1; simpa using this
  rcases h.2 with ⟨rfl, h0⟩ | ⟨g, cap, cur, rfl, _⟩
  · refine ⟨none, 0, by rw [h0], fun j V hj => ?_⟩
    rw [List.getElem?_eq_none (by omega)] at hj; cases hj
  · exact ⟨_, cap, rfl, fun j V hj => ⟨_, rfl, h.cells (g := g) rfl j V hj⟩⟩
theorem LRows.rows {w : World} {base : Nat} {v : Value} {bs : List (List Int)} (h : LRows w base v bs) : ∃ A c, v = .slice A bs.length c ∧ Rows w A bs := by
  obtain ⟨SVs, hown, hels⟩ := h
  obtain ⟨A, c, hv, hc⟩ := own_cells hown
  refine ⟨A, c, hv, fun j hj => ?_⟩
  obtain ⟨g, c', l, e1, ⟨vv, e2⟩, _, e4, e5⟩ := hels j hj
  obtain ⟨ad, e, hcell⟩ := hc j _ e1
  exact ⟨ad, _, c', e, hcell, cut_rd e2 e4 e5.1⟩
theorem recsF_len (f : Nat → List Int) (gen : Int) (m : Nat) : (recsF f gen m).length = m := by unfold recsF; simp
theorem RRows.rows {w wr : World} {f : Nat → List Int} {gen : Int} {v : Value} {m : Nat} (h : RRows w wr f gen v m) (hC : Chg NoB w wr) : ∃ A c, v = .slice A m c ∧ Rows wr A (recsF f gen m) := by
  obtain ⟨SVs, hown, hels⟩ := h
  obtain ⟨A, c, hv, hc⟩ := own_cells hown
  refine ⟨A, c, hv, fun j hj => ?_⟩
  rw [recsF_len] at hj
  obtain ⟨g, c', V, b, e1, e2, e3⟩ := hels j hj
  obtain ⟨ad, e, hcell⟩ := hc j _ e1
  have eb : (recsF f gen m).getD j [] = b := by
    unfold recsF
    rw [List.getD_eq_getElem?_getD, List.getElem?_map, List.getElem?_range hj]
    simp [e3]
  rw [eb]
  have h8 : 0 ≤ (f j).getD 8 0 := (e2.2.1 _ (by rw [List.getD_eq_getElem?_getD, List.getElem?_eq_getElem (by have := e2.1; omega)]; exact List.getElem_mem _)).1
  obtain ⟨h9, h50⟩ := rec_len e3 e2.1 h8
  exact ⟨ad, _, c', e, hcell, cut_rd (e2.chg hC (fun x => x)) h9 h50⟩
/-- both stop at the same record -/
theorem stop_eq {f : Nat → List Int} {gen : Int} {k m : Nat} (hk : k ≤ 64) (hm : m ≤ 64) (h1 : ∀ j, j < k → (recOf (f j) gen j).isSome = true) (h2 : k = 64 ∨ recOf (f k) gen k = none) (h3 : ∀ j, j < m → (recOf (f j) gen j).isSome = true) (h4 : m = 64 ∨ recOf (f m) gen m = none) : k = m := by
  rcases Nat.lt_trichotomy k m with h | h | h
  · rcases h2 with h2 | h2
    · omega
    · have := h3 k h; rw [h2] at this; cases this
  · exact h
  · rcases h4 with h4 | h4
    · omega
    · have := h1 m h; rw [h4] at this; cases this
theorem recs_recsF (s : DSt) (gen : Int) (m : Nat) : recs s gen m = recsF (fun j => s.get (j : Int)) gen m := rfl
/-- the records of a program, and of the reference, are the same -/
theorem same_recs {w0 w w' : World} {d : Nat} {ρ : Nat → Nat} {s : DSt} {gen : Int} {e : Ending} (h : RepPost w0 w d ρ s gen e w') (hc : Disk.Calm s) (hn : 64 ≤ s.n) : ∃ k : Nat, k ≤ 64 ∧ (∀ j : Nat, j < k → (recOf (s.get (j : Int)) gen j).isSome = true) ∧ (k = 64 ∨ recOf (s.get (k : Int)) gen k = none) ∧ RepAns w0 w d ρ s gen k e w' := by
  have h0 := h
  obtain ⟨v, E, m, rfl, hch, hm, hG, hr⟩ := h0
  have h1 : ∀ j : Nat, j < m → (recOf (s.get (j : Int)) gen j).isSome = true := fun j hj => (hG j hj).2
  rcases hr with ⟨_, _, hr⟩ | ⟨a, b, c, _⟩
  · rcases hr with ⟨rfl, _⟩ | ⟨_, _, hno, _⟩
    · exact ⟨64, hm, h1, .inl rfl, rep_calm h hc hn 64 hm h1 (.inl rfl)⟩
    · exact ⟨m, hm, h1, .inr hno, rep_calm h hc hn m hm h1 (.inr hno)⟩
  · exact absurd (by rw [b, st_calm hc]; exact calm_ioE hc (by omega) (by omega)) c
end Go.Proofs.YtolojkfpokmdkaaRR.Log

