/- Memory of frames: RamPlays: acts that came in, the state; Same as a call that only reads. -/
import Derived.Test.YtilameppdnmgdaaRamH
namespace Go.Proofs.Ytilameppdnmgdaa.Ram
open Go.RowKit Go.Proofs.Ytilameppdnmgdaa.Hp
set_option linter.unusedVariables false
set_option linter.unusedSimpArgs false
structure ActV where
  what : Int
  f : Int
  at_ : Int
  n : Int
  A : Option Addr
  len : Nat
  cap : Nat
  zs : List Int
def actCells (x : ActV) : List Value := [.int .i64 x.what, .int .i64 x.f, .int .i64 x.at_, .int .i64 x.n, .slice x.A x.len x.cap]
def ActAt (w : World) (ad : Addr) (i : Nat) (x : ActV) : Prop := (∀ j v, (actCells x)[j]? = some v → w.cell? (ad.add (i * 5 + j)) = some v) ∧ IsRow .u8 w x.A x.len x.cap x.zs
def IsActs (w : World) (A : Option Addr) (len cap : Nat) (X : Nat → ActV) : Prop := (A = none ∧ len = 0 ∧ cap = 0) ∨ ∃ ad, A = some ad ∧ len ≤ cap ∧ cap ≤ maxLen ∧ ∀ i, i < len → ActAt w ad i (X i)
section
variable {H : Type} {enc : TypeId × Value → H} {w : World} {base : Nat} {spare : Nat → Bool} {held : Bool}
theorem act_of (l : List Value) (n : Nat) (hl : l.length = 5) (hsp : ∀ b, spare b = true)
    (h0 : ∃ y, DataW.trod enc Try.prog w base spare held n 3 ((l.drop 0).take (Try.prog.cellsOf 3)) = some y) (h1 : ∃ y, DataW.trod enc Try.prog w base spare held n 3 ((l.drop 1).take (Try.prog.cellsOf 3)) = some y) (h2 : ∃ y, DataW.trod enc Try.prog w base spare held n 3 ((l.drop 2).take (Try.prog.cellsOf 3)) = some y)
    (h3 : ∃ y, DataW.trod enc Try.prog w base spare held n 3 ((l.drop 3).take (Try.prog.cellsOf 3)) = some y) (h4 : ∃ y, DataW.trod enc Try.prog w base spare held n 22 ((l.drop 4).take (Try.prog.cellsOf 22)) = some y) :
    ∃ x : ActV, l = actCells x ∧ IsRow .u8 w x.A x.len x.cap x.zs := by
  rw [show Try.prog.cellsOf 3 = 1 by kernel_rfl] at h0 h1 h2 h3
  rw [show Try.prog.cellsOf 22 = 1 by kernel_rfl] at h4
  match l, hl with
  | [c0, c1, c2, c3, c4], _ =>
    obtain ⟨y0, h0⟩ := h0
    obtain ⟨y1, h1⟩ := h1
    obtain ⟨y2, h2⟩ := h2
    obtain ⟨y3, h3⟩ := h3
    obtain ⟨y4, h4⟩ := h4
    obtain ⟨n0, e0, -, -⟩ := DataW.trod_int Try.underlying3 h0
    obtain ⟨n1, e1, -, -⟩ := DataW.trod_int Try.underlying3 h1
    obtain ⟨n2, e2, -, -⟩ := DataW.trod_int Try.underlying3 h2
    obtain ⟨n3, e3, -, -⟩ := DataW.trod_int Try.underlying3 h3
    obtain ⟨A, le, ca, zs, e4, hr⟩ := row_of_trod (v := c4) Try.underlying22 Try.underlying5 (by kernel_rfl) (by simpa using h4) hsp
    have f0 : c0 = .int .i64 n0 := by simpa using e0
    have f1 : c1 = .int .i64 n1 := by simpa using e1
    have f2 : c2 = .int .i64 n2 := by simpa using e2
    have f3 : c3 = .int .i64 n3 := by simpa using e3
    exact ⟨⟨n0, n1, n2, n3, A, le, ca, zs⟩, by rw [f0, f1, f2, f3, e4]; rfl, hr⟩
theorem acts_open {fuel : Nat} {x : DataW H × List MemPlace} {a : Option Addr} {len cap : Nat} (h : DataW.trod enc Try.prog w base spare held fuel 51 [.slice a len cap] = some x) (hsp : ∀ b, spare b = true) : ∃ X, IsActs w a len cap X := by
  have hc : Try.prog.cellsOf 56 = 5 := by kernel_rfl
  rcases open_elems Try.underlying51 Try.underlying56 h with hcs | ⟨ad, l, c, hcs, hl, hm, hi⟩
  · simp at hcs
    obtain ⟨rfl, rfl, rfl⟩ := hcs
    exact ⟨fun _ => ⟨0, 0, 0, 0, none, 0, 0, []⟩, .inl ⟨rfl, rfl, rfl⟩⟩
  · simp at hcs
    obtain ⟨rfl, rfl, rfl⟩ := hcs
    have each : ∀ i, ∃ x : ActV, i < len → ActAt w ad i x := by
      intro i
      by_cases hil : i < len
      · obtain ⟨cs, n, hcl, hat, hf⟩ := hi i hil
        rw [hc] at hcl hat
        obtain ⟨x, e, hr⟩ := act_of (enc := enc) (w := w) (base := base) (spare := spare) (held := held) cs n hcl hsp (hf 0 _ rfl) (hf 1 _ rfl) (hf 2 _ rfl) (hf 3 _ rfl) (hf 4 _ rfl)
        exact ⟨x, fun _ => ⟨fun j v hj => hat j v (by rw [e]; exact hj), hr⟩⟩
      · exact ⟨⟨0, 0, 0, 0, none, 0, 0, []⟩, fun h => absurd h hil⟩
    exact ⟨fun i => (each i).choose, .inr ⟨ad, rfl, hl, hm, fun i hil => (each i).choose_spec hil⟩⟩
end
theorem ActAt.five {w : World} {ad : Addr} {i : Nat} {x : ActV} (h : ActAt w ad i x) : w.cell? (ad.add (i * 5)) = some (.int .i64 x.what) ∧ w.cell? ⟨(ad.add (i * 5)).block, (ad.add (i * 5)).off + 1, none⟩ = some (.int .i64 x.f) ∧ w.cell? ⟨(ad.add (i * 5)).block, (ad.add (i * 5)).off + 2, none⟩ = some (.int .i64 x.at_) ∧ w.cell? ⟨(ad.add (i * 5)).block, (ad.add (i * 5)).off + 3, none⟩ = some (.int .i64 x.n) ∧ w.cell? ⟨(ad.add (i * 5)).block, (ad.add (i * 5)).off + 4, none⟩ = some (.slice x.A x.len x.cap) := by
  have h0 := h.1 0 _ rfl
  have h1 := h.1 1 _ rfl
  have h2 := h.1 2 _ rfl
  have h3 := h.1 3 _ rfl
  have h4 := h.1 4 _ rfl
  rw [add_field _ _ _ (by omega)] at h1 h2 h3 h4
  exact ⟨h0, h1, h2, h3, h4⟩
def SameQ (len : Nat) (w : World) (i : Value) (wr : World) : Prop := ∃ k n : Nat, k ≤ len ∧ i = .int .i64 k ∧ wr = w.drewN n
set_option maxHeartbeats 4000000 in
theorem same_q (A1 A2 : Option Addr) (c1 c2 : Nat) (l : List Int) (w : World) (h1 : Rd w .u8 A1 l) (h2 : Rd w .u8 A2 l) :
    Calls Try.prog 16 #[.slice A1 l.length c1, .slice A2 l.length c2] w fun e w' => e = .returned (.bool true) ∧ ∃ n, w' = w.drewN n := by
  have b1 := h1.1
  go_enter Try.func16, Try.ntmps16
  go_wp2_with fail
  go_loopw [5] (fun i wr => SameQ l.length w i wr) (fun i wr => l.length - (intOf i).toNat)
  case atStart => exact ⟨0, 0, by omega, rfl, rfl⟩
  case round =>
    obtain ⟨k, n, hk, rfl, hw⟩ := hrel
    by_cases hlt : k < l.length
    · have hC : Chg NoB w wr := by rw [hw]; exact (Chg.refl NoB w).drewN n
      obtain ⟨a1, rfl, hc1⟩ := (h1.chg hC (fun _ _ _ x => x)).at_ k hlt
      obtain ⟨a2, rfl, hc2⟩ := (h2.chg hC (fun _ _ _ x => x)).at_ k hlt
      have HW := Lib.hid hw
      have i1 : (k : Int) < (l.length : Int) := by omega
      clear h1 h2 hw hC
      generalize l.getD k 0 = x at *
      go_wp2_with fail
      go_quiet (fail)
      go_wp2_with fail
      go_roundw
      case rel => exact ⟨k + 1, n + nq, by omega, rfl, by rw [HW.out]; simp [World.drewN, Nat.add_assoc]⟩
      case measure => simp [intOf]; omega
    · obtain rfl : k = l.length := by omega
      have HW := Lib.hid hw
      clear h1 h2 hw
      go_wp2_with fail
      go_ret
      exact ⟨rfl, n, HW.out⟩
def IsList (C : Array Value) (B : Nat → Nat → Int) : Prop := C.size = 65536 ∧ ∀ f, f < 1024 → ∀ j, j < 64 → C[f * 64 + j]? = some (.int .u8 (B f j))
theorem IsList.spl {C : Array Value} {B : Nat → Nat → Int} (h : IsList C B) (f a : Nat) (l : List Int) (hf : f < 1024) (ha : a + l.length ≤ 64) : IsList (splA C (f * 64 + a) (l.map (Value.int .u8))) (upd B f a l) := by
  obtain ⟨h1, h2⟩ := h
  have hfit : f * 64 + a + (l.map (Value.int .u8)).length ≤ C.size := by rw [List.length_map, h1]; omega
  refine ⟨by rw [splA_size _ _ _ hfit]; exact h1, fun g hg j hj => ?_⟩
  by_cases c : g = f ∧ a ≤ j ∧ j < a + l.length
  · obtain ⟨rfl, c1, c2⟩ := c
    have := splA_in C (g * 64 + a) (l.map (Value.int .u8)) hfit (j - a) (by rw [List.length_map]; omega)
    rw [show g * 64 + a + (j - a) = g * 64 + j from by omega] at this
    rw [this]
    unfold upd
    rw [if_pos ⟨rfl, c1, c2⟩]
    simp [show j - a < l.length from by omega]
  · rw [splA_out _ _ _ hfit _ (by rw [List.length_map]; omega), h2 g hg j hj]
    unfold upd
    rw [if_neg c]
def IsCnt (C : Array Value) (c : Nat → Nat) : Prop := C.size = 1024 ∧ ∀ f, f < 1024 → C[f]? = some (.int .i64 (c f))
def bump (c : Nat → Nat) (f : Nat) : Nat → Nat := fun g => if g = f then c g + 1 else c g
theorem IsCnt.bump {C : Array Value} {c : Nat → Nat} (h : IsCnt C c) (f : Nat) (hf : f < 1024) : IsCnt (C.setIfInBounds f (.int .i64 ((c f : Int) + 1))) (bump c f) := by
  refine ⟨by rw [Array.size_setIfInBounds]; exact h.1, fun g hg => ?_⟩
  rw [Array.getElem?_setIfInBounds, h.1]
  unfold Ram.bump
  by_cases e : f = g
  · subst e; rw [if_pos rfl, if_pos hf, if_pos rfl]; rfl
  · rw [if_neg e, if_neg (fun x => e x.symm)]; exact h.2 g hg
def dead (c : Nat → Nat) : Nat → Bool := fun f => decide (0 < c f)
theorem dead_bump (c : Nat → Nat) (f : Nat) : dead (bump c f) = setD (dead c) f := by
  funext g
  unfold dead bump setD
  by_cases e : g = f
  · subst e; rw [if_pos rfl, if_pos rfl, decide_eq_true (by omega)]
  · rw [if_neg e, if_neg e]
theorem setD_same {D : Nat → Bool} {f : Nat} (h : D f = true) : setD D f = D := by
  funext g
  unfold setD
  by_cases e : g = f
  · subst e; rw [if_pos rfl, h]
  · rw [if_neg e]
/-- the state -/
structure RpS (w wr : World) (p bl q z n : Nat) (B : Nat → Nat → Int) (c : Nat → Nat) (m : Nat) : Prop where
  ch : Chg NoB w wr
  ram : RRam wr p bl n B (dead c)
  li : ∃ C, Blk wr q C 53 ∧ IsList C B
  ba : ∃ C, Blk wr z C 54 ∧ IsCnt C c
  le : ∀ f, c f ≤ m
  lo : w.heap.size ≤ p ∧ w.heap.size ≤ bl ∧ w.heap.size ≤ q ∧ w.heap.size ≤ z
  ne : q ≠ z ∧ q ≠ p ∧ q ≠ bl ∧ z ≠ p ∧ z ≠ bl
section
variable {w wr w' : World} {p bl q z n : Nat} {B B' : Nat → Nat → Int} {c : Nat → Nat} {m : Nat}
theorem RpS.keep (h : RpS w wr p bl q z n B c m) (hc : Chg NoB wr w') : RpS w w' p bl q z n B c m := by
  obtain ⟨C, b1, i1⟩ := h.li
  obtain ⟨C2, b2, i2⟩ := h.ba
  exact ⟨h.ch.trans hc (fun _ _ x => x), h.ram.chg hc (fun x => x) (fun x => x), ⟨C, hc.blk b1 (fun x => x), i1⟩, ⟨C2, hc.blk b2 (fun x => x), i2⟩, h.le, h.lo, h.ne⟩
theorem RpS.up (h : RpS w wr p bl q z n B c m) : RpS w wr p bl q z n B c (m + 1) := ⟨h.ch, h.ram, h.li, h.ba, fun f => Nat.le_succ_of_le (h.le f), h.lo, h.ne⟩
theorem RpS.cnt (h : RpS w wr p bl q z n B c m) (f : Nat) (hf : f < 1024) : wr.cell? ⟨z, f, none⟩ = some (.int .i64 (c f)) ∧ wr.frozen? ⟨z, f, none⟩ = false := by
  obtain ⟨C, b, i⟩ := h.ba
  exact ⟨by rw [bcell b]; exact i.2 f hf, bfroz b f⟩
/-- the frame's bytes in the list -/
theorem RpS.rd (h : RpS w wr p bl q z n B c m) (f a k : Nat) (hf : f < 1024) (hk : a + k ≤ 64) (ad : Addr) (had : 0 < k → ad = ⟨q, f * 64 + a, none⟩) : Rd wr .u8 (some ad) (rdL B f a k) := by
  obtain ⟨C, b, i⟩ := h.li
  refine ⟨by rw [rdL_len]; omega, fun hp => ⟨ad, rfl, fun j hj => ?_⟩⟩
  rw [rdL_len] at hp hj
  rw [had hp, Hp.add_lit', bcell b, show f * 64 + a + j = f * 64 + (a + j) from by omega, i.2 f hf (a + j) (by omega)]
  simp [rdL, hj]
/-- the ram's frame and the list's were written alike -/
theorem RpS.wrote {w1 w2 : World} (h : RpS w wr p bl q z n B c m) (f a : Nat) (l : List Int) (hf : f < n) (ha : a + l.length ≤ 64) (hr : RRam w1 p bl n (upd B f a l) (dead c)) (hc : Chg (· = bl) wr w1) (C : Array Value) (hb : Blk wr q C 53) (hC : IsList C B) (hb2 : Blk w2 q (splA C (f * 64 + a) (l.map (Value.int .u8))) 53) (hc2 : Chg (· = q) w1 w2) : RpS w w2 p bl q z n (upd B f a l) c (m + 1) := by
  obtain ⟨C2, b2, i2⟩ := h.ba
  obtain ⟨n1, n2, n3, n4, n5⟩ := h.ne
  obtain ⟨l1, l2, l3, l4⟩ := h.lo
  have hle := h.ram.le
  refine ⟨(h.ch.trans hc (fun i hi x => by have : i = bl := x; omega)).trans hc2 (fun i hi x => by have : i = q := x; omega), hr.chg hc2 (fun x => n2 x.symm) (fun x => n3 x.symm), ⟨_, hb2, hC.spl f a l (by omega) ha⟩, ⟨C2, hc2.blk (hc.blk b2 n5) (fun x => n1 x.symm), i2⟩, fun f => Nat.le_succ_of_le (h.le f), h.lo, h.ne⟩
/-- the ram did something, the list not yet -/
theorem RpS.half {w1 : World} (h : RpS w wr p bl q z n B c m) (hc : Chg (· = bl) wr w1) (f : Nat) (hf : f < 1024) : w1.cell? ⟨z, f, none⟩ = some (.int .i64 (c f)) ∧ w1.frozen? ⟨z, f, none⟩ = false ∧ ∃ C, Blk wr q C 53 ∧ Blk w1 q C 53 ∧ IsList C B := by
  obtain ⟨C2, b2, i2⟩ := h.ba
  obtain ⟨C, b1, i1⟩ := h.li
  have b3 := hc.blk (show Blk wr z _ _ from b2) h.ne.2.2.2.2
  exact ⟨by rw [bcell b3]; exact i2.2 f hf, bfroz b3 f, C, b1, hc.blk b1 h.ne.2.2.1, i1⟩
/-- a frame was poisoned once more -/
theorem RpS.poisoned {w1 : World} (h : RpS w wr p bl q z n B c m) (f : Nat) (hf : f < n) (hr : RRam w1 p bl n B (dead (bump c f))) (hc : Chg (· = bl) wr w1) : RpS w (w1.setCell ⟨z, f, none⟩ (.int .i64 ((c f : Int) + 1))) p bl q z n B (bump c f) (m + 1) := by
  obtain ⟨C2, b2, i2⟩ := h.ba
  obtain ⟨C, b1, i1⟩ := h.li
  obtain ⟨n1, n2, n3, n4, n5⟩ := h.ne
  obtain ⟨l1, l2, l3, l4⟩ := h.lo
  have hle := h.ram.le
  have hc2 : Chg (· = z) w1 (w1.setCell ⟨z, f, none⟩ (.int .i64 ((c f : Int) + 1))) := (Chg.refl (· = z) w1).set (p := ⟨z, f, none⟩) (.inl rfl) _
  have b3 := hc.blk (show Blk wr z _ _ from b2) n5
  refine ⟨(h.ch.trans hc (fun i hi x => by have : i = bl := x; omega)).trans hc2 (fun i hi x => by have : i = z := x; omega), hr.chg hc2 (fun x => n4 x.symm) (fun x => n5 x.symm), ⟨C, hc2.blk (hc.blk b1 n3) n1, i1⟩, ⟨_, bset b3 f _, i2.bump f (by omega)⟩, fun g => ?_, h.lo, h.ne⟩
  have := h.le g
  unfold bump
  split <;> omega
end
theorem bump_at (c : Nat → Nat) (f : Nat) : ((bump c f f : Nat) : Int) = (c f : Int) + 1 := by unfold bump; rw [if_pos rfl]; rfl
theorem frame_info (B : Nat → Nat → Int) (f : Nat) : (Try.prog.info? 52).map (·.size) = some ((rdL B f 0 64).map (Value.int .u8)).toArray.size := by
  rw [show ((rdL B f 0 64).map (Value.int .u8)).toArray.size = 64 by simp [rdL_len]]
  kernel_rfl
theorem frame_fit {C : Array Value} {B : Nat → Nat → Int} {f t : Nat} (hs : C.size = 65536) (ht : t < 1024) : t * 64 + ((rdL B f 0 64).map (Value.int .u8)).toArray.size ≤ C.size := by
  rw [show ((rdL B f 0 64).map (Value.int .u8)).toArray.size = 64 by simp [rdL_len], hs]; omega
theorem frame_one (B : Nat → Nat → Int) (f : Nat) : ∀ v ∈ ((rdL B f 0 64).map (Value.int .u8)).toArray.toList, v.oneCell' = true := fun v hv => by
  obtain ⟨x, _, rfl⟩ := List.mem_map.mp (by simpa using hv)
  rfl
theorem load_frame {w : World} {q f : Nat} {C : Array Value} {B : Nat → Nat → Int} {T : TypeId} (hb : Blk w q C T) (hC : IsList C B) (hf : f < 1024) : (loadVar 52 ⟨q, f * 64, none⟩).run Try.prog w = .ok (.agg ((rdL B f 0 64).map (Value.int .u8)).toArray) w :=
  run_loadVar_at w q (f * 64) 52 _ _ (fun j v hj => by
    have hj2 : j < 64 := by
      have := (Array.getElem?_eq_some_iff.1 hj).1
      simpa [rdL_len] using this
    rw [bcell hb, hC.2 f hf j hj2]
    rw [← hj]
    simp [rdL, hj2]) Try.underlying52 rfl (frame_info B f)
/-- a copy into the list -/
theorem copy_list {w : World} {q f a k : Nat} {C : Array Value} {T : TypeId} {A : Option Addr} {l : List Int} (hb : Blk w q C T) (hs : C.size = 65536) (hr : Rd w .u8 A l) (hk : l.length ≤ 64) (ha : a + l.length ≤ 64) (hf : f < 1024) (hl : l.length = k) (xc : Nat) :
    ∃ w', (∀ ty, (Builtin.copy_ #[22, 22] ty #[.slice (some (if 64 = a then ⟨q, f * 64, none⟩ else (⟨q, f * 64 + a, none⟩ : Addr))) (64 - a) (64 - a), .slice A k xc]).run Try.prog w.drew = .ok (.int .i64 k) w') ∧ Blk w' q (splA C (f * 64 + a) (l.map (Value.int .u8))) T ∧ Chg (· = q) w.drew w' := by
  subst hl
  by_cases h0 : l.length = 0
  · obtain rfl : l = [] := List.eq_nil_of_length_eq_zero h0
    refine ⟨w.drew, fun ty => run_copy_none (P := Try.prog) w.drew 22 22 ty 5 _ A (64 - a) (64 - a) 0 xc Try.underlying22 sz8 (by simp), ?_, Chg.refl _ _⟩
    have e : splA C (f * 64 + a) (([] : List Int).map (Value.int .u8)) = C := by simp [splA]
    rw [e]
    exact hb
  · obtain ⟨ad, rfl, hsrc⟩ := rd_src hr (by rw [List.length_map]; omega)
    rw [if_neg (by omega)]
    have hfit : f * 64 + a + (l.map (Value.int .u8)).length ≤ C.size := by rw [List.length_map, hs]; omega
    refine ⟨w.drew.setRow q (splA C (f * 64 + a) (l.map (Value.int .u8))), fun ty => ?_, setRow_heap w.drew q C _ T _ hb, ⟨rfl, rfl, rfl, by simp [World.setRow], fun k _ hk => setRow_other w.drew q k _ hk⟩⟩
    have := run_copy_row (P := Try.prog) w.drew 22 22 ty 5 q (f * 64 + a) (64 - a) (64 - a) ad l.length xc C T (l.map (Value.int .u8)) Try.underlying22 sz8 hb (by rw [List.length_map]; exact (Nat.min_eq_left (by omega)).symm) hsrc hfit (one_u8 l)
    rw [this, List.length_map]
    simp [splA, goInt]
theorem zero_info : (Try.prog.info? 52).map (·.size) = some (#[.int .u8 0, .int .u8 0, .int .u8 0, .int .u8 0, .int .u8 0, .int .u8 0, .int .u8 0, .int .u8 0, .int .u8 0, .int .u8 0, .int .u8 0, .int .u8 0, .int .u8 0, .int .u8 0, .int .u8 0, .int .u8 0, .int .u8 0, .int .u8 0, .int .u8 0, .int .u8 0, .int .u8 0, .int .u8 0, .int .u8 0, .int .u8 0, .int .u8 0, .int .u8 0, .int .u8 0, .int .u8 0, .int .u8 0, .int .u8 0, .int .u8 0, .int .u8 0, .int .u8 0, .int .u8 0, .int .u8 0, .int .u8 0, .int .u8 0, .int .u8 0, .int .u8 0, .int .u8 0, .int .u8 0, .int .u8 0, .int .u8 0, .int .u8 0, .int .u8 0, .int .u8 0, .int .u8 0, .int .u8 0, .int .u8 0, .int .u8 0, .int .u8 0, .int .u8 0, .int .u8 0, .int .u8 0, .int .u8 0, .int .u8 0, .int .u8 0, .int .u8 0, .int .u8 0, .int .u8 0, .int .u8 0, .int .u8 0, .int .u8 0, .int .u8 0] : Array Value).size := by kernel_rfl
theorem zero_fit {C : Array Value} {f : Nat} (hs : C.size = 65536) (hf : f < 1024) : f * 64 + (#[.int .u8 0, .int .u8 0, .int .u8 0, .int .u8 0, .int .u8 0, .int .u8 0, .int .u8 0, .int .u8 0, .int .u8 0, .int .u8 0, .int .u8 0, .int .u8 0, .int .u8 0, .int .u8 0, .int .u8 0, .int .u8 0, .int .u8 0, .int .u8 0, .int .u8 0, .int .u8 0, .int .u8 0, .int .u8 0, .int .u8 0, .int .u8 0, .int .u8 0, .int .u8 0, .int .u8 0, .int .u8 0, .int .u8 0, .int .u8 0, .int .u8 0, .int .u8 0, .int .u8 0, .int .u8 0, .int .u8 0, .int .u8 0, .int .u8 0, .int .u8 0, .int .u8 0, .int .u8 0, .int .u8 0, .int .u8 0, .int .u8 0, .int .u8 0, .int .u8 0, .int .u8 0, .int .u8 0, .int .u8 0, .int .u8 0, .int .u8 0, .int .u8 0, .int .u8 0, .int .u8 0, .int .u8 0, .int .u8 0, .int .u8 0, .int .u8 0, .int .u8 0, .int .u8 0, .int .u8 0, .int .u8 0, .int .u8 0, .int .u8 0, .int .u8 0] : Array Value).size ≤ C.size := by
  rw [hs]
  show f * 64 + 64 ≤ 65536
  omega
theorem zero_one : ∀ v ∈ (#[.int .u8 0, .int .u8 0, .int .u8 0, .int .u8 0, .int .u8 0, .int .u8 0, .int .u8 0, .int .u8 0, .int .u8 0, .int .u8 0, .int .u8 0, .int .u8 0, .int .u8 0, .int .u8 0, .int .u8 0, .int .u8 0, .int .u8 0, .int .u8 0, .int .u8 0, .int .u8 0, .int .u8 0, .int .u8 0, .int .u8 0, .int .u8 0, .int .u8 0, .int .u8 0, .int .u8 0, .int .u8 0, .int .u8 0, .int .u8 0, .int .u8 0, .int .u8 0, .int .u8 0, .int .u8 0, .int .u8 0, .int .u8 0, .int .u8 0, .int .u8 0, .int .u8 0, .int .u8 0, .int .u8 0, .int .u8 0, .int .u8 0, .int .u8 0, .int .u8 0, .int .u8 0, .int .u8 0, .int .u8 0, .int .u8 0, .int .u8 0, .int .u8 0, .int .u8 0, .int .u8 0, .int .u8 0, .int .u8 0, .int .u8 0, .int .u8 0, .int .u8 0, .int .u8 0, .int .u8 0, .int .u8 0, .int .u8 0, .int .u8 0, .int .u8 0] : Array Value).toList, v.oneCell' = true := by decide
end Go.Proofs.Ytilameppdnmgdaa.Ram
