/- Chapter 25: steps that lie in memory; Print. -/
import Derived.Test.YtmjnbbdlnplmjaaDoorScrB
import Derived.Test.YtmjnbbdlnplmjaaDoorHpE
import Derived.Lib.ItoaLen
namespace Go.Proofs.YtmjnbbdlnplmjaaDoor.Scr
open Go.RowKit
open Hp (Chg Blk NoB blt Rd)
set_option linter.unusedVariables false
set_option linter.unusedSimpArgs false
def StepAt (w : World) (ad : Addr) (i : Nat) (s : St) : Prop := ∃ A' cap, (∀ j v, (s.cells (.slice A' s.data.length cap))[j]? = some v → w.cell? (ad.add (i * 11 + j)) = some v) ∧ Rd w .u8 A' s.data
def SIn (w : World) (A : Option Addr) (l : List St) : Prop := ∀ i s, l[i]? = some s → ∃ ad, A = some ad ∧ StepAt w ad i s
theorem StepAt.chg {w w' : World} {ad : Addr} {i : Nat} {s : St} (h : StepAt w ad i s) (hc : Chg NoB w w') : StepAt w' ad i s := by
  obtain ⟨A', cap, h1, h2⟩ := h
  exact ⟨A', cap, fun j v hv => hc.cell (h1 j v hv) (fun x => x), h2.chg hc (fun _ _ _ x => x)⟩
theorem SIn.chg {w w' : World} {A : Option Addr} {l : List St} (h : SIn w A l) (hc : Chg NoB w w') : SIn w' A l := fun i s hs => by
  obtain ⟨ad, e, h1⟩ := h i s hs
  exact ⟨ad, e, h1.chg hc⟩
def St.ok (s : St) : Prop := ∀ z, z ∈ s.data → 0 ≤ z ∧ z < 256
def fitP (n : Int) : Prop := -4611686018427387904 ≤ n ∧ n ≤ 4611686018427387904
instance (n : Int) : Decidable (fitP n) := by unfold fitP; exact inferInstance
def numT (ns : List Int) : List UInt8 := ns.flatMap (fun n => Lib.itoa n ++ [32])
def lineL (s : St) : List UInt8 := numT s.nums ++ (120 :: ScP.hexL s.data) ++ [10]
def textL (l : List St) : List UInt8 := l.flatMap lineL
def allFit (l : List St) : Bool := l.all (fun s => s.nums.all (fun n => decide (fitP n)))
theorem numT_snoc (a : List Int) (n : Int) : numT (a ++ [n]) = numT a ++ (Lib.itoa n ++ [32]) := by simp [numT]
theorem textL_snoc (a : List St) (s : St) : textL (a ++ [s]) = textL a ++ lineL s := by simp [textL]
theorem nums_cell (s : St) (j : Nat) (h : j < 10) : s.ncells[j]? = some (.int .i64 (s.nums.getD j 0)) := by
  match j, h with
  | 0, _ => rfl | 1, _ => rfl | 2, _ => rfl | 3, _ => rfl | 4, _ => rfl | 5, _ => rfl | 6, _ => rfl | 7, _ => rfl | 8, _ => rfl | 9, _ => rfl
theorem numT_len : ∀ ns : List Int, (∀ n, n ∈ ns → fitP n) → (numT ns).length ≤ 22 * ns.length
  | [], _ => by simp [numT]
  | n :: ns, h => by
    have h1 := h n (List.mem_cons_self ..)
    have h2 := Lib.itoa_length_le n (by unfold fitP at h1; omega) (by unfold fitP at h1; omega)
    have h3 := numT_len ns (fun m hm => h m (List.mem_cons_of_mem _ hm))
    have e : numT (n :: ns) = (Lib.itoa n ++ [32]) ++ numT ns := by simp [numT]
    rw [e, List.length_append, List.length_append, List.length_cons]
    simp
    omega
theorem ba_app (a b : List UInt8) : (ba a ++ ba b : ByteArray) = ba (a ++ b) := by
  apply ByteArray.ext
  rw [ByteArray.data_append]
  simp
theorem step_cells {w : World} {ad : Addr} {i : Nat} {s : St} {v : Value} (h : ∀ j u, (s.cells v)[j]? = some u → w.cell? (ad.add (i * 11 + j)) = some u) : w.cell? (ad.add (i * 11)) = some (.int .i64 s.k) ∧ w.cell? ⟨(ad.add (i * 11)).block, (ad.add (i * 11)).off + 1, none⟩ = some (.int .i64 s.a) ∧ w.cell? ⟨(ad.add (i * 11)).block, (ad.add (i * 11)).off + 2, none⟩ = some (.int .i64 s.b) ∧ w.cell? ⟨(ad.add (i * 11)).block, (ad.add (i * 11)).off + 3, none⟩ = some (.int .i64 s.c) ∧ w.cell? ⟨(ad.add (i * 11)).block, (ad.add (i * 11)).off + 4, none⟩ = some (.int .i64 s.fr) ∧ w.cell? ⟨(ad.add (i * 11)).block, (ad.add (i * 11)).off + 5, none⟩ = some (.int .i64 s.pg) ∧ w.cell? ⟨(ad.add (i * 11)).block, (ad.add (i * 11)).off + 6, none⟩ = some (.bool s.wr) ∧ w.cell? ⟨(ad.add (i * 11)).block, (ad.add (i * 11)).off + 7, none⟩ = some (.int .i64 s.ak) ∧ w.cell? ⟨(ad.add (i * 11)).block, (ad.add (i * 11)).off + 8, none⟩ = some (.int .i64 s.fl) ∧ w.cell? ⟨(ad.add (i * 11)).block, (ad.add (i * 11)).off + 9, none⟩ = some (.int .i64 s.off) ∧ w.cell? ⟨(ad.add (i * 11)).block, (ad.add (i * 11)).off + 10, none⟩ = some (v) := by
  have h0 := h 0 _ rfl
  have h1 := h 1 _ rfl
  have h2 := h 2 _ rfl
  have h3 := h 3 _ rfl
  have h4 := h 4 _ rfl
  have h5 := h 5 _ rfl
  have h6 := h 6 _ rfl
  have h7 := h 7 _ rfl
  have h8 := h 8 _ rfl
  have h9 := h 9 _ rfl
  have h10 := h 10 _ rfl
  rw [Hp.add_field _ _ _ (by omega)] at h1 h2 h3 h4 h5 h6 h7 h8 h9 h10
  exact ⟨h0, h1, h2, h3, h4, h5, h6, h7, h8, h9, h10⟩
theorem BChg.of_nob {b : Nat} {w w' : World} (h : Chg NoB w w') (hb : b ≤ w.heap.size) : BChg b w w' :=
  ⟨h.below hb (fun i x => x.elim), fun k o hk _ _ => h.blk hk (fun x => x)⟩
theorem BChg.chg {b : Nat} {w w' : World} (h : BChg b w w') : Chg (fun i => b ≤ i) w w' :=
  ⟨h.below.os, h.below.tape, h.below.output, h.below.size, fun k hk hn => h.below.block k (by omega)⟩
theorem BChg.nob {w1 w w' : World} {b : Nat} (h : BChg b w w') (h1 : Chg NoB w1 w) (hb : w1.heap.size ≤ b) : Chg NoB w1 w' :=
  h1.trans h.chg (fun i hi hS => by omega)
theorem Glo.bchg {b : Nat} {w w' : World} (h : Glo w) (hc : BChg b w w') (hb : 8 ≤ b) : Glo w' := h.chg hc.chg (fun i hi => by omega)
theorem BChg.blk {b : Nat} {w w' : World} (h : BChg b w w') {g : Nat} {C : Array Value} {T : Nat} (hb : Blk w g C T) (hg : g ≠ b) (hT : T ≠ 5) : Blk w' g C T :=
  h.kept g _ hb (by simpa using hg) (fun c fz e => hT (by cases e; rfl))
def PRel (l : List St) (b : Nat) (W : World) (i : Value) (wr : World) : Prop := ∃ k : Nat, k ≤ l.length ∧ i = .int .i64 k ∧ allFit (l.take k) = true ∧ Bld b (textL (l.take k)) wr ∧ BChg b W wr
def NRel (ns : List Int) (pre : List UInt8) (b : Nat) (W : World) (i : Value) (wr : World) : Prop := ∃ k : Nat, k ≤ 10 ∧ i = .int .i64 k ∧ (ns.take k).all (fun n => decide (fitP n)) = true ∧ Bld b (pre ++ numT (ns.take k)) wr ∧ BChg b W wr
def PPost (l : List St) (w : World) (e : Ending) (w' : World) : Prop := e = .returned (.tuple #[.string (ba (if allFit l then textL l else [])), .int .i64 (if allFit l then 0 else 8)]) ∧ Chg NoB w w'
set_option maxRecDepth 100000 in
set_option maxHeartbeats 4000000 in
theorem print_any (l : List St) (A : Option Addr) (cap : Nat) (w : World) (hG : Glo w) (hA : SIn w A l) (hok : ∀ s, s ∈ l → s.ok) (hd : ∀ s, s ∈ l → s.data.length ≤ 100000) (hB : (textL l).length ≤ 900000) (hn : l.length ≤ 100000) :
    Calls Tryd.prog 7 #[.slice A l.length cap] w (PPost l w) := by
  have b0 := Bld.new w
  have hg0 := hG.gb
  obtain ⟨B, hBe⟩ : ∃ B, B = w.heap.size := ⟨_, rfl⟩
  have hc0 : Chg NoB w (w.alloc (.cells #[.pointer none, .slice none 0 0] 41)) := (Chg.refl _ _).alloc _
  go_enter Tryd.func7, Tryd.ntmps7
  go_wp2_with fail
  go_loopw [11] (fun i wr => PRel l w.heap.size (w.alloc (.cells #[.pointer none, .slice none 0 0] 41)) i wr) (fun i wr => l.length - (intOf i).toNat)
  case atStart => exact ⟨0, by omega, rfl, rfl, b0, BChg.refl _ _⟩
  case round =>
    obtain ⟨k, hk, rfl, hfit, hbk, hck⟩ := hrel
    have hCr : Chg NoB w wr := hck.nob hc0 (Nat.le_refl _)
    by_cases hlt : k < l.length
    · obtain ⟨ad, rfl, hst⟩ := hA k l[k] (List.getElem?_eq_getElem hlt)
      have i1 : (k : Int) < (l.length : Int) := by omega
      obtain ⟨W, hW⟩ : ∃ W, W = wr := ⟨_, rfl⟩
      subst hW
      obtain ⟨s, hs⟩ : ∃ s, s = l[k] := ⟨_, rfl⟩
      rw [← hs] at hst
      have hsm : s ∈ l := by rw [hs]; exact List.getElem_mem hlt
      have hsk : l.take (k + 1) = l.take k ++ [s] := by rw [List.take_succ_eq_append_getElem hlt, hs]
      have hpl : textL (l.take k) ++ lineL s <+: textL l := by
        rw [← textL_snoc, ← hsk]
        exact ⟨textL (l.drop (k + 1)), by unfold textL; rw [← List.flatMap_append, List.take_append_drop]⟩
      have hpB : (textL (l.take k)).length + (lineL s).length ≤ 900000 := by
        have := hpl.length_le
        rw [List.length_append] at this
        omega
      have HSK := Lib.hid hsk
      clear hs hsk hpl
      obtain ⟨A', cap', hcells0, hRd0⟩ := hst
      have hcells : ∀ j v, (s.cells (.slice A' s.data.length cap'))[j]? = some v → W.cell? (ad.add (k * 11 + j)) = some v := fun j v hv => hCr.cell (hcells0 j v hv) (fun x => x)
      clear hcells0
      obtain ⟨c0, c1, c2, c3, c4, c5, c6, c7, c8, c9, c10⟩ := step_cells hcells
      clear hcells
      have hN := numbers_any s (.slice A' s.data.length cap') (W.alloc (.cells (s.cells (.slice A' s.data.length cap')) 37))
      have hszW : w.heap.size < W.heap.size := by have := hck.below.size; simp at this; omega
      obtain ⟨gn, hgn⟩ : ∃ gn, gn = (W.alloc (.cells (s.cells (.slice A' s.data.length cap')) 37)).heap.size + 1 := ⟨_, rfl⟩
      rw [← hgn] at hN
      have hgn' : W.heap.size < gn := by rw [hgn]; simp; omega
      clear hgn
      go_wp2_with fail
      refine hN.mono ?_
      rintro e w2 ⟨rfl, hbn, hc2⟩
      clear hN c0 c1 c2 c3 c4 c5 c6 c7 c8 c9 c10
      have hbx : Blk w2 W.heap.size (s.cells (.slice A' s.data.length cap')) 37 := hc2.blk (Hp.bnew W _) (fun x => x)
      have hcW : Chg NoB W w2 := ((Chg.refl NoB W).alloc _).trans hc2 (fun _ _ h => h)
      have hb2 : Bld w.heap.size (textL (l.take k)) w2 := hbk.nob hcW
      have hk2 : BChg w.heap.size (w.alloc (.cells #[.pointer none, .slice none 0 0] 41)) w2 := hck.trans (BChg.of_nob hcW (by omega))
      have hw2s : w.heap.size < w2.heap.size := by have := hk2.below.size; simp at this; omega
      have hG2 : Glo w2 := (hG.nob hc0).bchg hk2 hg0
      have hA' : A' = none ∨ ∃ ad', A' = some ad' := by cases A' <;> simp
      go_wp2_with fail
      go_loopw [18] (fun i wr => NRel s.nums (textL (l.take k)) w.heap.size w2 i wr) (fun i wr => 10 - (intOf i).toNat)
      case atStart => exact ⟨0, by omega, rfl, rfl, by simpa [numT] using hb2, BChg.refl _ _⟩
      case round =>
        obtain ⟨j, hj, rfl, hfj, hbj, hcj⟩ := hrel
        have hGj : Glo wr := hG2.bchg hcj hg0
        have hbnj := hcj.blk hbn (by omega) (by decide)
        have hbxj := hcj.blk hbx (by omega) (by decide)
        have hlj : (textL (l.take k) ++ numT (s.nums.take j)).length ≤ 900220 := by
          have := numT_len (s.nums.take j) (fun n hn => by simpa using List.all_eq_true.1 hfj n hn)
          rw [List.length_append, List.length_take] at *
          omega
        by_cases hj10 : j < 10
        · have hcell := (Hp.bcell hbnj j).trans (nums_cell s j hj10)
          have i2 : (j : Int) < 10 := by omega
          have hjl : j < s.nums.length := hj10
          have htk := Hp.take_succ_getD s.nums j hjl
          have hzm : s.nums.getD j 0 ∈ s.nums := by rw [List.getD_eq_getElem?_getD, List.getElem?_eq_getElem hjl]; simp
          have HT := Lib.hid htk
          clear htk
          generalize s.nums.getD j 0 = z at *
          go_wp2_with fail
          refine (fits_any z wr).mono ?_
          rintro e w3 ⟨rfl, hw3⟩
          rw [hw3]
          clear hw3 w3
          by_cases hf : fitP z
          · rw [show decide (-4611686018427387904 ≤ z ∧ z ≤ 4611686018427387904) = true from decide_eq_true hf]
            go_wp2_with fail
            refine (itoa_call z (by unfold fitP at hf; omega) (by unfold fitP at hf; omega) _ hGj).mono ?_
            rintro e w4 ⟨rfl, hc4⟩
            have hil := Lib.itoa_length_le z (by unfold fitP at hf; omega) (by unfold fitP at hf; omega)
            go_wp2_with fail
            have e1 : (ba (Lib.itoa z) ++ { data := #[32] } : ByteArray) = ba (Lib.itoa z ++ [32]) := ba_app _ [32]
            have hsj := hcj.below.size
            have hs4 := hc4.size
            have hws := wstr_call w.heap.size (textL (l.take k) ++ numT (s.nums.take j)) (Lib.itoa z ++ [32]) w4 (hbj.nob hc4) (by omega) (by simp; omega) (by omega)
            rw [← e1] at hws
            refine hws.mono ?_
            rintro e w5 ⟨rfl, hb5, hc5⟩
            have R : NRel s.nums (textL (l.take k)) w.heap.size w2 (.int .i64 ((j : Int) + 1)) w5 := by
              refine ⟨j + 1, by omega, by push_cast; rfl, ?_, ?_, hcj.trans ((BChg.of_nob hc4 (by omega)).trans hc5)⟩
              · rw [HT.out, List.all_append, hfj]; simpa using hf
              · rw [HT.out, numT_snoc, ← List.append_assoc]; exact hb5
            have RR := Lib.hid R
            clear R hws e1
            go_wp2_with fail
            go_roundw
            case rel => exact RR.out
            case measure => simp only [intOf]; omega
          · rw [show decide (-4611686018427387904 ≤ z ∧ z ≤ 4611686018427387904) = false from decide_eq_false hf]
            have hno : allFit l = false := by
              rw [← Bool.not_eq_true]
              intro h
              have h1 := List.all_eq_true.1 (List.all_eq_true.1 h s hsm) z hzm
              exact hf (of_decide_eq_true h1)
            have F : ∀ w', Chg NoB w w' → PPost l w (.returned (.tuple #[.string { data := #[] }, .int .i64 8])) w' := fun w' h => ⟨by rw [hno]; rfl, h⟩
            have hCF : Chg NoB w wr := (hk2.trans hcj).nob hc0 (Nat.le_refl _)
            have FF := Lib.hid (F wr hCF)
            clear F
            go_wp2_with fail
            go_ret2
            exact FF.out
        · obtain rfl : j = 10 := by omega
          have hc10 : wr.cell? ⟨W.heap.size, 10, none⟩ = some (.slice A' s.data.length cap') := (Hp.bcell hbxj 10).trans rfl
          have hRdj : Rd wr .u8 A' s.data := hRd0.chg ((hk2.trans hcj).nob hc0 (Nat.le_refl _)) (fun _ _ _ x => x)
          have hxl : (ScP.hexL s.data).length ≤ 200000 := by rw [ScP.hexL_len]; have := hd s hsm; omega
          go_wp2_with fail
          refine (hex_any A' cap' s.data (hok s hsm) (hd s hsm) wr hRdj).mono ?_
          rintro e w4 ⟨rfl, hc4⟩
          go_wp2_with fail
          have e1 : (ba (120 :: ScP.hexL s.data) ++ { data := #[10] } : ByteArray) = ba ((120 :: ScP.hexL s.data) ++ [10]) := ba_app _ [10]
          have hsj := hcj.below.size
          have hs4 := hc4.size
          have hdl := hd s hsm
          have hws := wstr_call w.heap.size (textL (l.take k) ++ numT (s.nums.take 10)) ((120 :: ScP.hexL s.data) ++ [10]) w4 (hbj.nob hc4) (by omega) (by simp; omega) (by omega)
          rw [← e1] at hws
          refine hws.mono ?_
          rintro e w5 ⟨rfl, hb5, hc5⟩
          have R : PRel l w.heap.size (w.alloc (.cells #[.pointer none, .slice none 0 0] 41)) (.int .i64 ((k : Int) + 1)) w5 := by
            refine ⟨k + 1, by omega, by push_cast; rfl, ?_, ?_, hk2.trans (hcj.trans ((BChg.of_nob hc4 (by omega)).trans hc5))⟩
            · rw [HSK.out]
              unfold allFit at hfit ⊢
              rw [List.all_append, hfit, Bool.true_and, List.all_cons, List.all_nil, Bool.and_true]
              exact hfj
            · rw [HSK.out, textL_snoc]
              rw [List.append_assoc] at hb5
              unfold lineL
              rw [List.append_assoc]
              exact hb5
          have RR := Lib.hid R
          clear R hws e1
          go_wp2_with fail
          go_roundw
          case rel => exact RR.out
          case measure => simp only [intOf]; omega
    · obtain rfl : k = l.length := by omega
      rw [List.take_length] at hbk hfit
      have i1 : ¬ ((l.length : Int) < (l.length : Int)) := by omega
      have hsz := hck.below.size
      go_wp2_with fail
      refine (str_call w.heap.size _ wr hbk (by simp at hsz; omega)).mono ?_
      rintro e w2 ⟨rfl, hb2, hc2⟩
      have F : PPost l w (.returned (.tuple #[.string (ba (textL l)), .int .i64 0])) w2 := ⟨by rw [hfit]; rfl, (hck.trans hc2).nob hc0 (Nat.le_refl _)⟩
      have FF := Lib.hid F
      clear F
      go_wp2_with fail
      go_ret2
      exact FF.out
end Go.Proofs.YtmjnbbdlnplmjaaDoor.Scr
