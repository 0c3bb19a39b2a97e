/- Numbers as bytes: the statement on numbers, where the bytes are there. -/
import Derived.Test.YtkohbmbacdgjaaaWordH
import Derived.Deep.RegionWith
import Derived.Deep.RegionLaw
import Derived.Laws.CopyOwn
import Derived.Deep.DeepCutAuto
namespace Go.Proofs.Ytkohbmbacdgjaaa.Word
open Go.RowKit Go.Proofs.Ytkohbmbacdgjaaa.Hp Go.Proofs.Ytkohbmbacdgjaaa.WordP
set_option linter.unusedVariables false
set_option linter.unusedSimpArgs false
theorem inb_own' {w : World} {base n : Nat} {v : Value} {l : List Int} (h : w.ownsRow base 5 1 v n (l.map (Value.int .u8))) (hn : 0 < n) :
    ∃ g cap C, v = .slice (some ⟨g, 0, none⟩) n cap ∧ base ≤ g ∧ InB w g 0 C 5 l ∧ n ≤ cap ∧ cap ≤ maxLen := by
  obtain ⟨g, cap, C, rfl, hb, hI⟩ := inb_own h hn
  rcases h.2 with ⟨e, _⟩ | ⟨g', cap', cur, e, _, _, h1, h2, _⟩
  · cases e
  · injection e with e1 e2 e3
    subst e3
    exact ⟨g, cap, C, rfl, hb, hI, h1, h2⟩
theorem inb_spl {w w' : World} {g : Nat} {C : Array Value} {T : Nat} {l : List Int} (h : InB w g 0 C T l) (a : Nat) (ds : List Int) (hd : a + ds.length ≤ l.length) (hb : Blk w' g (splA C a (ds.map (Value.int .u8))) T) : InB w' g 0 (splA C a (ds.map (Value.int .u8))) T (spl l a ds) := by
  have hf := h.fit
  have hdm : (ds.map (Value.int .u8)).length = ds.length := List.length_map ..
  have hfit : a + (ds.map (Value.int .u8)).length ≤ C.size := by omega
  refine ⟨hb, by rw [splA_size _ _ _ hfit, spl_length _ _ _ hd]; exact hf, fun j hj => ?_⟩
  rw [spl_length _ _ _ hd] at hj
  rw [Nat.zero_add]
  unfold spl
  by_cases c1 : j < a
  · rw [splA_out _ _ _ hfit _ (.inl c1)]
    have := h.by_ j hj
    rw [Nat.zero_add] at this
    rw [this, List.getD_eq_getElem?_getD, List.getD_eq_getElem?_getD, List.getElem?_append_left (by simp; omega), List.getElem?_append_left (by simp; omega), List.getElem?_take, if_pos c1]
  · by_cases c2 : j < a + ds.length
    · obtain ⟨i, rfl⟩ : ∃ i, j = a + i := ⟨j - a, by omega⟩
      rw [splA_in _ _ _ hfit _ (by omega)]
      rw [List.getD_eq_getElem?_getD, List.getElem?_append_left (by simp; omega), List.getElem?_append_right (by simp; omega)]
      simp [show i < ds.length from by omega, Nat.min_eq_left (show a ≤ l.length by omega)]
    · rw [splA_out _ _ _ hfit _ (.inr (by omega))]
      have := h.by_ j hj
      rw [Nat.zero_add] at this
      rw [this, List.getD_eq_getElem?_getD, List.getD_eq_getElem?_getD, List.getElem?_append_right (by simp; omega), List.getElem?_drop]
      rw [show a + ds.length + (j - (List.take a l ++ ds).length) = j from by simp; omega]
set_option maxHeartbeats 8000000 in
theorem wordNumbers_yes (A : Option Addr) (c : Nat) (l : List Int) (a n : Nat) (v : Int) (w : World) (h : Rd w .u8 A l) (hnil : A = none → c = 0) (hb : Bytes l) (hL : l.length ≤ 1000) (hl0 : 0 < l.length) (hn : n ≤ 8) (han : a + n ≤ l.length) (vv0 : 0 ≤ v) (vv1 : v < 18446744073709551616) :
    Calls Try.prog 7 #[.slice A l.length c, .int .i64 a, .int .i64 n, .int .u64 v] w (RetB true w) := by
  have d1 : decide ((1000 : Int) < (l.length : Int)) = false := decide_eq_false (by omega)
  have m1 : (l.map (Value.int .u8)).length = l.length := List.length_map ..
  have hx1 : ∀ a : Act, a.eval (.tmp 35) = .slice A l.length c → a.eval (.tmp 35) = .slice A (l.map (Value.int .u8)).length c := fun a e => by rw [m1]; exact e
  have hx2 : ∀ a : Act, a.eval (.tmp 60) = .slice A l.length c → a.eval (.tmp 60) = .slice A (l.map (Value.int .u8)).length c := fun a e => by rw [m1]; exact e
  have HX1 := Lib.hid hx1
  have HX2 := Lib.hid hx2
  clear hx1 hx2
  have hown0 := made0 w
  have q1 : ∀ w', Chg NoB w w' → Rd w' .u8 A l := fun w' h' => h.chg h' (fun _ _ _ x => x)
  have hC0 : Chg NoB w (w.alloc (.cells #[] 5)) := (Chg.refl _ _).alloc _
  have gy := get_yes A c l a n w h hb hn han
  have ry := rget_yes A c l a n w h hb hn han
  have SL : (spl l a (digs v n)).length = l.length := spl_length _ _ _ (by rw [digs_length]; exact han)
  have SLH := Lib.hid SL
  clear SL
  generalize leN ((l.drop a).take n) = x at *
  go_enter Try.func7, Try.ntmps7
  go_wp2_with fail
  refine gy.mono ?_
  rintro e w1 ⟨rfl, rfl⟩
  clear gy
  go_wp2_with fail
  refine ry.mono ?_
  rintro e w1 ⟨rfl, rfl⟩
  clear ry
  go_wp2_with (with_reducible refine append_src (w0 := w) (S := NoB) rfl (.tmp 34) (.tmp 35) 37 5 rfl (.int .u8 0) 1 Try.underlying37 info8 rfl (.slice (some ⟨w.heap.size, 0, none⟩) 0 0) 0 [] rfl hC0 hown0 (l.map (Value.int .u8)) A c (HX1.out _ rfl) hnil (rd_src (q1 _ hC0)) (one_u8 l) (by omega) (by omega) ?_; intro v1 w1 hown1 hC1; rw [List.nil_append, Nat.zero_add, m1] at hown1)
  obtain ⟨V, c1, rfl, hput⟩ := put_own _ _ _ l a n v hown1 hL vv0 vv1 hn han
  clear hown1 hown0 hC0 HX1
  refine hput.mono ?_
  rintro e w2 ⟨rfl, R2, hC⟩
  have C2 : Chg NoB w w2 := hC1.trans hC (fun i hi hh => by omega)
  clear hput hC hC1
  go_wp2_with fail
  refine (answers _).mono ?_
  rintro e w3 ⟨rfl, hC⟩
  have R3 : Rd w3 .u8 V (spl l a (digs v n)) := R2.chg hC (fun _ _ _ x => x)
  have C3 : Chg NoB w w3 := C2.trans hC (fun i hi hh => hh)
  clear hC C2 R2
  have hown0 := made0 w3
  have hC0 : Chg NoB w3 (w3.alloc (.cells #[] 5)) := (Chg.refl _ _).alloc _
  have R3' : Rd (w3.alloc (.cells #[] 5)) .u8 A l := q1 _ (C3.alloc _)
  have dx : (x != x) = false := bne_self_eq_false x
  go_wp2_with (with_reducible refine append_src (w0 := w3) (S := NoB) rfl (.tmp 59) (.tmp 60) 37 5 rfl (.int .u8 0) 1 Try.underlying37 info8 rfl (.slice (some ⟨w3.heap.size, 0, none⟩) 0 0) 0 [] rfl hC0 hown0 (l.map (Value.int .u8)) A c (HX2.out _ rfl) hnil (rd_src R3') (one_u8 l) (by omega) (by omega) ?_; intro v4 w4 hown4 hC4; rw [List.nil_append, Nat.zero_add, m1] at hown4)
  obtain ⟨g, cap, C, rfl, hbg, hI, hcap1, hcap2⟩ := inb_own' hown4 hl0
  have hcap3 : cap ≤ 9223372036854775807 := hcap2
  have hal : a ≤ l.length := by omega
  have hbk : ∀ w', Chg NoB w4.drew w' → w'.heap[g]? = some (.cells C.toList.toArray 5 (0, 0)) := fun w' h => by
    have := h.blk (show w4.drew.heap[g]? = _ from hI.bk) (fun x => x)
    simpa using this
  have hbw : ∀ w', Chg NoB w4.drew w' → Below w3.heap.size w3 w' := fun w' h => (hC4.drew.trans h (fun i hi hh => hh)).below (Nat.le_refl _) (fun i hi => absurd hi (fun x => x))
  have dgl : ((digs v n).map (Value.int .u8)).length = n := by rw [List.length_map, digs_length]
  have hfit := hI.fit
  have hin : ((digs v n).map (Value.int .u8)).length = Nat.min n (l.length - a) := by rw [dgl]; exact (Nat.min_eq_left (by omega)).symm
  have hft : a + ((digs v n).map (Value.int .u8)).length ≤ C.toList.length := by rw [dgl, Array.length_toList]; omega
  have hsz1 : (Try.prog.info? 5).map (·.size) = some 1 := by kernel_rfl
  have hp0 : cap = a → ∀ w' A5, Rd w' .u8 A5 (digs v n) → 0 < ((digs v n).map (Value.int .u8)).length → (some ⟨g, 0, none⟩ : Option Addr) = some ⟨g, a, none⟩ ∧ ∃ ad, A5 = some ad ∧ ∀ j u, ((digs v n).map (Value.int .u8))[j]? = some u → w'.cell? (ad.add j) = some u := fun e w' A5 _ h => by rw [dgl] at h; omega
  have hp1 : ∀ w' A5, Rd w' .u8 A5 (digs v n) → 0 < ((digs v n).map (Value.int .u8)).length → (some ⟨g, a, none⟩ : Option Addr) = some ⟨g, a, none⟩ ∧ ∃ ad, A5 = some ad ∧ ∀ j u, ((digs v n).map (Value.int .u8))[j]? = some u → w'.cell? (ad.add j) = some u := fun w' A5 hr h => ⟨rfl, rd_src hr h⟩
  have BK := Lib.hid hbk
  have BW := Lib.hid hbw
  have HIN := Lib.hid hin
  have HFT := Lib.hid hft
  have HP0 := Lib.hid hp0
  have HP1 := Lib.hid hp1
  have II := Lib.hid hI
  clear hown4 hown0 hC0 HX2 R3' hbk hbw dgl hfit hin hft hp0 hp1 hI
  by_cases hca : cap = a
  · go_region_law (first
      | (refine step_copy_splice rfl (.tmp 65) (.tmp 68) 37 37 rfl 5 Try.underlying37 hsz1 (some ⟨g, 0, none⟩) A5 (l.length - a) 0 n c5 (by simp [Act.eval, Act.put]) (by simp [Act.eval, Act.put]) g a C.toList 5 (BK.out _ hC5) ((digs v n).map (Value.int .u8)) HIN.out (HP0.out hca _ _ hr5) HFT.out (one_u8 _) w3.heap.size w3 (BW.out _ hC5) hbg ?_; intro w6 hb6 hB6)
      | (go_simp; refine (rnum_any v n _ vv0 vv1 hn).mono ?_; rintro e w5 ⟨A5, c5, rfl, hr5, hC5⟩; dsimp only))
    have b6 : Blk w6 g (splA C a ((digs v n).map (Value.int .u8))) 5 := by
      have := hb6.out
      simpa [splA, splice, Blk, List.append_assoc] using this
    have I6 := inb_spl II.out a (digs v n) (by rw [digs_length]; exact han) b6
    have R6 := I6.rd (by rw [SLH.out]; omega)
    have K6 : Chg NoB w3 w6 := Chg.of_below hB6
    have RV : Rd w6 .u8 V (spl l a (digs v n)) := R3.chg K6 (fun _ _ _ x => x)
    have C6 : Chg NoB w w6 := C3.trans K6 (fun i hi hh => hh)
    have SM := same_any V (some ⟨g, 0, none⟩) c1 a _ _ w6 RV R6
    rw [SLH.out, decide_eq_true rfl] at SM
    clear hb6 hB6 b6 I6 R6 K6 RV BK BW HIN HFT HP0 HP1 II SLH
    go_wp2_with fail
    refine SM.mono ?_
    rintro e w7 ⟨rfl, hC7⟩
    have C7 : Chg NoB w w7 := C6.trans hC7 (fun i hi hh => hh)
    clear SM hC7 C6
    go_wp2_with fail
    go_ret
    exact ⟨rfl, C7⟩
  · go_region_law (first
      | (refine step_copy_splice rfl (.tmp 65) (.tmp 68) 37 37 rfl 5 Try.underlying37 hsz1 (some ⟨g, a, none⟩) A5 (l.length - a) (cap - a) n c5 (by simp [Act.eval, Act.put]) (by simp [Act.eval, Act.put]) g a C.toList 5 (BK.out _ hC5) ((digs v n).map (Value.int .u8)) HIN.out (HP1.out _ _ hr5) HFT.out (one_u8 _) w3.heap.size w3 (BW.out _ hC5) hbg ?_; intro w6 hb6 hB6)
      | (go_simp; refine (rnum_any v n _ vv0 vv1 hn).mono ?_; rintro e w5 ⟨A5, c5, rfl, hr5, hC5⟩; dsimp only))
    have b6 : Blk w6 g (splA C a ((digs v n).map (Value.int .u8))) 5 := by
      have := hb6.out
      simpa [splA, splice, Blk, List.append_assoc] using this
    have I6 := inb_spl II.out a (digs v n) (by rw [digs_length]; exact han) b6
    have R6 := I6.rd (by rw [SLH.out]; omega)
    have K6 : Chg NoB w3 w6 := Chg.of_below hB6
    have RV : Rd w6 .u8 V (spl l a (digs v n)) := R3.chg K6 (fun _ _ _ x => x)
    have C6 : Chg NoB w w6 := C3.trans K6 (fun i hi hh => hh)
    have SM := same_any V (some ⟨g, 0, none⟩) c1 cap _ _ w6 RV R6
    rw [SLH.out, decide_eq_true rfl] at SM
    clear hb6 hB6 b6 I6 R6 K6 RV BK BW HIN HFT HP0 HP1 II SLH
    go_wp2_with fail
    refine SM.mono ?_
    rintro e w7 ⟨rfl, hC7⟩
    have C7 : Chg NoB w w7 := C6.trans hC7 (fun i hi hh => hh)
    clear SM hC7 C6
    go_wp2_with fail
    go_ret
    exact ⟨rfl, C7⟩
end Go.Proofs.Ytkohbmbacdgjaaa.Word
