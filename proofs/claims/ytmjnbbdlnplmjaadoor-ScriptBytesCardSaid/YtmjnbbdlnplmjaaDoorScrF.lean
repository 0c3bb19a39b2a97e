/- Chapter 25: a line as a step. -/
import Derived.Test.YtmjnbbdlnplmjaaDoorScrE
import Derived.Deep.RegionHeld3
import Derived.Lib.Split
namespace Go.Proofs.YtmjnbbdlnplmjaaDoor.Scr
open Go.RowKit
open Hp (Chg Blk NoB blt Rd)
set_option linter.unusedVariables false
set_option linter.unusedSimpArgs false
/-- a line without its end -/
def lineC (s : St) : List UInt8 := numT s.nums ++ (120 :: ScP.hexL s.data)
def piecesL (s : St) : List (List UInt8) := s.nums.map Lib.itoa ++ [120 :: ScP.hexL s.data]
theorem joinC_nums : ∀ (ns : List Int) (e : List UInt8), ∀ n, ScP.joinC 32 (Lib.itoa n) (ns.map Lib.itoa ++ [e]) = numT (n :: ns) ++ e
  | [], e, n => by simp [ScP.joinC, numT]
  | m :: ns, e, n => by
    have ih := joinC_nums ns e m
    show Lib.itoa n ++ 32 :: ScP.joinC 32 (Lib.itoa m) (ns.map Lib.itoa ++ [e]) = _
    rw [ih]
    simp [numT]
theorem itoa_nosp (n : Int) : (32 : UInt8) ∉ Lib.itoa n := fun h => by
  rcases ScP.itoa_mem n 32 h with ⟨h1, h2⟩ | h1
  · exact absurd h1 (by decide)
  · exact absurd h1 (by decide)
theorem hexL_no (zs : List Int) (hz : ∀ z, z ∈ zs → 0 ≤ z ∧ z < 256) (c : UInt8) (hc : c ∉ ScP.digitsL) (h2 : c ≠ 120) : c ∉ (120 :: ScP.hexL zs) := fun h => by
  rcases List.mem_cons.1 h with h | h
  · exact h2 h
  · exact hc (ScP.hexL_mem hz h)
theorem pieces_nosp (s : St) (hs : s.ok) : ∀ q, q ∈ piecesL s → (32 : UInt8) ∉ q := fun q hq => by
  rcases List.mem_append.1 hq with h | h
  · obtain ⟨n, _, rfl⟩ := List.mem_map.1 h
    exact itoa_nosp n
  · rw [List.mem_singleton.1 h]
    exact hexL_no _ hs 32 (by decide) (by decide)
theorem line_join (s : St) : lineC s = ScP.joinC 32 (Lib.itoa s.k) (([s.a, s.b, s.c, s.fr, s.pg, s.wn, s.ak, s.fl, s.off].map Lib.itoa) ++ [120 :: ScP.hexL s.data]) :=
  (joinC_nums [s.a, s.b, s.c, s.fr, s.pg, s.wn, s.ak, s.fl, s.off] _ s.k).symm
theorem line_count (s : St) (hs : s.ok) : (lineC s).count 32 = 10 := by
  rw [line_join]
  exact (ScP.count_join 32 (([s.a, s.b, s.c, s.fr, s.pg, s.wn, s.ak, s.fl, s.off].map Lib.itoa) ++ [120 :: ScP.hexL s.data]) (Lib.itoa s.k) (pieces_nosp s hs)).trans rfl
theorem line_split (s : St) (hs : s.ok) : (Lib.splitB (ba [32]) 0 10 (ba (lineC s))) = (piecesL s).map ba := by
  have h1 := Lib.splitB_data (ba [32]) 0 10 (ba (lineC s))
  have h2 : Lib.splitK [32] 0 10 (lineC s) = piecesL s := by
    rw [line_join]
    exact ScP.split_join 32 (([s.a, s.b, s.c, s.fr, s.pg, s.wn, s.ak, s.fl, s.off].map Lib.itoa) ++ [120 :: ScP.hexL s.data]) (Lib.itoa s.k) (pieces_nosp s hs)
  have h3 : (Lib.splitB (ba [32]) 0 10 (ba (lineC s))).map (·.data.toList) = piecesL s := by
    rw [h1]; simpa using h2
  have h4 : ∀ l : List ByteArray, (l.map (·.data.toList)).map ba = l := fun l => by
    rw [List.map_map]
    conv => rhs; rw [← List.map_id l]
    apply List.map_congr_left
    intro b _
    apply ByteArray.ext
    simp
  rw [← h3, h4]
def strs (s : St) : Array Value := ((piecesL s).map (fun p => Value.string (ba p))).toArray
theorem split_line (s : St) (hs : s.ok) (hl : (lineC s).length ≤ 1000000) (w : World) (hG : Glo w) :
    Calls Tryd.prog 27 #[.string (ba (lineC s)), .string (ba [32])] w fun e w' =>
      e = .returned (.slice (some ⟨w.heap.size, 0, none⟩) 11 11) ∧ w' = w.alloc (.cells (strs s) 9) :=
  (split_call (lineC s) 32 hl w hG).mono fun e w' ⟨he, hw⟩ => by
    rw [line_count s hs] at he hw
    rw [line_split s hs, List.map_map] at hw
    exact ⟨he, hw⟩
theorem strs_num (s : St) (j : Nat) (h : j < 10) : (strs s)[j]? = some (.string (ba (Lib.itoa (s.nums.getD j 0)))) := by
  match j, h with
  | 0, _ => rfl | 1, _ => rfl | 2, _ => rfl | 3, _ => rfl | 4, _ => rfl | 5, _ => rfl | 6, _ => rfl | 7, _ => rfl | 8, _ => rfl | 9, _ => rfl
theorem strs_data (s : St) : (strs s)[10]? = some (.string (ba (120 :: ScP.hexL s.data))) := rfl
def SPost (s : St) (w : World) (e : Ending) (w' : World) : Prop := Chg NoB w w' ∧ ∃ A c, e = .returned (.tuple #[.agg (s.cells (.slice A s.data.length c)), .bool true]) ∧ Rd w' .u8 A s.data ∧ ∀ ad, A = some ad → w.heap.size ≤ ad.block
def z37 : Array Value := #[.int .i64 0, .int .i64 0, .int .i64 0, .int .i64 0, .int .i64 0, .int .i64 0, .bool false, .int .i64 0, .int .i64 0, .int .i64 0, .slice none 0 0]
def z10 : Array Value := #[.int .i64 0, .int .i64 0, .int .i64 0, .int .i64 0, .int .i64 0, .int .i64 0, .int .i64 0, .int .i64 0, .int .i64 0, .int .i64 0]
theorem blk11 {w : World} {g : Nat} {s : St} {v : Value} {T : Nat} (h : Blk w g (s.cells v) T) : w.cell? ⟨g, 0, none⟩ = some (.int .i64 s.k) ∧ w.cell? ⟨g, 1, none⟩ = some (.int .i64 s.a) ∧ w.cell? ⟨g, 2, none⟩ = some (.int .i64 s.b) ∧ w.cell? ⟨g, 3, none⟩ = some (.int .i64 s.c) ∧ w.cell? ⟨g, 4, none⟩ = some (.int .i64 s.fr) ∧ w.cell? ⟨g, 5, none⟩ = some (.int .i64 s.pg) ∧ w.cell? ⟨g, 6, none⟩ = some (.bool s.wr) ∧ w.cell? ⟨g, 7, none⟩ = some (.int .i64 s.ak) ∧ w.cell? ⟨g, 8, none⟩ = some (.int .i64 s.fl) ∧ w.cell? ⟨g, 9, none⟩ = some (.int .i64 s.off) ∧ w.cell? ⟨g, 10, none⟩ = some v := by
  refine ⟨?_, ?_, ?_, ?_, ?_, ?_, ?_, ?_, ?_, ?_, ?_⟩ <;> exact (Hp.bcell (w := w) h _).trans rfl
theorem blk11z {w : World} {g : Nat} {T : Nat} (h : Blk w g z37 T) : w.cell? ⟨g, 0, none⟩ = some (.int .i64 0) ∧ w.cell? ⟨g, 1, none⟩ = some (.int .i64 0) ∧ w.cell? ⟨g, 2, none⟩ = some (.int .i64 0) ∧ w.cell? ⟨g, 3, none⟩ = some (.int .i64 0) ∧ w.cell? ⟨g, 4, none⟩ = some (.int .i64 0) ∧ w.cell? ⟨g, 5, none⟩ = some (.int .i64 0) ∧ w.cell? ⟨g, 6, none⟩ = some (.bool false) ∧ w.cell? ⟨g, 7, none⟩ = some (.int .i64 0) ∧ w.cell? ⟨g, 8, none⟩ = some (.int .i64 0) ∧ w.cell? ⟨g, 9, none⟩ = some (.int .i64 0) ∧ w.cell? ⟨g, 10, none⟩ = some (.slice none 0 0) := by
  refine ⟨?_, ?_, ?_, ?_, ?_, ?_, ?_, ?_, ?_, ?_, ?_⟩ <;> exact (Hp.bcell (w := w) h _).trans rfl
theorem results_ct {P : Program} {fn : Func} {p u : Tmp} {ty : TypeId} (h : fn.results = #[.cell p ty, .tmp u]) (tmps : Array Value) (w : World) (g : Nat) (t : TypeId) (cs : Array Value) (fr : Nat × Nat) (d : TypeDesc)
    (hp : tmps.getD p undef = .pointer (some ⟨g, 0, none⟩)) (hg : w.heap[g]? = some (.cells cs t fr))
    (hu : P.underlying ty = some d) (hd : (match d with | .struct _ | .array _ _ => true | _ => false) = true) (hi : (P.info? ty).map (·.size) = some cs.size) :
    (results fn tmps).run P w = .ok (.tuple #[.agg cs, tmps.getD u undef]) w := by
  have hp' : tmps[p]?.getD undef = .pointer (some ⟨g, 0, none⟩) := by simpa using hp
  simp [results, h, hp', asAddr, run_loadVar_row w g t ty cs fr d hg hu hd hi]
theorem bsetL {w : World} {g : Nat} {l : List Value} {T : Nat} (h : w.heap[g]? = some (.cells l.toArray T (0, 0))) (j : Nat) (v : Value) (l' : List Value) (e : l.set j v = l') : (w.setCell ⟨g, j, none⟩ v).heap[g]? = some (.cells l'.toArray T (0, 0)) := by
  have h1 := Hp.bset (C := l.toArray) h j v
  rw [List.setIfInBounds_toArray, e] at h1
  exact h1
theorem blk_sets {w : World} {g : Nat} {T : Nat} (h : Blk w g z37 T) (s : St) (v : Value) : Blk (((((((((((w.setCell ⟨g, 0, none⟩ (.int .i64 s.k)).setCell ⟨g, 1, none⟩ (.int .i64 s.a)).setCell ⟨g, 2, none⟩ (.int .i64 s.b)).setCell ⟨g, 3, none⟩ (.int .i64 s.c)).setCell ⟨g, 4, none⟩ (.int .i64 s.fr)).setCell ⟨g, 5, none⟩ (.int .i64 s.pg)).setCell ⟨g, 6, none⟩ (.bool s.wr)).setCell ⟨g, 7, none⟩ (.int .i64 s.ak)).setCell ⟨g, 8, none⟩ (.int .i64 s.fl)).setCell ⟨g, 9, none⟩ (.int .i64 s.off)).setCell ⟨g, 10, none⟩ (v)).drew g (s.cells v) T := by
  have h0 : w.heap[g]? = some (.cells [.int .i64 0, .int .i64 0, .int .i64 0, .int .i64 0, .int .i64 0, .int .i64 0, .bool false, .int .i64 0, .int .i64 0, .int .i64 0, .slice none 0 0].toArray T (0, 0)) := h
  have h1 := bsetL h0 0 (.int .i64 s.k) [.int .i64 s.k, .int .i64 0, .int .i64 0, .int .i64 0, .int .i64 0, .int .i64 0, .bool false, .int .i64 0, .int .i64 0, .int .i64 0, .slice none 0 0] rfl
  have h2 := bsetL h1 1 (.int .i64 s.a) [.int .i64 s.k, .int .i64 s.a, .int .i64 0, .int .i64 0, .int .i64 0, .int .i64 0, .bool false, .int .i64 0, .int .i64 0, .int .i64 0, .slice none 0 0] rfl
  have h3 := bsetL h2 2 (.int .i64 s.b) [.int .i64 s.k, .int .i64 s.a, .int .i64 s.b, .int .i64 0, .int .i64 0, .int .i64 0, .bool false, .int .i64 0, .int .i64 0, .int .i64 0, .slice none 0 0] rfl
  have h4 := bsetL h3 3 (.int .i64 s.c) [.int .i64 s.k, .int .i64 s.a, .int .i64 s.b, .int .i64 s.c, .int .i64 0, .int .i64 0, .bool false, .int .i64 0, .int .i64 0, .int .i64 0, .slice none 0 0] rfl
  have h5 := bsetL h4 4 (.int .i64 s.fr) [.int .i64 s.k, .int .i64 s.a, .int .i64 s.b, .int .i64 s.c, .int .i64 s.fr, .int .i64 0, .bool false, .int .i64 0, .int .i64 0, .int .i64 0, .slice none 0 0] rfl
  have h6 := bsetL h5 5 (.int .i64 s.pg) [.int .i64 s.k, .int .i64 s.a, .int .i64 s.b, .int .i64 s.c, .int .i64 s.fr, .int .i64 s.pg, .bool false, .int .i64 0, .int .i64 0, .int .i64 0, .slice none 0 0] rfl
  have h7 := bsetL h6 6 (.bool s.wr) [.int .i64 s.k, .int .i64 s.a, .int .i64 s.b, .int .i64 s.c, .int .i64 s.fr, .int .i64 s.pg, .bool s.wr, .int .i64 0, .int .i64 0, .int .i64 0, .slice none 0 0] rfl
  have h8 := bsetL h7 7 (.int .i64 s.ak) [.int .i64 s.k, .int .i64 s.a, .int .i64 s.b, .int .i64 s.c, .int .i64 s.fr, .int .i64 s.pg, .bool s.wr, .int .i64 s.ak, .int .i64 0, .int .i64 0, .slice none 0 0] rfl
  have h9 := bsetL h8 8 (.int .i64 s.fl) [.int .i64 s.k, .int .i64 s.a, .int .i64 s.b, .int .i64 s.c, .int .i64 s.fr, .int .i64 s.pg, .bool s.wr, .int .i64 s.ak, .int .i64 s.fl, .int .i64 0, .slice none 0 0] rfl
  have h10 := bsetL h9 9 (.int .i64 s.off) [.int .i64 s.k, .int .i64 s.a, .int .i64 s.b, .int .i64 s.c, .int .i64 s.fr, .int .i64 s.pg, .bool s.wr, .int .i64 s.ak, .int .i64 s.fl, .int .i64 s.off, .slice none 0 0] rfl
  have h11 := bsetL h10 10 (v) [.int .i64 s.k, .int .i64 s.a, .int .i64 s.b, .int .i64 s.c, .int .i64 s.fr, .int .i64 s.pg, .bool s.wr, .int .i64 s.ak, .int .i64 s.fl, .int .i64 s.off, v] rfl
  clear h0 h1 h2 h3 h4 h5 h6 h7 h8 h9 h10 h
  generalize (World.setCell _ _ _) = W at *
  exact ((Chg.refl NoB W).drew).blk h11 (fun x => x)
def SRel (s : St) (an : Nat) (W1 : World) (i : Value) (wr : World) : Prop := ∃ k : Nat, k ≤ 10 ∧ i = .int .i64 k ∧ Chg (· = an) W1 wr ∧ ∃ C, Blk wr an C 61 ∧ C.size = 10 ∧ ∀ j, j < k → C[j]? = some (.int .i64 (s.nums.getD j 0))
set_option maxRecDepth 100000 in
set_option maxHeartbeats 4000000 in
theorem step_any (s : St) (hs : s.ok) (hfit : ∀ n, n ∈ s.nums → fitP n) (hd : s.data.length ≤ 100000) (w : World) (hG : Glo w) :
    Calls Tryd.prog 20 #[.string (ba (lineC s))] w (SPost s w) := by
  have hll : (lineC s).length ≤ 1000000 := by
    have h1 := numT_len s.nums hfit
    have h2 : s.nums.length = 10 := rfl
    unfold lineC
    rw [List.length_append, List.length_cons, ScP.hexL_len]
    omega
  go_enter Tryd.func20, Tryd.ntmps20
  go_wp2_with fail
  have hGa : Glo (w.alloc (.cells z37 37)) := hG.nob ((Chg.refl _ _).alloc _)
  refine (split_line s hs hll _ hGa).mono ?_
  rintro e w1 ⟨rfl, hw1⟩
  rw [hw1]
  clear hw1 w1
  go_wp2_with fail
  have hsz0 : (((w.alloc (.cells z37 37)).alloc (.cells (strs s) 9)).alloc (.cells z10 61)).heap.size = w.heap.size + 3 := by simp
  have hb0 : Blk (((w.alloc (.cells z37 37)).alloc (.cells (strs s) 9)).alloc (.cells z10 61)) w.heap.size z37 37 := Hp.balloc (Hp.balloc (Hp.bnew w _) _) _
  have hb1 : Blk (((w.alloc (.cells z37 37)).alloc (.cells (strs s) 9)).alloc (.cells z10 61)) (w.heap.size + 1) (strs s) 9 := Hp.balloc (Hp.bnew' (by simp) _) _
  have hb2 : Blk (((w.alloc (.cells z37 37)).alloc (.cells (strs s) 9)).alloc (.cells z10 61)) (w.heap.size + 1 + 1) z10 61 := Hp.bnew' (by simp) _
  have hC0 : Chg NoB w (((w.alloc (.cells z37 37)).alloc (.cells (strs s) 9)).alloc (.cells z10 61)) := (((Chg.refl _ _).alloc _).alloc _).alloc _
  go_loopw [18] (fun i wr => SRel s (w.heap.size + 1 + 1) (((w.alloc (.cells z37 37)).alloc (.cells (strs s) 9)).alloc (.cells z10 61)) i wr) (fun i wr => 10 - (intOf i).toNat)
  case atStart => exact ⟨0, by omega, rfl, Chg.refl _ _, z10, hb2, rfl, fun j hj => absurd hj (by omega)⟩
  case round =>
    generalize (((w.alloc (.cells z37 37)).alloc (.cells (strs s) 9)).alloc (.cells z10 61)) = W1 at *
    obtain ⟨k, hk, rfl, hC, C, hbC, hCs, hCv⟩ := hrel
    have hbS : Blk wr (w.heap.size + 1) (strs s) 9 := hC.blk hb1 (by omega)
    have hbR : Blk wr w.heap.size z37 37 := hC.blk hb0 (by omega)
    have hCw : Chg NoB w wr := hC0.trans hC (fun i hi e => by have : i = w.heap.size + 1 + 1 := e; omega)
    have hGr : Glo wr := hG.nob hCw
    have hszr := hC.size
    by_cases hlt : k < 10
    · have hcell := (Hp.bcell hbS k).trans (strs_num s k hlt)
      have hkl : k < s.nums.length := hlt
      have hzm : s.nums.getD k 0 ∈ s.nums := by rw [List.getD_eq_getElem?_getD, List.getElem?_eq_getElem hkl]; simp
      have hz := hfit _ hzm
      have hnx : ∀ C' : Array Value, C' = C.setIfInBounds k (.int .i64 (s.nums.getD k 0)) → ∀ j, j < k + 1 → C'[j]? = some (.int .i64 (s.nums.getD j 0)) := by
        intro C' e j hj
        rw [e]
        by_cases hjk : j = k
        · subst hjk; rw [Array.getElem?_setIfInBounds_self_of_lt (by omega)]
        · rw [Array.getElem?_setIfInBounds_ne (by omega)]; exact hCv j (by omega)
      have HN := Lib.hid hnx
      clear hnx hCv
      generalize s.nums.getD k 0 = z at *
      unfold fitP at hz
      obtain ⟨hz0, hz1⟩ := hz
      have hil := Lib.itoa_length_le z (by omega) (by omega)
      have i1 : (k : Int) < 10 := by omega
      have i2 : (k : Int) < 11 := by omega
      have i3 : 0 ≤ (k : Int) := by omega
      have i4 : k < 11 := by omega
      go_wp2_with fail
      refine (atoi_call (Lib.itoa z) (by omega) z (ScP.atoi_itoa z (by omega) (by omega)) wr).mono ?_
      rintro e w2 ⟨rfl, hc2⟩
      have hcell2 : w2.cell? ⟨w.heap.size + 1, k, none⟩ = some (.string (ba (Lib.itoa z))) := hc2.cell hcell (fun x => x)
      have hG2 := hGr.nob hc2
      have hbC2 := hc2.blk hbC (fun x => x)
      have hit := itoa_call z (by omega) (by omega) w2.drew (hG2.nob ((Chg.refl _ _).drew))
      have hft := fits_any z
      rw [show decide (-4611686018427387904 ≤ z ∧ z ≤ 4611686018427387904) = true from decide_eq_true ⟨hz0, hz1⟩] at hft
      go_wp2_with fail
      go_region_held3 (fun w' => w'.cell? ⟨w.heap.size + 1, k, none⟩ = some (.string (ba (Lib.itoa z)))) (first | go_keep | exact hc3.cell (by assumption) (fun x => x) | exact hcell2)
        (first | (go_at_call 15; ((with_reducible refine hit.mono ?_); rintro e w3 ⟨rfl, hc3⟩)) | (go_at_call 13; ((with_reducible refine (hft _).mono ?_); rintro e w4 ⟨rfl, rfl⟩)))
      all_goals
        have hC4 : Chg NoB w2 w4 := ((Chg.refl NoB w2).drew).trans hc3 (fun _ _ h => h)
        have hbC4 : Blk w4 (w.heap.size + 1 + 1) C 61 := hC4.blk hbC2 (fun x => x)
        have hck : w4.cell? ⟨w.heap.size + 1 + 1, k, none⟩ = some (C[k]'(by omega)) := (Hp.bcell hbC4 k).trans (Array.getElem?_eq_getElem (by omega))
        have hfk := Hp.bfroz hbC4 k
        have R : SRel s (w.heap.size + 1 + 1) W1 (.int .i64 ((k : Int) + 1)) (w4.setCell ⟨w.heap.size + 1 + 1, k, none⟩ (.int .i64 z)) := by
          refine ⟨k + 1, by omega, by push_cast; rfl, ?_, C.setIfInBounds k (.int .i64 z), Hp.bset hbC4 k _, by simpa using hCs, HN.out _ rfl⟩
          exact (hC.trans (hc2.trans hC4 (fun _ _ h => h)) (fun _ _ h => h.elim)).set (.inl rfl) _
        have RR := Lib.hid R
        clear R hC4 hc3 hC HN
        go_wp2_with fail
        go_roundw
        case rel => exact RR.out
        case measure => simp only [intOf]; omega
    · obtain rfl : k = 10 := by omega
      have hcell := (Hp.bcell hbS 10).trans (strs_data s)
      have hby := bytes_any s.data hs hd wr
      have i1 : ¬ ((10 : Int) < 10) := by omega
      go_wp2_with fail
      refine hby.mono ?_
      rintro e w2 ⟨hc2, A, c, rfl, hRd, hAn⟩
      clear hby
      have hbC2 : Blk w2 (w.heap.size + 1 + 1) C 61 := hc2.blk hbC (fun x => x)
      have hbR2 : Blk w2 w.heap.size z37 37 := hc2.blk hbR (fun x => x)
      have hcv : ∀ j, j < 10 → w2.cell? ⟨w.heap.size + 1 + 1, j, none⟩ = some (.int .i64 (s.nums.getD j 0)) := fun j hj => (Hp.bcell hbC2 j).trans (hCv j hj)
      have n0 : w2.cell? ⟨w.heap.size + 1 + 1, 0, none⟩ = some (.int .i64 s.k) := hcv 0 (by omega)
      have n1 : w2.cell? ⟨w.heap.size + 1 + 1, 1, none⟩ = some (.int .i64 s.a) := hcv 1 (by omega)
      have n2 : w2.cell? ⟨w.heap.size + 1 + 1, 2, none⟩ = some (.int .i64 s.b) := hcv 2 (by omega)
      have n3 : w2.cell? ⟨w.heap.size + 1 + 1, 3, none⟩ = some (.int .i64 s.c) := hcv 3 (by omega)
      have n4 : w2.cell? ⟨w.heap.size + 1 + 1, 4, none⟩ = some (.int .i64 s.fr) := hcv 4 (by omega)
      have n5 : w2.cell? ⟨w.heap.size + 1 + 1, 5, none⟩ = some (.int .i64 s.pg) := hcv 5 (by omega)
      have n6 : w2.cell? ⟨w.heap.size + 1 + 1, 6, none⟩ = some (.int .i64 s.wn) := hcv 6 (by omega)
      have n7 : w2.cell? ⟨w.heap.size + 1 + 1, 7, none⟩ = some (.int .i64 s.ak) := hcv 7 (by omega)
      have n8 : w2.cell? ⟨w.heap.size + 1 + 1, 8, none⟩ = some (.int .i64 s.fl) := hcv 8 (by omega)
      have n9 : w2.cell? ⟨w.heap.size + 1 + 1, 9, none⟩ = some (.int .i64 s.off) := hcv 9 (by omega)
      have hsz2 := hc2.size
      have hCw2 : Chg NoB w w2 := hCw.trans hc2 (fun _ _ h => h)
      clear hcv hcell hCv
      have up : ∀ (o : Obj) (j : Nat) (v : Value), w2.cell? ⟨w.heap.size + 1 + 1, j, none⟩ = some v → (w2.alloc o).cell? ⟨w.heap.size + 1 + 1, j, none⟩ = some v := fun o j v h => ((Chg.refl NoB w2).alloc o).cell h (fun x => x)
      have m4 := up (.cells #[.int .i64 s.k, .int .i64 s.a, .int .i64 s.b, .int .i64 s.c, .int .i64 0, .int .i64 0, .bool false, .int .i64 0, .int .i64 0, .int .i64 0, .slice A s.data.length c] 37) 4 _ n4
      have m5 := up (.cells #[.int .i64 s.k, .int .i64 s.a, .int .i64 s.b, .int .i64 s.c, .int .i64 0, .int .i64 0, .bool false, .int .i64 0, .int .i64 0, .int .i64 0, .slice A s.data.length c] 37) 5 _ n5
      have m6 := up (.cells #[.int .i64 s.k, .int .i64 s.a, .int .i64 s.b, .int .i64 s.c, .int .i64 0, .int .i64 0, .bool false, .int .i64 0, .int .i64 0, .int .i64 0, .slice A s.data.length c] 37) 6 _ n6
      have m7 := up (.cells #[.int .i64 s.k, .int .i64 s.a, .int .i64 s.b, .int .i64 s.c, .int .i64 0, .int .i64 0, .bool false, .int .i64 0, .int .i64 0, .int .i64 0, .slice A s.data.length c] 37) 7 _ n7
      have m8 := up (.cells #[.int .i64 s.k, .int .i64 s.a, .int .i64 s.b, .int .i64 s.c, .int .i64 0, .int .i64 0, .bool false, .int .i64 0, .int .i64 0, .int .i64 0, .slice A s.data.length c] 37) 8 _ n8
      have m9 := up (.cells #[.int .i64 s.k, .int .i64 s.a, .int .i64 s.b, .int .i64 s.c, .int .i64 0, .int .i64 0, .bool false, .int .i64 0, .int .i64 0, .int .i64 0, .slice A s.data.length c] 37) 9 _ n9
      clear up
      have hwn : (s.wn == 1) = s.wr := by unfold St.wn; cases s.wr <;> rfl
      have hb5 : Blk (w2.alloc (.cells (s.cells (.slice A s.data.length c)) 37)) w2.heap.size (s.cells (.slice A s.data.length c)) 37 := Hp.bnew w2 _
      have hC5 : Chg NoB w2 (w2.alloc (.cells (s.cells (.slice A s.data.length c)) 37)) := (Chg.refl _ _).alloc _
      have k6 : (w2.alloc (.cells (s.cells (.slice A s.data.length c)) 37)).cell? ⟨w.heap.size + 1 + 1, 6, none⟩ = some (.int .i64 s.wn) := hC5.cell n6 (fun x => x)
      have hbR5 : Blk (w2.alloc (.cells (s.cells (.slice A s.data.length c)) 37)) w.heap.size z37 37 := hC5.blk hbR2 (fun x => x)
      have hwn0 : 0 ≤ s.wn := by unfold St.wn; split <;> decide
      have hwn1 : s.wn ≤ 1 := by unfold St.wn; split <;> decide
      go_wp2_with fail
      clear m4 m5 m6 m7 m8 m9 n0 n1 n2 n3 n4 n5 n6 n7 n8 n9
      generalize (w2.alloc (.cells (s.cells (.slice A s.data.length c)) 37)) = w5 at *
      obtain ⟨q0, q1, q2, q3, q4, q5, q6, q7, q8, q9, q10⟩ := blk11 hb5
      have f0 := Hp.bfroz hbR5 0
      have f1 := Hp.bfroz hbR5 1
      have f2 := Hp.bfroz hbR5 2
      have f3 := Hp.bfroz hbR5 3
      have f4 := Hp.bfroz hbR5 4
      have f5 := Hp.bfroz hbR5 5
      have f6 := Hp.bfroz hbR5 6
      have f7 := Hp.bfroz hbR5 7
      have f8 := Hp.bfroz hbR5 8
      have f9 := Hp.bfroz hbR5 9
      have f10 := Hp.bfroz hbR5 10
      obtain ⟨r0, r1, r2, r3, r4, r5, r6, r7, r8, r9, r10⟩ := blk11z hbR5
      go_region
      have hb6 := blk_sets hbR5 s (.slice A s.data.length c)
      have hC5' : Chg (· = w.heap.size) w2 w5 := hC5.mono (fun _ _ h => h.elim)
      have hC6 : Chg (· = w.heap.size) w2 (((((((((((w5.setCell ⟨w.heap.size, 0, none⟩ (.int .i64 s.k)).setCell ⟨w.heap.size, 1, none⟩ (.int .i64 s.a)).setCell ⟨w.heap.size, 2, none⟩ (.int .i64 s.b)).setCell ⟨w.heap.size, 3, none⟩ (.int .i64 s.c)).setCell ⟨w.heap.size, 4, none⟩ (.int .i64 s.fr)).setCell ⟨w.heap.size, 5, none⟩ (.int .i64 s.pg)).setCell ⟨w.heap.size, 6, none⟩ (.bool s.wr)).setCell ⟨w.heap.size, 7, none⟩ (.int .i64 s.ak)).setCell ⟨w.heap.size, 8, none⟩ (.int .i64 s.fl)).setCell ⟨w.heap.size, 9, none⟩ (.int .i64 s.off)).setCell ⟨w.heap.size, 10, none⟩ (.slice A s.data.length c)).drew := (((((((((((hC5'.set (.inl rfl) _).set (.inl rfl) _).set (.inl rfl) _).set (.inl rfl) _).set (.inl rfl) _).set (.inl rfl) _).set (.inl rfl) _).set (.inl rfl) _).set (.inl rfl) _).set (.inl rfl) _).set (.inl rfl) _).drew
      have F : SPost s w (.returned (.tuple #[.agg (s.cells (.slice A s.data.length c)), .bool true])) (((((((((((w5.setCell ⟨w.heap.size, 0, none⟩ (.int .i64 s.k)).setCell ⟨w.heap.size, 1, none⟩ (.int .i64 s.a)).setCell ⟨w.heap.size, 2, none⟩ (.int .i64 s.b)).setCell ⟨w.heap.size, 3, none⟩ (.int .i64 s.c)).setCell ⟨w.heap.size, 4, none⟩ (.int .i64 s.fr)).setCell ⟨w.heap.size, 5, none⟩ (.int .i64 s.pg)).setCell ⟨w.heap.size, 6, none⟩ (.bool s.wr)).setCell ⟨w.heap.size, 7, none⟩ (.int .i64 s.ak)).setCell ⟨w.heap.size, 8, none⟩ (.int .i64 s.fl)).setCell ⟨w.heap.size, 9, none⟩ (.int .i64 s.off)).setCell ⟨w.heap.size, 10, none⟩ (.slice A s.data.length c)).drew := by
        refine ⟨hCw2.trans hC6 (fun i hi e => by have : i = w.heap.size := e; omega), A, c, rfl, hRd.chg hC6 (fun _ ad e x => ?_), fun ad e => by have := hAn ad e; omega⟩
        have : ad.block = w.heap.size := x
        have := hAn ad e
        omega
      have FF := Lib.hid F
      clear F hC6 hC5'
      go_wp2_with fail
      refine bodyPost_ret (results_ct rfl _ _ w.heap.size 37 (s.cells (.slice A s.data.length c)) (0, 0) _ rfl hb6 Tryd.underlying37 rfl (by kernel_rfl)) rfl ?_
      exact FF.out
end Go.Proofs.YtmjnbbdlnplmjaaDoor.Scr
