/- Chapter 25: fits, numbers, Hex of the program. -/
import Derived.Test.YtmjnbbdlnplmjaaDoorScr
import Derived.RowKit3
import Derived.RowKitTokens
namespace Go.Proofs.YtmjnbbdlnplmjaaDoor.Scr
open Go.RowKit
open Hp (Chg Blk NoB blt Rd)
set_option linter.unusedVariables false
set_option linter.unusedSimpArgs false
theorem Bld.nob {b : Nat} {l : List UInt8} {w w' : World} (h : Bld b l w) (hc : Chg NoB w w') : Bld b l w' := by
  have key : ∀ p, Lib.BuilderAtF 41 5 b b p (Lib.byteCells l) w → Lib.BuilderAtF 41 5 b b p (Lib.byteCells l) w' := by
    rintro p ⟨h1, v, hb, ⟨hn, hrow⟩, hne⟩
    refine ⟨h1, v, hc.blk hb (fun e => e), ⟨hn, ?_⟩, hne⟩
    rcases hrow with h0 | ⟨g, cap, cur, fz, e1, e2, e3, e4⟩
    · exact .inl h0
    · exact .inr ⟨g, cap, cur, fz, e1, e2, hc.blk e3 (fun e => e), e4⟩
  rcases h with h | h
  · exact .inl (key _ h)
  · exact .inr (key _ h)
theorem Bld.new (w : World) : Bld w.heap.size [] (w.alloc (.cells #[.pointer none, .slice none 0 0] 41)) :=
  .inl ⟨Nat.le_refl _, .slice none 0 0, Hp.bnew w _, World.ownsRowF_nil _ _ _ _, by simp [Value.ownBlock]⟩
theorem wb_call (b : Nat) (l : List UInt8) (z : Int) (h0 : 0 ≤ z) (h1 : z < 256) (w : World) (h : Bld b l w) (hl : l.length ≤ 1000000) (hb : b ≤ w.heap.size) :
    Calls Tryd.prog 25 #[.pointer (some ⟨b, 0, none⟩), .int .u8 z] w fun e w' => e = .returned .nilIface ∧ Bld b (l ++ [UInt8.ofNat z.toNat]) w' ∧ BChg b w w' := by
  have hz : (((UInt8.ofNat z.toNat).toNat : Nat) : Int) = z := by
    rw [UInt8.toNat_ofNat']; omega
  have := wbyte_call b l (UInt8.ofNat z.toNat) w h hl hb
  rw [hz] at this
  exact this
theorem fits_any (n : Int) (w : World) :
    Calls Tryd.prog 13 #[.int .i64 n] w fun e w' => e = .returned (.bool (decide (-4611686018427387904 ≤ n ∧ n ≤ 4611686018427387904))) ∧ w' = w := by
  by_cases h1 : -4611686018427387904 ≤ n
  · have d1 : decide (n ≥ -4611686018427387904) = true := decide_eq_true h1
    by_cases h2 : n ≤ 4611686018427387904
    · have d2 : decide (n ≤ 4611686018427387904) = true := decide_eq_true h2
      have d3 : decide (-4611686018427387904 ≤ n ∧ n ≤ 4611686018427387904) = true := decide_eq_true ⟨h1, h2⟩
      rw [d3]
      go_enter Tryd.func13, Tryd.ntmps13
      go_wp2_with fail
      go_ret
      exact ⟨rfl, rfl⟩
    · have d2 : decide (n ≤ 4611686018427387904) = false := decide_eq_false h2
      have d3 : decide (-4611686018427387904 ≤ n ∧ n ≤ 4611686018427387904) = false := decide_eq_false (fun x => h2 x.2)
      rw [d3]
      go_enter Tryd.func13, Tryd.ntmps13
      go_wp2_with fail
      go_ret
      exact ⟨rfl, rfl⟩
  · have d1 : decide (n ≥ -4611686018427387904) = false := decide_eq_false h1
    have d3 : decide (-4611686018427387904 ≤ n ∧ n ≤ 4611686018427387904) = false := decide_eq_false (fun x => h1 x.1)
    rw [d3]
    go_enter Tryd.func13, Tryd.ntmps13
    go_wp2_with fail
    go_ret
    exact ⟨rfl, rfl⟩
/-- a step, as data -/
structure St where
  k : Int
  a : Int
  b : Int
  c : Int
  fr : Int
  pg : Int
  wr : Bool
  ak : Int
  fl : Int
  off : Int
  data : List Int
def St.wn (s : St) : Int := if s.wr then 1 else 0
def St.nums (s : St) : List Int := [s.k, s.a, s.b, s.c, s.fr, s.pg, s.wn, s.ak, s.fl, s.off]
/-- a step's cells, with v for its bytes -/
abbrev St.cells (s : St) (v : Value) : Array Value := #[.int .i64 s.k, .int .i64 s.a, .int .i64 s.b, .int .i64 s.c, .int .i64 s.fr, .int .i64 s.pg, .bool s.wr, .int .i64 s.ak, .int .i64 s.fl, .int .i64 s.off, v]
abbrev St.ncells (s : St) : Array Value := #[.int .i64 s.k, .int .i64 s.a, .int .i64 s.b, .int .i64 s.c, .int .i64 s.fr, .int .i64 s.pg, .int .i64 s.wn, .int .i64 s.ak, .int .i64 s.fl, .int .i64 s.off]
theorem numbers_any (s : St) (v : Value) (w : World) :
    Calls Tryd.prog 12 #[.agg (s.cells v)] w fun e w' => e = .returned (.slice (some ⟨w.heap.size + 1, 0, none⟩) 10 10) ∧ Blk w' (w.heap.size + 1) s.ncells 3 ∧ Chg NoB w w' := by
  obtain ⟨k, a, b, c, fr, pg, wr, ak, fl, off, data⟩ := s
  cases wr <;>
  · unfold St.cells St.ncells St.wn
    go_enter Tryd.func12, Tryd.ntmps12
    go_wp2_with fail
    go_ret
    refine ⟨by simp, ?_, ((Chg.refl NoB w).alloc _).alloc _⟩
    exact Hp.bnew' (by simp) _
abbrev digB : ByteArray := { data := #[48, 49, 50, 51, 52, 53, 54, 55, 56, 57, 97, 98, 99, 100, 101, 102] }
theorem dig_at (k j : Nat) (e : k = j) (h : k < digB.size) : digB[k] = ScP.hexd j := by
  subst e
  have key : ∀ k : Fin 16, digB[k.1]'(k.2) = ScP.hexd k.1 := by decide
  exact key ⟨k, h⟩
/-- Hex's loop -/
def HexRel (zs : List Int) (b : Nat) (w1 : World) (v i : Value) (wr : World) : Prop := ∃ k : Nat, k ≤ zs.length ∧ i = .int .i64 k ∧ Bld b (120 :: ScP.hexL (zs.take k)) wr ∧ BChg b w1 wr
theorem hexL_snoc (l : List Int) (z : Int) : ScP.hexL (l ++ [z]) = ScP.hexL l ++ [ScP.hexd (z.toNat / 16), ScP.hexd (z.toNat % 16)] := by simp [ScP.hexL]
theorem hex_any (A : Option Addr) (cap : Nat) (zs : List Int) (hz : ∀ z, z ∈ zs → 0 ≤ z ∧ z < 256) (hl : zs.length ≤ 100000) (w : World) (hA : Rd w .u8 A zs) :
    Calls Tryd.prog 16 #[.slice A zs.length cap] w fun e w' => e = .returned (.string (ba (120 :: ScP.hexL zs))) ∧ Chg NoB w w' := by
  have b0 := Bld.new w
  go_enter Tryd.func16, Tryd.ntmps16
  go_wp2_with fail
  refine (wb_call w.heap.size [] 120 (by decide) (by decide) _ b0 (by simp) (by simp)).mono ?_
  rintro e w1 ⟨rfl, hb1, hc1⟩
  clear b0
  go_wp2_with fail
  go_loopw [5, 9] (fun v i wr => HexRel zs w.heap.size (w.alloc (.cells #[.pointer none, .slice none 0 0] 41)) v i wr) (fun v i wr => zs.length - (intOf i).toNat)
  case atStart => exact ⟨0, by omega, rfl, hb1, hc1⟩
  case round =>
    obtain ⟨k, hk, rfl, hbk, hck⟩ := hrel
    have hAr : Rd wr .u8 A zs := hA.chg (Chg.of_below (S := NoB) (((Below.refl w.heap.size w).alloc (Nat.le_refl _) _).trans hck.below)) (fun _ _ _ x => x)
    by_cases hlt : k < zs.length
    · obtain ⟨ad, rfl, hcell⟩ := hAr.at_ k hlt
      have hz' := hz (zs.getD k 0) (by rw [List.getD_eq_getElem?_getD, List.getElem?_eq_getElem hlt]; simp)
      have htk := Hp.take_succ_getD zs k hlt
      have i1 : (k : Int) < (zs.length : Int) := by omega
      have hlk : (120 :: ScP.hexL (zs.take k)).length ≤ 200001 := by
        rw [List.length_cons, ScP.hexL_len, List.length_take]; omega
      have hsz := hck.below.size
      generalize zs.getD k 0 = z at *
      go_wp2_with fail
      refine (wbyte_call w.heap.size _ _ wr hbk (by omega) (by simp at hsz; omega)).mono ?_
      rintro e w2 ⟨rfl, hb2, hc2⟩
      rw [dig_at _ (z.toNat / 16) (by omega)] at hb2
      go_wp2_with fail
      refine (wbyte_call w.heap.size _ _ w2 hb2 (by simp at hlk ⊢; omega) (by have := hc2.below.size; simp at hsz; omega)).mono ?_
      rintro e w3 ⟨rfl, hb3, hc3⟩
      rw [dig_at _ (z.toNat % 16) (by omega)] at hb3
      go_wp2_with fail
      go_roundw
      case measure => simp only [intOf]; omega
      case rel => 
        refine ⟨k + 1, by omega, by push_cast; rfl, ?_, hck.trans (hc2.trans hc3)⟩
        rw [htk, hexL_snoc]
        simpa using hb3
    · have hkl : k = zs.length := by omega
      subst hkl
      have i1 : ¬ ((zs.length : Int) < (zs.length : Int)) := by omega
      rw [List.take_length] at hbk
      have hsz := hck.below.size
      go_wp2_with fail
      refine (str_call w.heap.size _ wr hbk (by simp at hsz; omega)).mono ?_
      rintro e w2 ⟨rfl, hb2, hc2⟩
      go_wp2_with fail
      go_ret
      exact ⟨rfl, Chg.of_below ((((Below.refl w.heap.size w).alloc (Nat.le_refl _) _).trans hck.below).trans hc2.below)⟩
end Go.Proofs.YtmjnbbdlnplmjaaDoor.Scr
