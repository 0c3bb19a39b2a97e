/- Chapter 25: what is laid ahead of a call, and the library's calls in the words of Chg. -/
import Derived.Test.YtmjnbbdlnplmjaaDoorHpD
import Derived.Test.YtmjnbbdlnplmjaaDoorLays25
import Derived.Test.YtmjnbbdlnplmjaaDoorScrP
import Derived.Lib.AtoiErrMem
import Derived.Below
namespace Go.Proofs.YtmjnbbdlnplmjaaDoor.Scr
open Go.RowKit
open Hp (Chg Blk NoB blt)
set_option linter.unusedVariables false
set_option linter.unusedSimpArgs false
/-- what the package-level variables hold, as far as it is read -/
structure Glo (w : World) : Prop where
  tab : Lib.TabIs Tryd.prog w "internal/strconv.uint64pow10" .u64 Lib.pow10Tab
  ml : ∃ m, w.cell? ⟨0, 0, none⟩ = some (.int .i64 m)
  gb : 8 ≤ w.heap.size
theorem cell_block (w w' : World) (p : Addr) (h : w'.heap[p.block]? = w.heap[p.block]?) : w'.cell? p = w.cell? p := World.cell?_of_block (w := w) h
theorem Glo.chg {S : Nat → Prop} {w w' : World} (h : Glo w) (hc : Chg S w w') (hs : ∀ i, S i → 8 ≤ i) : Glo w' := by
  have hb : ∀ k, k < 8 → w'.heap[k]? = w.heap[k]? := fun k hk => hc.block k (by have := h.gb; omega) (fun e => by have := hs k e; omega)
  refine ⟨?_, ?_, Nat.le_trans h.gb hc.size⟩
  · have ht := h.tab
    have hg : Tryd.prog.globalNamed "internal/strconv.uint64pow10" = some 1 := by kernel_rfl
    unfold Lib.TabIs World.var? at ht ⊢
    rw [hg, Option.bind_some] at ht ⊢
    rw [hb _ (by decide)]
    exact ht
  · obtain ⟨m, hm⟩ := h.ml
    exact ⟨m, (cell_block w w' ⟨0, 0, none⟩ (hb 0 (by decide))).trans hm⟩
theorem Glo.nob {w w' : World} (h : Glo w) (hc : Chg NoB w w') : Glo w' := h.chg hc (fun i e => e.elim)
/-- a ByteArray of a list -/
abbrev ba (l : List UInt8) : ByteArray := ⟨l.toArray⟩
theorem chg_drewN (w : World) (n : Nat) : Chg NoB w (w.drewN n) := (Chg.refl NoB w).drewN n
theorem chg_grow (w : World) (os : Array Obj) : Chg NoB w («Sort».grow w os) :=
  ⟨rfl, rfl, rfl, by show _ ≤ (w.heap ++ os).size; rw [Array.size_append]; omega, fun k hk _ => by show (w.heap ++ os)[k]? = _; rw [Array.getElem?_append_left hk]⟩
theorem itoa_call (n : Int) (h0 : -9223372036854775808 ≤ n) (h1 : n ≤ 9223372036854775807) (w : World) (hG : Glo w) :
    Calls Tryd.prog 15 #[.int .i64 n] w fun e w' => e = .returned (.string (ba (Lib.itoa n))) ∧ Chg NoB w w' :=
  (Any.strconv_Itoa Tryd.laysM171 n h0 h1 w hG.tab).mono fun e w' ⟨he, k, os, hw⟩ => ⟨he, by
    subst hw
    exact (chg_drewN w k).trans (chg_grow _ os) (fun _ _ h => h)⟩
theorem chg_bytesWorld (w : World) (e : TypeId) (t : ByteArray) : Chg NoB w (Lib.bytesWorld w e t) := Chg.of_below (Lib.bytesWorld_below w e t)
theorem atoi_call (l : List UInt8) (hl : l.length ≤ 1000000) (v : Int) (h : Lib.atoiAll l = .ok v) (w : World) :
    Calls Tryd.prog 28 #[.string (ba l)] w fun e w' => e = .returned (.tuple #[.int .i64 v, .nilIface]) ∧ Chg NoB w w' :=
  (Any.strconv_Atoi_ok Tryd.laysC172 (ba l) (by show l.toArray.size ≤ _; simp; omega) v (by simpa using h) w).mono fun e w' ⟨he, hw⟩ => ⟨he, by
    rcases hw with rfl | ⟨t, rfl⟩
    · exact Chg.refl _ _
    · exact chg_bytesWorld w _ t⟩
theorem cut_call (l sep : List UInt8) (hl : l.length ≤ 1000000) (w : World) (hG : Glo w) :
    Calls Tryd.prog 19 #[.string (ba l), .string (ba sep)] w fun e w' =>
      e = .returned (.tuple #[.string (ba (Lib.cut l sep).1), .string (ba (Lib.cut l sep).2.1), .bool (Lib.cut l sep).2.2]) ∧ Chg NoB w w' := by
  obtain ⟨m, hm⟩ := hG.ml
  refine (Any.strings_Cut Tryd.lays145 (ba l) (ba sep) m w (by show l.toArray.size < _; simp; omega) hm).mono fun e w' ⟨he, n, hw⟩ => ⟨?_, hw ▸ chg_drewN w n⟩
  simpa using he
theorem prefix_call (l p : List UInt8) (w : World) :
    Calls Tryd.prog 37 #[.string (ba l), .string (ba p)] w fun e w' =>
      e = .returned (.tuple #[.string (ba (Lib.trimPrefix l p)), .bool (Lib.hasPrefix l p)]) ∧ w' = w :=
  (Any.strings_CutPrefix Tryd.lays103 (ba l) (ba p) w).mono fun e w' ⟨he, hw⟩ => ⟨by simpa using he, hw⟩
theorem trim_call (l cs : List UInt8) (hl : l.length ≤ 1000000) (hc : cs.length ≤ 1000) (ha : ∀ (j : Nat) (b : UInt8), cs[j]? = some b → b.toNat < 128) (w : World) :
    Calls Tryd.prog 38 #[.string (ba l), .string (ba cs)] w fun e w' =>
      e = .returned (.string (ba (Lib.trimS l cs))) ∧ Chg NoB w w' :=
  (Any.strings_Trim_laid Tryd.lays160 (by kernel_rfl) (ba l) (ba cs) w (by show l.toArray.size ≤ _; simp; omega) (by show cs.toArray.size < _; simp; omega) (by simpa using ha)).mono
    fun e w' ⟨he, hw⟩ => ⟨by simpa using he, Chg.of_below hw⟩
theorem split_call (l : List UInt8) (c : UInt8) (hl : l.length ≤ 1000000) (w : World) (hG : Glo w) :
    Calls Tryd.prog 27 #[.string (ba l), .string (ba [c])] w fun e w' =>
      e = .returned (.slice (some ⟨w.heap.size, 0, none⟩) (l.count c + 1) (l.count c + 1)) ∧
        w' = w.alloc (.cells ((Lib.splitB (ba [c]) 0 (l.count c) (ba l)).map Value.string).toArray 9) := by
  obtain ⟨m, hm⟩ := hG.ml
  have hcount : Lib.countB (ba l) (ba [c]) = l.count c := by
    simp [Lib.countB, Lib.count_one]
  refine (Any.strings_Split Tryd.lays146 (by kernel_rfl) (ba l) (ba [c]) m w (by show l.toArray.size < _; simp; omega) hm (by show 1 ≤ (#[c] : Array UInt8).size; simp)).mono fun e w' ⟨he, hw⟩ => ?_
  rw [hcount] at he hw
  exact ⟨by simpa using he, hw⟩
/-- a builder in the block b -/
abbrev Bld (b : Nat) (l : List UInt8) (w : World) : Prop := Lib.IsBuilderF 41 5 b b (Lib.byteCells l) w
theorem extra167 : Builder.Extra Tryd.prog Tryd.lays167_ren where
  sizeBuilder := by kernel_rfl
  liesBuilder := by kernel_rfl
  t5 := Tryd.underlying5
  a5 := Tryd.isAgg5
  z5 := Tryd.sizeOf5
  v5 := Tryd.zeroValue5
  infoByte := by kernel_rfl
  cellsByte := by kernel_rfl
  sizeByte := by kernel_rfl
  neB5 := by decide
theorem extra166 : Builder.Extra Tryd.prog Tryd.lays166_ren where
  sizeBuilder := by kernel_rfl
  liesBuilder := by kernel_rfl
  t5 := Tryd.underlying5
  a5 := Tryd.isAgg5
  z5 := Tryd.sizeOf5
  v5 := Tryd.zeroValue5
  infoByte := by kernel_rfl
  cellsByte := by kernel_rfl
  sizeByte := by kernel_rfl
  neB5 := by decide
theorem extra169 : Builder.Extra Tryd.prog Tryd.lays169_ren where
  sizeBuilder := by kernel_rfl
  liesBuilder := by kernel_rfl
  t5 := Tryd.underlying5
  a5 := Tryd.isAgg5
  z5 := Tryd.sizeOf5
  v5 := Tryd.zeroValue5
  infoByte := by kernel_rfl
  cellsByte := by kernel_rfl
  sizeByte := by kernel_rfl
  neB5 := by decide
/-- what a builder's call changes: blocks from b on, and of these only the builder's and rows of bytes -/
structure BChg (b : Nat) (w w' : World) : Prop where
  below : Below b w w'
  kept : Lib.OthersKept 5 (some b) w w'
theorem BChg.refl (b : Nat) (w : World) : BChg b w w := ⟨Below.refl _ _, Lib.OthersKept.refl _ _ _⟩
theorem BChg.trans {b : Nat} {a c d : World} (h : BChg b a c) (k : BChg b c d) : BChg b a d := ⟨h.below.trans k.below, h.kept.trans k.kept⟩
theorem wbyte_call (b : Nat) (l : List UInt8) (c : UInt8) (w : World) (h : Bld b l w) (hl : l.length ≤ 1000000) (hb : b ≤ w.heap.size) :
    Calls Tryd.prog 25 #[.pointer (some ⟨b, 0, none⟩), .int .u8 c.toNat] w fun e w' => e = .returned .nilIface ∧ Bld b (l ++ [c]) w' ∧ BChg b w w' :=
  (Any.Builder_WriteByte_k Tryd.lays167 extra167 b b (Lib.byteCells l) c.toNat w h (by simp [Lib.byteCells]; omega) hb).mono fun e w' ⟨he, h1, h2, h3⟩ => ⟨he, .inr (by
    have e1 : Lib.byteCells (l ++ [c]) = Lib.byteCells l ++ [.int .u8 c.toNat] := by simp [Lib.byteCells]
    rw [e1]; exact h1), h2, h3⟩
theorem wstr_call (b : Nat) (l s : List UInt8) (w : World) (h : Bld b l w) (hl : l.length ≤ 10000000) (hs : s.length ≤ 1000000) (hb : b ≤ w.heap.size) :
    Calls Tryd.prog 14 #[.pointer (some ⟨b, 0, none⟩), .string (ba s)] w fun e w' => e = .returned (.tuple #[.int .i64 s.length, .nilIface]) ∧ Bld b (l ++ s) w' ∧ BChg b w w' :=
  (Any.Builder_WriteString_k Tryd.lays166 extra166 b b (Lib.byteCells l) (ba s) w h (by show _ + s.toArray.size ≤ _; simp [Lib.byteCells]; omega) hb).mono fun e w' ⟨he, h1, h2, h3⟩ => ⟨by
    rw [he]; show Ending.returned (.tuple #[.int .i64 (s.toArray.size : Int), .nilIface]) = _; simp, .inr (by
      have : Lib.byteCells (l ++ s) = Lib.byteCells l ++ Lib.strCells (ba s) := by simp [Lib.byteCells, Lib.strCells]
      rw [this]; exact h1), h2, h3⟩
theorem str_call (b : Nat) (l : List UInt8) (w : World) (h : Bld b l w) (hb : b ≤ w.heap.size) :
    Calls Tryd.prog 17 #[.pointer (some ⟨b, 0, none⟩)] w fun e w' => e = .returned (.string (ba l)) ∧ Bld b l w' ∧ BChg b w w' :=
  (Any.Builder_String_any_k Tryd.lays169 extra169 b b l w h hb).mono fun e w' ⟨he, h1, h2, h3⟩ => ⟨he, h1, h2, h3⟩
end Go.Proofs.YtmjnbbdlnplmjaaDoor.Scr
