/- Chapter 25: a word's bytes. -/
import Derived.Test.YtmjnbbdlnplmjaaDoorScrD
import Derived.Test.YtmjnbbdlnplmjaaDoorOwn
namespace Go.Proofs.YtmjnbbdlnplmjaaDoor.Scr
open Go.RowKit
open Hp (Chg Blk NoB blt Rd append_one own_rd)
open Own (own_chg)
set_option linter.unusedVariables false
set_option linter.unusedSimpArgs false
theorem hexbyte_any (x y : Nat) (hx : x < 16) (hy : y < 16) (w : World) :
    Calls Tryd.prog 39 #[.string (ba [ScP.hexd x, ScP.hexd y]), .int .i64 16, .int .i64 8] w fun e w' => e = .returned (.tuple #[.int .u64 ((x * 16 + y : Nat) : Int), .nilIface]) ∧ Chg NoB w w' := by
  go_enter Tryd.func39, Tryd.ntmps39
  go_wp2_with fail
  refine (hexbyte_in x y hx hy w).mono ?_
  rintro e w1 ⟨rfl, hc1⟩
  go_wp2_with fail
  go_ret2
  exact ⟨rfl, hc1⟩
theorem info8 : (Tryd.prog.info? 5).map (fun i => (i.zero, i.size, i.bytes)) = some (some (.int .u8 0), 1, 1) := by kernel_rfl
/-- what 'bytes' answers -/
def BPost (zs : List Int) (w : World) (e : Ending) (w' : World) : Prop := Chg NoB w w' ∧ ∃ A c, e = .returned (.tuple #[.slice A zs.length c, .bool true]) ∧ Rd w' .u8 A zs ∧ ∀ ad, A = some ad → w.heap.size ≤ ad.block
def BRel (zs : List Int) (w : World) (s v : Value) (wr : World) : Prop := ∃ k : Nat, k ≤ zs.length ∧ s = .string (ba (ScP.hexL (zs.drop k))) ∧ Chg NoB w wr ∧ wr.ownsRow w.heap.size 5 1 v k ((zs.take k).map (Value.int .u8))
theorem hexL_cons (z : Int) (l : List Int) : ScP.hexL (z :: l) = ScP.hexd (z.toNat / 16) :: ScP.hexd (z.toNat % 16) :: ScP.hexL l := by simp [ScP.hexL]
theorem ex02 (p q : UInt8) (r : List UInt8) : (ba (p :: q :: r)).extract 0 2 = ba [p, q] := by
  apply ByteArray.ext
  rw [ByteArray.data_extract]
  apply Array.ext'
  simp
theorem ex2 (p q : UInt8) (r : List UInt8) (n : Nat) (hn : n = r.length + 2) : (ba (p :: q :: r)).extract 2 n = ba r := by
  subst hn
  apply ByteArray.ext
  rw [ByteArray.data_extract]
  apply Array.ext'
  simp
theorem dig_ascii (j : Nat) (b : UInt8) (h : ScP.digitsL[j]? = some b) : b.toNat < 128 := (by decide : ∀ b, b ∈ ScP.digitsL → b.toNat < 128) b (List.mem_of_getElem? h)
theorem bytes_any (zs : List Int) (hz : ∀ z, z ∈ zs → 0 ≤ z ∧ z < 256) (hl : zs.length ≤ 100000) (w : World) :
    Calls Tryd.prog 29 #[.string (ba (120 :: ScP.hexL zs))] w (BPost zs w) := by
  have hpre := prefix_call (120 :: ScP.hexL zs) [120] w
  have e1 : Lib.trimPrefix (120 :: ScP.hexL zs) [120] = ScP.hexL zs := by simp [Lib.trimPrefix, Lib.hasPrefix]
  have e2 : Lib.hasPrefix (120 :: ScP.hexL zs) [120] = true := by simp [Lib.hasPrefix]
  rw [e1, e2] at hpre
  have hlen := ScP.hexL_len zs
  have htrim := fun w => trim_call (ScP.hexL zs) ScP.digitsL (by omega) (by decide) dig_ascii w
  rw [ScP.trim_all _ _ (fun b hb => ScP.hexL_mem hz hb)] at htrim
  have hrem : (((ScP.hexL zs).length : Int).tmod 2 != 0) = false := by
    rw [hlen]; simp
  clear e1 e2
  go_enter Tryd.func29, Tryd.ntmps29
  go_wp2_with fail
  refine hpre.mono ?_
  rintro e w1 ⟨rfl, hw1⟩
  rw [hw1]
  clear hw1 w1 hpre
  go_wp2_with fail
  refine (htrim _).mono ?_
  rintro e w1 ⟨rfl, hc1⟩
  go_wp2_with fail
  go_loopw [0, 5] (fun s v wr => BRel zs w s v wr) (fun s v wr => match s with | .string t => t.size | _ => 0)
  case atStart => exact ⟨0, by omega, rfl, hc1, World.ownsRow_nil _ _ _ _⟩
  case round =>
    obtain ⟨k, hk, rfl, hC, hown⟩ := hrel
    by_cases hlt : k < zs.length
    · have hdr : zs.drop k = zs.getD k 0 :: zs.drop (k + 1) := by
        rw [List.drop_eq_getElem_cons hlt]; simp [List.getElem?_eq_getElem hlt]
      have htk := Hp.take_succ_getD zs k hlt
      have hzk := hz (zs.getD k 0) (by rw [List.getD_eq_getElem?_getD, List.getElem?_eq_getElem hlt]; simp)
      have hrl : (ScP.hexL (zs.drop (k + 1))).length ≤ 200000 := by rw [ScP.hexL_len, List.length_drop]; omega
      rw [hdr, hexL_cons]
      generalize zs.getD k 0 = z at *
      go_wp2_with fail
      rw [ex02]
      refine (hexbyte_any (z.toNat / 16) (z.toNat % 16) (by omega) (by omega) wr).mono ?_
      rintro e w2 ⟨rfl, hc2⟩
      rw [show z.toNat / 16 * 16 + z.toNat % 16 = z.toNat by omega, Int.toNat_of_nonneg hzk.1]
      have hC2 : Chg NoB w w2 := hC.trans hc2 (fun _ _ h => h)
      have hown2 := own_chg hown hc2 (fun _ _ x => x)
      have hsz2 : (2 : Int) ≤ (ScP.hexL (zs.drop (k + 1))).length + 1 + 1 := by omega
      have HTK := Lib.hid htk
      clear htk hdr hown hC
      obtain ⟨hz0, hz1⟩ := hzk
      go_wp2_with (first | (at_builtin; go_loud (refine append_one (w0 := w) (S := NoB) rfl (.tmp 36) (.tmp 39) 32 5 rfl (.int .u8 0) 1 Tryd.underlying32 info8 rfl u5 _ _ (by rfl) hC2 hown2 (.int .u8 z) _ (by rfl) rfl (by omega) (by omega) ?_); intro v' w3 hown3 hC3))
      rw [ex2 _ _ _ _ rfl]
      refine ⟨⟨k + 1, by omega, rfl, hC3, ?_⟩, ?_⟩
      · rw [HTK.out, List.map_append]; exact hown3
      · show (ba (ScP.hexL (zs.drop (k + 1)))).size < (ba (ScP.hexd (z.toNat / 16) :: ScP.hexd (z.toNat % 16) :: ScP.hexL (zs.drop (k + 1)))).size
        show (ScP.hexL (zs.drop (k + 1))).toArray.size < (ScP.hexd (z.toNat / 16) :: ScP.hexd (z.toNat % 16) :: ScP.hexL (zs.drop (k + 1))).toArray.size
        simp only [List.size_toArray, List.length_cons]; omega
    · have hkk : k = zs.length := by omega
      subst hkk
      rw [List.drop_length, show ScP.hexL [] = [] from rfl]
      rw [List.take_length] at hown
      obtain ⟨A, c, rfl, hA1, hA2, hA3, hA4⟩ := own_rd hown (by omega)
      have F : BPost zs w (.returned (.tuple #[.slice A zs.length c, .bool true])) wr := ⟨hC, A, c, rfl, hA3, fun ad e => Nat.le_of_not_lt (hA4 ad e)⟩
      have FF := Lib.hid F
      clear F hown hA3 hA4 hC
      go_wp2_with fail
      go_ret2
      exact FF.out
end Go.Proofs.YtmjnbbdlnplmjaaDoor.Scr
