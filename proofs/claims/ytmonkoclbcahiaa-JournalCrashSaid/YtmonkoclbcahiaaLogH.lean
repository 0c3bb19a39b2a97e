/- The reference's Sum, Num and Sector. -/
import Derived.Test.YtmonkoclbcahiaaLogE
namespace Go.Proofs.Ytmonkoclbcahiaa.Log
open Go.RowKit Go.Proofs.Ytmonkoclbcahiaa.Hp Go.Proofs.Ytmonkoclbcahiaa.By Go.Proofs.Ytmonkoclbcahiaa.Disk Go.Proofs.Ytmonkoclbcahiaa.Word Go.Proofs.Ytmonkoclbcahiaa.WordP
set_option linter.unusedVariables false
set_option linter.unusedSimpArgs false
theorem u32_mod (x : Int) : IntKind.u32.wrap (x % 4294967296) = IntKind.u32.wrap x := by
  rw [IntKind.wrap_u32, IntKind.wrap_u32]; omega
def RSumRel (l : List Int) (h i : Value) : Prop := ∃ k : Nat, k ≤ l.length ∧ i = .int .i64 k ∧ h = .int .u64 (fold 14695981039346656037 (l.take k))
set_option maxRecDepth 100000 in
set_option maxHeartbeats 2000000 in
theorem rsum_any (A : Option Addr) (c : Nat) (l : List Int) (w : World) (hl : Rd w .u8 A l) (hb : Bytes l) :
    Calls Try.prog 59 #[.slice A l.length c] w (SumPost (sum32 (fold 14695981039346656037 l)) w) := by
  have b1 := hl.1
  go_enter Try.func59, Try.ntmps59
  go_wp2_with fail
  go_loop [3, 4] (fun h i => RSumRel l h i) (fun h i => l.length - (intOf i).toNat)
  case atStart => exact ⟨0, by omega, rfl, rfl⟩
  case round =>
    obtain ⟨j, hj, rfl, rfl⟩ := hrel
    by_cases hlj : j < l.length
    · obtain ⟨ad2, rfl, hc2⟩ := hl.at_ j hlj
      have hx := hb (l[j]'hlj) (List.getElem_mem _)
      have e1 : l.getD j 0 = l[j]'hlj := by simp [hlj]
      have st2 : fold 14695981039346656037 (l.take (j + 1)) = sumStep (fold 14695981039346656037 (l.take j)) (l.getD j 0) := by
        rw [take_succ_getD l j hlj, fold_one]
      have h642 : In64 (fold 14695981039346656037 (l.take j)) := fold_in64 _ _ ⟨by omega, by omega⟩
      rw [← e1] at hx
      generalize fold 14695981039346656037 (l.take j) = h1 at *
      generalize l.getD j 0 = x at *
      have hx0 := hx.1
      have hx1 := hx.2
      have ST2 := Lib.hid st2
      have H642 := Lib.hid h642
      clear st2 h642 hx e1
      go_wp2_with fail
      exact ⟨⟨j + 1, by omega, rfl, by rw [ST2.out]; rfl⟩, by simp [intOf]; omega⟩
    · obtain rfl : j = l.length := by omega
      have h64 : In64 (fold 14695981039346656037 l) := fold_in64 _ _ ⟨by omega, by omega⟩
      rw [List.take_length] at *
      have um := u32_mod (fold 14695981039346656037 l)
      generalize hh : fold 14695981039346656037 l = h at *
      have h0 := h64.1
      have h1 := h64.2
      have sm : Go.bits .xor .u32 (h / 4294967296) (h % 4294967296) = sum32 h := by
        unfold sum32
        rw [← um, IntWalk.u32_in (h / 4294967296) ⟨by omega, by omega⟩, IntWalk.u32_in (h % 4294967296) ⟨by omega, by omega⟩]
      have SM := Lib.hid sm
      clear um hh sm
      go_wp2_with fail
      go_ret
      exact ⟨congrArg (fun z => Ending.returned (.int .u32 z)) SM.out, rfl⟩
def RNumRel (w : World) (v : Int) (n : Nat) (x o i : Value) (wr : World) : Prop :=
  ∃ k : Nat, k ≤ n ∧ i = .int .i64 k ∧ x = .int .u64 (v / 256 ^ k) ∧ wr.ownsRow w.heap.size 5 1 o k ((digs v k).map (Value.int .u8)) ∧ Chg NoB w wr
def RNumPost (w : World) (l : List Int) (n : Nat) (e : Ending) (w' : World) : Prop := ∃ o, e = .returned o ∧ w'.ownsRow w.heap.size 5 1 o n (l.map (Value.int .u8)) ∧ Chg NoB w w'
theorem div_range (v : Int) (k : Nat) (h0 : 0 ≤ v) (h1 : v < 18446744073709551616) : 0 ≤ v / 256 ^ k ∧ v / 256 ^ k < 18446744073709551616 := by
  have hp : (0 : Int) < 256 ^ k := Int.pow_pos (by omega)
  refine ⟨Int.ediv_nonneg h0 (by omega), ?_⟩
  exact Int.lt_of_le_of_lt (Int.ediv_le_self _ h0) h1
set_option maxRecDepth 100000 in
set_option maxHeartbeats 4000000 in
theorem rnum_any (v : Int) (n : Nat) (w : World) (h0 : 0 ≤ v) (h1 : v < 18446744073709551616) (hn : n ≤ 8) :
    Calls Try.prog 58 #[.int .u64 v, .int .i64 n] w (RNumPost w (digs v n) n) := by
  go_enter Try.func58, Try.ntmps58
  go_wp2_with fail
  go_loopw [0, 5, 6] (fun x o i wr => RNumRel w v n x o i wr) (fun x o i wr => n - (intOf i).toNat)
  case atStart => exact ⟨0, by omega, rfl, by simp, World.ownsRow_nil w _ _ 1, Chg.refl _ _⟩
  case round =>
    obtain ⟨k, hk, rfl, rfl, hown, hC⟩ := hrel
    by_cases hlt : k < n
    · have dr := div_range v k h0 h1
      have dg := digs_snoc v k
      have ds : v / 256 ^ k / 256 = v / 256 ^ (k + 1) := by
        rw [Int.pow_succ, Int.ediv_ediv_of_nonneg (Int.le_of_lt (Int.pow_pos (by omega)))]
      generalize v / 256 ^ k = y at *
      have y0 := dr.1
      have y1 := dr.2
      have DG := Lib.hid dg
      have DS := Lib.hid ds
      clear dg ds dr
      have sz := hC.size
      go_wp2_with (at_builtin; go_loud (refine append_one (w0 := w) (S := NoB) rfl (.tmp 12) (.tmp 16) 31 5 rfl (.int .u8 0) 1 Try.underlying31 info8 rfl u5 _ _ (by rfl) hC hown (.int .u8 (y % 256)) _ (by rfl) rfl (by omega) (by omega) ?_); intro v' w1 hown' hC')
      exact ⟨⟨k + 1, by omega, rfl, by rw [DS.out], by rw [DG.out, List.map_append]; exact hown', hC'⟩, by simp [intOf]; omega⟩
    · obtain rfl : k = n := by omega
      have fin : ∀ o, wr.ownsRow w.heap.size 5 1 o k ((digs v k).map (Value.int .u8)) → RNumPost w (digs v k) k (.returned o) wr := fun o h => ⟨o, rfl, h, hC⟩
      have F := fin _ hown
      clear hown hC fin
      go_wp2_with fail
      go_ret
      exact F
end Go.Proofs.Ytmonkoclbcahiaa.Log
