/- PoolPlays, PoolCounts. -/
import Derived.Test.YtlhlnkfmmklkbaaPoolAa
namespace Go.Proofs.Ytlhlnkfmmklkbaa.Pool
open Go.RowKit Go.Proofs.Ytlhlnkfmmklkbaa.Hp Go.Proofs.Ytlhlnkfmmklkbaa.Runs
set_option linter.unusedVariables false
set_option linter.unusedSimpArgs false
/-- an act's call, of an act that came in -/
theorem do_at {w0 w : World} {p b bi v : Nat} {S : PS} {ad : Addr} {i : Nat} {x : ActV} (h : Both w0 w p b bi v S S) (hx : ActAt w0 ad i x) (hl : x.len ≤ 100) :
    Calls Try.prog 34 #[.pointer (some ⟨p, 0, none⟩), .pointer (some ⟨v, 0, none⟩), .agg #[.int .i64 x.what, .int .i64 x.a, .int .i64 x.z, .bool x.on, .slice x.A x.len x.cap]] w (DoPost w0 p b bi v (S.act x.what x.a x.z x.on (x.zs.take x.len))) := by
  obtain ⟨r1, r2, r3, r4⟩ := rd_of_row hx.2 (by omega)
  have ho : 0 < (x.zs.take x.len).length → Off x.A (fun i => w0.heap.size ≤ i) := fun hn ad e hh => by have := r1.lt hn ad e; omega
  have := do_any w0 w p b bi v S x.what x.a x.z x.on x.A x.cap (x.zs.take x.len) h (r1.chg h.pl.ch (fun _ ad _ x => x)) ho
  rw [r2] at this
  exact this
def PlRel (w0 : World) (p b bi v n : Nat) (i : Value) (wr : World) : Prop := ∃ (k : Nat) (S : PS), k ≤ n ∧ i = .int .i64 k ∧ Both w0 wr p b bi v S S
set_option maxRecDepth 100000 in
set_option maxHeartbeats 2000000 in
theorem poolPlays (A : Option Addr) (len cap : Nat) (X : Nat → ActV) (w : World) (hl : (len : Int) ≤ 9223372036854775807) (h : IsActs w A len cap X) : Calls Try.prog 9 #[.slice A len cap] w (True1 w) := by
  by_cases big : 80 < len
  · go_enter Try.func9, Try.ntmps9
    go_wp2_with fail
    refine (answers_any w).mono ?_
    rintro e w1 ⟨rfl, hC⟩
    have fin : True1 w (.returned (.bool true)) w1 := ⟨rfl, hC⟩
    clear hC h
    go_wp2_with fail
    go_ret
    exact fin
  · have H := Lib.hid h
    clear h
    go_enter Try.func9, Try.ntmps9
    go_wp2_with fail
    refine (l_new w).mono ?_
    rintro e w1 ⟨p, b, bi, rfl, h⟩
    have hB := both_new h
    clear h
    go_wp2_with fail
    generalize w1.alloc (.cells Try.zeroCells58 58) = w2 at *
    generalize w1.heap.size = v at *
    go_loopw [5] (fun i wr => PlRel w p b bi v len i wr) (fun i wr => (len - intOf i).toNat)
    case atStart => exact ⟨0, _, by omega, rfl, hB⟩
    case round =>
      clear hB
      obtain ⟨k, S, hk, rfl, hB⟩ := hrel
      by_cases hlt : k < len
      · rcases H.out with ⟨_, rfl, _⟩ | ⟨ad, rfl, q1, q2, hX⟩
        · omega
        have hx := hX k hlt
        have hx1 := hx.old hB.pl.ch
        obtain ⟨m0, m1, m2, m3, m4⟩ := hx1.five
        have hdo := do_at hB hx
        have nx : ∀ S' w', Both w w' p b bi v S' S' → PlRel w p b bi v len (.int .i64 ((k : Int) + 1)) w' := fun S' w' h => ⟨k + 1, S', by omega, rfl, h⟩
        have NX := Lib.hid nx
        have HB := Lib.hid hB
        have HD := Lib.hid hdo
        clear nx hB hdo hx hx1 hX
        generalize X k = x at *
        by_cases hl : x.len ≤ 100
        · have hd := HD.out hl
          clear HD
          go_wp2_with fail
          refine hd.mono ?_
          rintro e w3 ⟨rfl, h3⟩
          have N := NX.out _ w3 h3
          clear hd h3 NX
          go_wp2_with fail
          exact ⟨N, by simp [intOf]; omega⟩
        · have N := NX.out _ wr HB.out
          clear HD NX
          go_wp2_with fail
          exact ⟨N, by simp [intOf]; omega⟩
      · obtain rfl : k = len := by omega
        have HB := Lib.hid hB
        clear hB
        go_wp2_with fail
        refine (answers_any wr).mono ?_
        rintro e w3 ⟨rfl, hC⟩
        have h3 := HB.out.keep hC
        have hs := same_any w w3 p b bi v S h3
        have fin : ∀ n, True1 w (.returned (.bool true)) (w3.drewN n) := fun n => ⟨rfl, h3.pl.ch.drewN n⟩
        have FI := Lib.hid fin
        clear fin h3 hC
        go_wp2_with fail
        refine hs.mono ?_
        rintro e w4 ⟨rfl, n, rfl⟩
        clear hs
        go_wp2_with fail
        go_ret
        exact FI.out n
theorem IsActs.lim {w : World} {A : Option Addr} {len cap : Nat} {X : Nat → ActV} (h : IsActs w A len cap X) : (len : Int) ≤ 9223372036854775807 := by
  rcases h with ⟨_, rfl, _⟩ | ⟨_, _, h1, h2, _⟩
  · decide
  · unfold maxLen at h2; omega
theorem poolPlays_row (a0 : Option Addr) (len0 cap0 : Nat) (z0 : Nat → ActV) (W : World) (w0 : IsActs W a0 len0 cap0 z0) :
    Calls Try.prog 9 #[.slice a0 len0 cap0] W fun e w' => e = .returned (.bool true) ∧ Below W.heap.size W w' :=
  (poolPlays a0 len0 cap0 z0 W w0.lim w0).mono fun _ _ h => h.row
end Go.Proofs.Ytlhlnkfmmklkbaa.Pool
