/- The reference's Sector. -/
import Derived.Test.YtmonkoclbcahiaaLogH
namespace Go.Proofs.Ytmonkoclbcahiaa.Log
open Go.RowKit Go.Proofs.Ytmonkoclbcahiaa.Hp Go.Proofs.Ytmonkoclbcahiaa.By Go.Proofs.Ytmonkoclbcahiaa.Disk Go.Proofs.Ytmonkoclbcahiaa.Word Go.Proofs.Ytmonkoclbcahiaa.WordP
set_option linter.unusedVariables false
set_option linter.unusedSimpArgs false
def refH (gen n : Int) (l : List Int) : List Int := digs gen 4 ++ digs n 4 ++ [(l.length : Int)] ++ l
theorem refH_len (gen n : Int) (l : List Int) : (refH gen n l).length = 9 + l.length := by
  unfold refH; simp [digs_length]; omega
theorem refH_eq (gen n : Int) (l : List Int) (h : l.length ≤ 50) : refH gen n l ++ List.replicate (51 - l.length) 0 = (secL gen n l).take 60 := by
  have d4 : ∀ v, (digs v 4).length = 4 := fun v => digs_length v 4
  have d1 : digs (l.length : Int) 1 = [(l.length : Int)] := by
    rw [show (1 : Nat) = 0 + 1 from rfl, digs_snoc]
    have : ((l.length : Int) / 256 ^ 0 % 256) = l.length := by rw [Int.pow_zero, Int.ediv_one]; omega
    rw [this]; rfl
  apply List.ext_getElem?
  intro j
  rw [List.getElem?_take]
  by_cases hj : j < 60
  · rw [if_pos hj, sec_at gen n l h j hj]
    unfold refH
    by_cases c1 : j < 4
    · rw [if_neg (by omega), if_neg (by omega), if_neg (by omega), if_pos (by omega), List.append_assoc, List.append_assoc, List.append_assoc, List.getElem?_append_left (by rw [d4]; omega)]
      rfl
    · by_cases c2 : j < 8
      · rw [if_neg (by omega), if_neg (by omega), if_pos (by omega), List.append_assoc, List.append_assoc, List.append_assoc, List.getElem?_append_right (by rw [d4]; omega), d4, List.getElem?_append_left (by rw [d4]; omega)]
      · by_cases c3 : j < 9
        · rw [if_neg (by omega), if_pos (by omega), d1, List.append_assoc, List.append_assoc, List.append_assoc, List.getElem?_append_right (by rw [d4]; omega), d4, List.getElem?_append_right (by rw [d4]; omega), d4]
          obtain rfl : j = 8 := by omega
          rfl
        · by_cases c4 : j < 9 + l.length
          · rw [if_pos (by omega), List.append_assoc, List.append_assoc, List.append_assoc, List.getElem?_append_right (by rw [d4]; omega), d4, List.getElem?_append_right (by rw [d4]; omega), d4, List.getElem?_append_right (by simp; omega), List.length_singleton, List.getElem?_append_left (by omega)]
            congr 1 <;> omega
          · rw [if_neg (by omega), if_neg (by omega), if_neg (by omega), if_neg (by omega), List.getElem?_append_right (by simp [d4]; omega), List.getElem?_replicate, List.getElem?_replicate, if_pos (by simp [d4]; omega), if_pos (by omega)]
  · rw [if_neg hj, List.getElem?_eq_none]
    rw [List.length_append, refH_len, List.length_replicate]; omega
theorem secL_ref (gen n : Int) (l : List Int) (h : l.length ≤ 50) : secL gen n l = (refH gen n l ++ List.replicate (51 - l.length) 0) ++ digs (sum32 (fold 14695981039346656037 (refH gen n l ++ List.replicate (51 - l.length) 0))) 4 := by
  have e4 := secH_len gen n l h
  have e : (secL gen n l).take 60 = (secH gen n l).take 60 := by
    apply List.ext_getElem?
    intro j
    rw [List.getElem?_take, List.getElem?_take]
    by_cases hj : j < 60
    · rw [if_pos hj, if_pos hj]
      unfold secL
      rw [spl_get _ _ 60 j (by rw [digs_length, e4]; omega), if_neg (by omega)]
    · rw [if_neg hj, if_neg hj]
  rw [refH_eq gen n l h, e]
  unfold secL spl
  rw [digs_length, List.drop_of_length_le (by omega), List.append_nil]
def RSecRel (RH : List Int) (len : Nat) (w : World) (o : Value) (wr : World) : Prop := ∃ m N : Nat, N = 9 + len + m ∧ N ≤ 60 ∧ wr.ownsRow w.heap.size 5 1 o N ((RH ++ List.replicate m 0).map (Value.int .u8)) ∧ Chg NoB w wr
def toGo : Value → Nat
  | .slice _ n _ => 60 - n
  | _ => 60
def RSecPost (w : World) (l : List Int) (e : Ending) (w' : World) : Prop := ∃ A c, e = .returned (.slice A 64 c) ∧ Rd w' .u8 A l ∧ Chg NoB w w'
set_option maxRecDepth 100000 in
set_option maxHeartbeats 1000000 in
theorem rsector_any (gen n : Int) (A : Option Addr) (c : Nat) (l : List Int) (w : World) (g0 : 0 ≤ gen) (g1 : gen < 4294967296) (n0 : 0 ≤ n) (n1 : n ≤ 63) (hl : l.length ≤ 50) (hr : Rd w .u8 A l) (hb : Bytes l) (hnil : A = none → c = 0) :
    Calls Try.prog 48 #[.int .u32 gen, .int .i64 n, .slice A l.length c] w (RSecPost w (secL gen n l)) := by
  have q1 : ∀ w, Calls Try.prog 58 #[.int .u64 gen, .int .i64 4] w (RNumPost w (digs gen 4) 4) := fun w => rnum_any gen 4 w g0 (by omega) (by omega)
  have q2 : ∀ w, Calls Try.prog 58 #[.int .u64 n, .int .i64 4] w (RNumPost w (digs n 4) 4) := fun w => rnum_any n 4 w n0 (by omega) (by omega)
  have e1 : (digs gen 4).length = 4 := digs_length gen 4
  have e2 : (digs n 4).length = 4 := digs_length n 4
  have hsec := secL_ref gen n l hl
  have hH : refH gen n l = digs gen 4 ++ digs n 4 ++ [(l.length : Int)] ++ l := rfl
  have hHB : Bytes (refH gen n l) := by
    intro x hx
    rw [hH] at hx
    rcases List.mem_append.mp hx with hx | hx
    · rcases List.mem_append.mp hx with hx | hx
      · rcases List.mem_append.mp hx with hx | hx
        · exact digs_bytes _ _ x hx
        · exact digs_bytes _ _ x hx
      · rw [List.mem_singleton] at hx; subst hx; omega
    · exact hb x hx
  have hHL := refH_len gen n l
  generalize digs gen 4 = D1 at *
  generalize digs n 4 = D2 at *
  generalize refH gen n l = RH at *
  generalize secL gen n l = SL at *
  have HH := Lib.hid (And.intro hsec (And.intro hH (And.intro hHB hHL)))
  clear hsec hH hHB hHL
  go_enter Try.func48, Try.ntmps48
  go_wp2_with fail
  refine (q1 _).mono ?_
  rintro e w1 ⟨o1, rfl, hown1, hC1⟩
  go_wp2_with fail
  refine (q2 _).mono ?_
  rintro e w2 ⟨o2, rfl, hown2, hC2⟩
  obtain ⟨A2, c2, rfl, hl2, hc2, hrd2, _⟩ := own_rd hown2 (by omega)
  obtain ⟨ad2, rfl, _⟩ := hrd2.at_ 0 (by rw [hl2]; omega)
  have hown := own_chg hown1 hC2 (fun _ _ x => x)
  have hC := hC1.trans hC2 (fun _ _ x => x)
  have hx2 : (D2.map (Value.int .u8)).length = 4 := by rw [List.length_map, hl2]
  have HX := Lib.hid (show ∀ v, v = Value.slice (some ad2) 4 c2 → v = .slice (some ad2) (D2.map (Value.int .u8)).length c2 from fun v h => by rw [hx2]; exact h)
  have src2 := rd_src hrd2
  have one2 := one_u8 D2
  have b1 : 4 + (D2.map (Value.int .u8)).length ≤ 9223372036854775807 := by rw [hx2]; omega
  have b2 : (4 + (D2.map (Value.int .u8)).length) * 1 ≤ 140737488355328 := by rw [hx2]; omega
  clear hown1 hown2 hC1 hC2 hl2 hrd2 q1 q2 e1 e2
  go_upto_region 2 with (first | (at_builtin; refine append_src (w0 := w) (S := NoB) rfl (.tmp 10) (.tmp 13) 31 5 rfl (.int .u8 0) 1 Try.underlying31 info8 rfl o1 4 _ rfl hC hown (D2.map (Value.int .u8)) (some ad2) c2 (HX.out _ rfl) (fun e => by cases e) src2 one2 b1 b2 ?_; intro v3 w3 hown3 hC3))
  rw [hx2] at hown3
  have HXl := Lib.hid (show ∀ v, v = Value.slice A l.length c → v = .slice A (l.map (Value.int .u8)).length c from fun v h => by rw [List.length_map]; exact h)
  have onel := one_u8 l
  have srcl : ∀ w', Chg NoB w w' → 0 < (l.map (Value.int .u8)).length → ∃ ad, A = some ad ∧ ∀ j v, (l.map (Value.int .u8))[j]? = some v → w'.cell? (ad.add j) = some v := fun w' hc => rd_src (hr.chg hc (fun _ _ _ x => x))
  have b3 : 4 + 4 + 1 + (l.map (Value.int .u8)).length ≤ 9223372036854775807 := by rw [List.length_map]; omega
  have b4 : (4 + 4 + 1 + (l.map (Value.int .u8)).length) * 1 ≤ 140737488355328 := by rw [List.length_map]; omega
  clear hown hC src2 one2 b1 b2 HX hx2 hc2
  go_upto_region 3 with (first
    | (at_builtin; go_loud (refine append_one (w0 := w) (S := NoB) rfl (.tmp 15) (.tmp 19) 31 5 rfl (.int .u8 0) 1 Try.underlying31 info8 rfl v3 (4 + 4) _ (by rfl) hC3 hown3 (.int .u8 l.length) _ (by rfl) rfl (by omega) (by omega) ?_); intro v4 w4 hown4 hC4; have src4 := srcl w4 hC4)
    | (at_builtin; refine append_src (w0 := w) (S := NoB) rfl (.tmp 20) (.tmp 21) 31 5 rfl (.int .u8 0) 1 Try.underlying31 info8 rfl v4 (4 + 4 + 1) _ rfl hC4 hown4 (l.map (Value.int .u8)) A c (HXl.out _ rfl) hnil src4 onel b3 b4 ?_; intro v5 w5 hown5 hC5))
  have hB : RSecRel RH l.length w v5 w5 := by
    refine ⟨0, 9 + l.length, by omega, by omega, ?_, hC5⟩
    rw [HH.out.2.1]
    simp only [List.length_map] at hown5
    rw [show 4 + 4 + 1 + l.length = 9 + l.length by omega] at hown5
    rw [List.replicate_zero, List.append_nil, List.map_append, List.map_append, List.map_append]
    exact hown5
  clear hown3 hC3 hown4 hC4 hown5 hC5 src4 srcl onel b3 b4 HXl
  go_wp2_with fail
  go_loopw [7] (fun o wr => RSecRel RH l.length w o wr) (fun o wr => toGo o)
  case atStart => exact hB
  case round =>
    clear hB
    obtain ⟨m, N, hN, hN6, hown, hC⟩ := hrel
    obtain ⟨A5, c5, e5, hlen, hnc, hrd, _⟩ := own_rd hown (by omega)
    by_cases hlt : N < 60
    · have hown2 := hown
      have nx : ∀ v' w', w'.ownsRow w.heap.size 5 1 v' (N + 1) ((RH ++ List.replicate m 0).map (Value.int .u8) ++ [.int .u8 0]) → Chg NoB w w' → RSecRel RH l.length w v' w' ∧ toGo v' < 60 - N := by
        intro v' w' h1 h2
        have h3 : w'.ownsRow w.heap.size 5 1 v' (N + 1) ((RH ++ List.replicate (m + 1) 0).map (Value.int .u8)) := by
          rw [List.replicate_succ', ← List.append_assoc, List.map_append, List.map_singleton]
          exact h1
        obtain ⟨A6, c6, e6, _⟩ := own_rd h3 (by omega)
        exact ⟨⟨m + 1, N + 1, by omega, by omega, h3, h2⟩, by rw [e6]; show 60 - (N + 1) < 60 - N; omega⟩
      have NX := Lib.hid nx
      subst e5
      clear nx hown2 hlen hrd hN
      go_wp2_with (first | (at_builtin; go_loud (refine append_one (w0 := w) (S := NoB) rfl (.tmp 26) (.tmp 27) 31 5 rfl (.int .u8 0) 1 Try.underlying31 info8 rfl (.slice A5 N c5) N _ (by rfl) hC hown (.int .u8 0) _ (by rfl) rfl (by omega) (by omega) ?_); intro v6 w6 hown6 hC6) | go_in)
      exact NX.out v6 w6 hown6 hC6
    · have h60 := Lib.hid (show N = 60 by omega)
      have hm : m = 51 - l.length := by omega
      rw [hm] at hown hrd hlen
      clear hm hN hN6
      subst e5
      have hbb : Bytes (RH ++ List.replicate (51 - l.length) 0) := by
        intro x hx
        rcases List.mem_append.mp hx with hx | hx
        · exact HH.out.2.2.1 x hx
        · exact bytes_zero _ x hx
      have hseq := HH.out.1
      clear HH
      generalize RH ++ List.replicate (51 - l.length) 0 = L6 at hown hrd hlen hbb hseq
      have rs := rsum_any A5 c5 L6 wr hrd hbb
      rw [hlen] at rs
      have sr := sum32_range (fold 14695981039346656037 L6)
      have hHS := Lib.hid hseq
      clear hseq hbb hrd
      generalize sum32 (fold 14695981039346656037 L6) = y at rs sr hHS
      obtain ⟨sr0, sr1⟩ := sr
      go_wp2_with fail
      refine rs.mono ?_
      rintro e w7 ⟨rfl, rfl⟩
      clear rs
      have q3 : Calls Try.prog 58 #[.int .u64 y, .int .i64 4] wr (RNumPost wr (digs y 4) 4) := rnum_any y 4 wr sr0 (by omega) (by omega)
      have e4 : (digs y 4).length = 4 := digs_length y 4
      generalize digs y 4 = D4 at q3 hHS e4
      go_wp2_with fail
      refine q3.mono ?_
      rintro e w8 ⟨o4, rfl, hown4, hC4⟩
      obtain ⟨A4, c4, rfl, hl4, _, hrd4, _⟩ := own_rd hown4 (by omega)
      obtain ⟨ad4, rfl, _⟩ := hrd4.at_ 0 (by rw [hl4]; omega)
      have hx4 : (D4.map (Value.int .u8)).length = 4 := by rw [List.length_map, hl4]
      have HX4 := Lib.hid (show ∀ v, v = Value.slice (some ad4) 4 c4 → v = .slice (some ad4) (D4.map (Value.int .u8)).length c4 from fun v h => by rw [hx4]; exact h)
      have src4 := rd_src hrd4
      have one4 := one_u8 D4
      have hown8 := own_chg hown hC4 (fun _ _ x => x)
      have hC8 := hC.trans hC4 (fun _ _ x => x)
      have b1 : N + (D4.map (Value.int .u8)).length ≤ 9223372036854775807 := by rw [hx4, h60.out]; omega
      have b2 : (N + (D4.map (Value.int .u8)).length) * 1 ≤ 140737488355328 := by rw [hx4, h60.out]; omega
      have fin : ∀ v' w', w'.ownsRow w.heap.size 5 1 v' (N + (D4.map (Value.int .u8)).length) (L6.map (Value.int .u8) ++ D4.map (Value.int .u8)) → Chg NoB w w' → RSecPost w SL (.returned v') w' := by
        intro v' w' h1 h2
        rw [hx4, h60.out, ← List.map_append, ← hHS.out] at h1
        obtain ⟨A9, c9, rfl, _, _, h3, _⟩ := own_rd h1 (by omega)
        exact ⟨A9, c9, rfl, h3, h2⟩
      have FI := Lib.hid fin
      clear fin hown hC hown4 hC4 hl4 hrd4 hx4 q3 e4 hHS h60 hlen hnc sr0 sr1 hlt
      go_wp2_with (first | (at_builtin; refine append_src (w0 := w) (S := NoB) rfl (.tmp 29) (.tmp 33) 31 5 rfl (.int .u8 0) 1 Try.underlying31 info8 rfl (.slice A5 N c5) N _ rfl hC8 hown8 (D4.map (Value.int .u8)) (some ad4) c4 (HX4.out _ rfl) (fun e => by cases e) src4 one4 b1 b2 ?_; intro v9 w9 hown9 hC9; have F := FI.out v9 w9 hown9 hC9) | go_in)
      go_ret
      exact F
end Go.Proofs.Ytmonkoclbcahiaa.Log
