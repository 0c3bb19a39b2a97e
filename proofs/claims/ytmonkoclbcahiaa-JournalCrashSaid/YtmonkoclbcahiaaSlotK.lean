/- The reference's Head. -/
import Derived.Test.YtmonkoclbcahiaaLogH
import Derived.Test.YtmonkoclbcahiaaSlotE
namespace Go.Proofs.Ytmonkoclbcahiaa.Slot
open Go.RowKit Go.Proofs.Ytmonkoclbcahiaa.Hp Go.Proofs.Ytmonkoclbcahiaa.By Go.Proofs.Ytmonkoclbcahiaa.Disk Go.Proofs.Ytmonkoclbcahiaa.Word Go.Proofs.Ytmonkoclbcahiaa.WordP Go.Proofs.Ytmonkoclbcahiaa.Log
set_option linter.unusedVariables false
set_option linter.unusedSimpArgs false
section
variable {P : Program} {ops : Array Oper} {rest : List Oper} {o : Oper} {a : Act} {Q : Exit → Act → World → Prop}
/-- append of all that another slice holds (nil too), onto a slice of the call's own: only its own block changes -/
theorem append_src3 {w : World} (base : Nat) (hgd : o.guard = none) (s x : Operand) (t e : TypeId) (ho : o.op = .call { callee := .builtin .append, args := #[s, x], argTypes := #[t, t] })
    (z : Value) (bytes : Nat) (ht : P.underlying t = some (.slice e)) (hinfo : (P.info? e).map (fun i => (i.zero, i.size, i.bytes)) = some (some z, 1, bytes)) (hz : z.cells.size = 1)
    (v : Value) (n : Nat) (ys : List Value) (hs : a.eval s = v) (hbase : base ≤ w.heap.size) (hown : w.ownsRow base e 1 v n ys) (xs : List Value) (sp : Option Addr) (c : Nat) (hx : a.eval x = .slice sp xs.length c) (hnil : sp = none → c = 0)
    (hsrc : 0 < xs.length → ∃ ad, sp = some ad ∧ ∀ j v, xs[j]? = some v → w.cell? (ad.add j) = some v) (hu : ∀ u ∈ xs, u.oneCell' = true)
    (h1 : n + xs.length ≤ 9223372036854775807) (h2 : (n + xs.length) * bytes ≤ 140737488355328)
    (h : ∀ v' w', w'.ownsRow base e 1 v' (n + xs.length) (ys ++ xs) → Chg (fun i => v.ownBlock = some i) w w' → wpList P ops Q rest (a.put o.dst v') w') :
    wpList P ops Q (o :: rest) a w := by
  obtain ⟨i0, hi, hz0, hz1, hz2⟩ := info_parts hinfo
  cases sp with
  | none =>
    have hx0 : xs = [] := by
      by_cases c : 0 < xs.length
      · obtain ⟨ad, hh, _⟩ := hsrc c; cases hh
      · exact List.eq_nil_of_length_eq_zero (by omega)
    subst hx0
    obtain rfl := hnil rfl
    refine wpList_append_own_none hgd s x t ho base e i0 1 ht hi v n ys hs hown hx ?_
    exact h v w (by simpa using hown) (Chg.refl _ _)
  | some ad =>
    have hsrc2 : ∀ j u, xs[j]? = some u → w.cell? (ad.add j) = some u := by
      intro j u hj
      obtain ⟨ad', hh, hc⟩ := hsrc (by have := (List.getElem?_eq_some_iff.1 hj).1; omega)
      obtain rfl := Option.some.inj hh
      exact hc j u hj
    exact append_src2 base hgd s x t e ho z bytes ht hinfo hz v n ys hs hbase hown xs ad c hx hsrc2 hu h1 h2 h
end
theorem own_lit (w : World) (base : Nat) (e : TypeId) (hb : base ≤ w.heap.size) : (w.alloc (.cells #[] e)).ownsRow base e 1 (.slice (some ⟨w.heap.size, 0, none⟩) 0 0) 0 [] :=
  ⟨rfl, .inr ⟨w.heap.size, 0, #[], rfl, hb, bnew w _, by omega, by unfold maxLen; omega, rfl, rfl⟩⟩
/-- the first eight bytes of a head -/
def headR (gen : Int) (l : List Int) : List Int := digs gen 4 ++ digs l.length 4
theorem headR_eq (gen : Int) (l : List Int) : headR gen l = (headH gen l.length).take 8 := by
  have d4 : ∀ v, (digs v 4).length = 4 := fun v => digs_length v 4
  have e1 : (spl (List.replicate 64 0) 0 (digs gen 4)).length = 64 := by rw [spl_length _ _ _ (by rw [d4]; simp)]; simp
  apply List.ext_getElem?
  intro j
  rw [List.getElem?_take]
  unfold headR headH
  by_cases c : j < 8
  · rw [if_pos c, spl_get _ _ 4 j (by rw [d4, e1]; omega), d4]
    by_cases c4 : 4 ≤ j
    · rw [if_pos (by omega), List.getElem?_append_right (by rw [d4]; exact c4), d4]
    · rw [if_neg (by omega), List.getElem?_append_left (by rw [d4]; omega), spl_get _ _ 0 j (by rw [d4]; simp), d4, if_pos (by omega)]; congr 1
  · rw [if_neg c, List.getElem?_eq_none (by rw [List.length_append, d4, d4]; omega)]
theorem headL_ref (gen : Int) (l : List Int) : headL gen l = headR gen l ++ digs (sum32 (fold 14695981039346656037 (headR gen l ++ l))) 4 ++ List.replicate 52 0 := by
  have d4 : ∀ v, (digs v 4).length = 4 := fun v => digs_length v 4
  have e1 : (spl (List.replicate 64 0) 0 (digs gen 4)).length = 64 := by rw [spl_length _ _ _ (by rw [d4]; simp)]; simp
  have hl := headH_len gen l.length
  rw [headR_eq]
  unfold headL
  unfold spl
  rw [d4, show headH gen l.length = headH gen l.length from rfl]
  congr 1
def RHdRel (R12 : List Int) (w : World) (o : Value) (wr : World) : Prop := ∃ m N : Nat, N = 12 + m ∧ N ≤ 64 ∧ wr.ownsRow w.heap.size 5 1 o N ((R12 ++ List.replicate m 0).map (Value.int .u8)) ∧ Chg NoB w wr
def toGo4 : Value → Nat
  | .slice _ n _ => 64 - n
  | _ => 64
def RHdPost (w : World) (l : List Int) (e : Ending) (w' : World) : Prop := ∃ A c, e = .returned (.slice A 64 c) ∧ Rd w' .u8 A l ∧ Chg NoB w w'
set_option maxRecDepth 100000 in
set_option maxHeartbeats 2000000 in
theorem rhead_any (gen : Int) (A : Option Addr) (c : Nat) (l : List Int) (w : World) (g0 : 0 ≤ gen) (g1 : gen < 4294967296) (hl : l.length ≤ 100000) (hr : Rd w .u8 A l) (hb : Bytes l) (hnil : A = none → c = 0) :
    Calls Try.prog 47 #[.int .u32 gen, .slice A l.length c] w (RHdPost w (headL gen l)) := by
  have q1 : ∀ w, Calls Try.prog 58 #[.int .u64 gen, .int .i64 4] w (RNumPost w (digs gen 4) 4) := fun w => rnum_any gen 4 w g0 (by omega) (by omega)
  have q2 : ∀ w, Calls Try.prog 58 #[.int .u64 l.length, .int .i64 4] w (RNumPost w (digs l.length 4) 4) := fun w => rnum_any l.length 4 w (by omega) (by omega) (by omega)
  have e1 : (digs gen 4).length = 4 := digs_length gen 4
  have e2 : (digs (l.length : Int) 4).length = 4 := digs_length _ 4
  have hsec := headL_ref gen l
  have hH : headR gen l = digs gen 4 ++ digs l.length 4 := rfl
  have hHB : Bytes (headR gen l) := by
    intro x hx
    rw [hH] at hx
    rcases List.mem_append.mp hx with hx | hx
    · exact digs_bytes _ _ x hx
    · exact digs_bytes _ _ x hx
  generalize digs gen 4 = D1 at *
  generalize digs (l.length : Int) 4 = D2 at *
  generalize headR gen l = RH at *
  generalize headL gen l = SL at *
  have hHL : RH.length = 8 := by rw [hH, List.length_append]; omega
  have HH := Lib.hid (And.intro hsec (And.intro hH (And.intro hHB hHL)))
  clear hsec hH hHB hHL
  go_enter Try.func47, Try.ntmps47
  go_wp2_with fail
  refine (q1 _).mono ?_
  rintro e w1 ⟨o1, rfl, hown1, hC1⟩
  go_wp2_with fail
  refine (q2 _).mono ?_
  rintro e w2 ⟨o2, rfl, hown2, hC2⟩
  obtain ⟨A2, c2, rfl, hl2, hc2, hrd2, _⟩ := own_rd hown2 (by omega)
  obtain ⟨ad2, rfl, _⟩ := hrd2.at_ 0 (by rw [hl2]; omega)
  have hown := own_chg hown1 hC2 (fun _ _ x => x)
  have hC := hC1.trans hC2 (fun _ _ x => x)
  have hx2 : (D2.map (Value.int .u8)).length = 4 := by rw [List.length_map, hl2]
  have HX := Lib.hid (show ∀ v, v = Value.slice (some ad2) 4 c2 → v = .slice (some ad2) (D2.map (Value.int .u8)).length c2 from fun v h => by rw [hx2]; exact h)
  have src2 := rd_src hrd2
  have one2 := one_u8 D2
  have b1 : 4 + (D2.map (Value.int .u8)).length ≤ 9223372036854775807 := by rw [hx2]; omega
  have b2 : (4 + (D2.map (Value.int .u8)).length) * 1 ≤ 140737488355328 := by rw [hx2]; omega
  clear hown1 hown2 hC1 hC2 hl2 hrd2 q1 q2 e1 e2
  go_upto_region 2 with (first | (at_builtin; refine append_src (w0 := w) (S := NoB) rfl (.tmp 8) (.tmp 12) 31 5 rfl (.int .u8 0) 1 Try.underlying31 info8 rfl o1 4 _ rfl hC hown (D2.map (Value.int .u8)) (some ad2) c2 (HX.out _ rfl) (fun e => by cases e) src2 one2 b1 b2 ?_; intro v3 w3 hown3 hC3))
  rw [hx2] at hown3
  rw [← List.map_append, ← HH.out.2.1] at hown3
  clear hown hC src2 one2 b1 b2 HX hx2 hc2
  obtain ⟨A3, c3, rfl, hl3, hc3, hrd3, _⟩ := own_rd hown3 (by omega)
  obtain ⟨ad3, rfl, _⟩ := hrd3.at_ 0 (by rw [hl3]; omega)
  have hx3 : (RH.map (Value.int .u8)).length = 8 := by rw [List.length_map, hl3]
  have HX3 := Lib.hid (show ∀ v, v = Value.slice (some ad3) (4 + 4) c3 → v = .slice (some ad3) (RH.map (Value.int .u8)).length c3 from fun v h => by rw [hx3]; exact h)
  have HXl := Lib.hid (show ∀ v, v = Value.slice A l.length c → v = .slice A (l.map (Value.int .u8)).length c from fun v h => by rw [List.length_map]; exact h)
  have cA := (Chg.refl NoB w3).alloc (.cells #[] 5)
  have src3 := rd_src (hrd3.chg cA (fun _ _ _ x => x))
  have one3 := one_u8 RH
  have onel := one_u8 l
  have ol := own_lit w3 w3.heap.size 5 (Nat.le_refl _)
  have b1 : 0 + (RH.map (Value.int .u8)).length ≤ 9223372036854775807 := by omega
  have b2 : (0 + (RH.map (Value.int .u8)).length) * 1 ≤ 140737488355328 := by omega
  have hml : (l.map (Value.int .u8)).length = l.length := List.length_map _
  have b3 : 0 + (RH.map (Value.int .u8)).length + (l.map (Value.int .u8)).length ≤ 9223372036854775807 := by omega
  have b4 : (0 + (RH.map (Value.int .u8)).length + (l.map (Value.int .u8)).length) * 1 ≤ 140737488355328 := by omega
  have hz4 : w3.heap.size ≤ (w3.alloc (.cells #[] 5)).heap.size := cA.size
  have st4 : ∀ w4, Chg (fun i => (Value.slice (some ⟨w3.heap.size, 0, none⟩) 0 0).ownBlock = some i) (w3.alloc (.cells #[] 5)) w4 → Chg NoB w3 w4 := fun w4 h4 => cA.trans h4 (fun i hi x => by simp [Value.ownBlock] at x; omega)
  have srcl : ∀ w', Chg NoB w3 w' → 0 < (l.map (Value.int .u8)).length → ∃ ad, A = some ad ∧ ∀ j v, (l.map (Value.int .u8))[j]? = some v → w'.cell? (ad.add j) = some v := fun w' hc => rd_src ((hr.chg hC3 (fun _ _ _ x => x)).chg hc (fun _ _ _ x => x))
  have sume : ∀ w5 v5, Chg NoB w3 w5 → w5.ownsRow w3.heap.size 5 1 v5 (0 + (RH.map (Value.int .u8)).length + (l.map (Value.int .u8)).length) ([] ++ RH.map (Value.int .u8) ++ l.map (Value.int .u8)) → Calls Try.prog 59 #[v5] w5 (SumPost (sum32 (fold 14695981039346656037 (RH ++ l))) w5) := by
    intro w5 v5 hc h5
    rw [List.nil_append, ← List.map_append] at h5
    obtain ⟨A5, c5, rfl, hl5, _, hrd5, _⟩ := own_rd h5 (by omega)
    have := rsum_any A5 c5 (RH ++ l) w5 hrd5 (fun x hx => by
      rcases List.mem_append.mp hx with hx | hx
      · exact HH.out.2.2.1 x hx
      · exact hb x hx)
    rwa [hl5] at this
  have sr := sum32_range (fold 14695981039346656037 (RH ++ l))
  have hsq := HH.out.1
  generalize sum32 (fold 14695981039346656037 (RH ++ l)) = y at sume sr hsq
  obtain ⟨sr0, sr1⟩ := sr
  have q3 : ∀ w', Calls Try.prog 58 #[.int .u64 y, .int .i64 4] w' (RNumPost w' (digs y 4) 4) := fun w' => rnum_any y 4 w' sr0 (by omega) (by omega)
  have e4 : (digs y 4).length = 4 := digs_length y 4
  generalize digs y 4 = D4 at q3 hsq e4
  have hx4 : (D4.map (Value.int .u8)).length = 4 := by rw [List.length_map, e4]
  have HX4 := Lib.hid (show ∀ A c v, v = Value.slice A 4 c → v = .slice A (D4.map (Value.int .u8)).length c from fun A c v h => by rw [hx4]; exact h)
  have one4 := one_u8 D4
  have b5 : 4 + 4 + (D4.map (Value.int .u8)).length ≤ 9223372036854775807 := by omega
  have b6 : (4 + 4 + (D4.map (Value.int .u8)).length) * 1 ≤ 140737488355328 := by omega
  have HQ := Lib.hid (And.intro hsq (And.intro hx4 (And.intro hown3 hC3)))
  clear hsq e4 hx4 hx3 hml hr hb hrd3 hl3 HH
  go_upto_region 3 with (first
    | (at_builtin; refine append_src3 w3.heap.size rfl (.tmp 15) (.tmp 16) 31 5 rfl (.int .u8 0) 1 Try.underlying31 info8 rfl (.slice (some ⟨w3.heap.size, 0, none⟩) 0 0) 0 [] rfl hz4 ol (RH.map (Value.int .u8)) (some ad3) c3 (HX3.out _ rfl) (fun e => by cases e) src3 one3 b1 b2 ?_; intro v4 w4 hown4 hC4; have d4 := st4 w4 hC4; have sl4 := srcl w4 d4; have z4 := d4.size)
    | (at_builtin; refine append_src3 w3.heap.size rfl (.tmp 17) (.tmp 18) 31 5 rfl (.int .u8 0) 1 Try.underlying31 info8 rfl v4 _ _ rfl z4 hown4 (l.map (Value.int .u8)) A c (HXl.out _ rfl) hnil sl4 onel b3 b4 ?_; intro v5 w5 hown5 hC5; have d5 : Chg NoB w3 w5 := d4.trans hC5 (fun i hi x => by have := (own_ge hown4 i x).1; omega); have sm := sume w5 v5 d5 hown5)
    | ((with_reducible refine sm.mono ?_); rintro e w6 ⟨rfl, rfl⟩; have nm := q3 w5)
    | ((with_reducible refine nm.mono ?_); rintro e w7 ⟨o4, rfl, hown7, hC7⟩; obtain ⟨A7, c7, rfl, hl7, _, hrd7, _⟩ := own_rd hown7 (by omega); obtain ⟨ad7, rfl, _⟩ := hrd7.at_ 0 (by omega); have src7 := rd_src hrd7; have d7 := d5.trans hC7 (fun _ _ x => x); have own7 := own_chg HQ.out.2.2.1 d7 (fun _ _ x => x); have dC7 := HQ.out.2.2.2.trans d7 (fun _ _ x => x))
    | (at_builtin; refine append_src (w0 := w) (S := NoB) rfl (.tmp 14) (.tmp 22) 31 5 rfl (.int .u8 0) 1 Try.underlying31 info8 rfl (.slice (some ad3) (4 + 4) c3) (4 + 4) _ rfl dC7 own7 (D4.map (Value.int .u8)) (some ad7) c7 (HX4.out _ _ _ rfl) (fun e => by cases e) src7 one4 b5 b6 ?_; intro v9 w9 hown9 hC9))
  have hB : RHdRel (RH ++ D4) w v9 w9 := by
    refine ⟨0, 12, rfl, by omega, ?_, hC9⟩
    rw [HQ.out.2.1] at hown9
    rw [List.replicate_zero, List.append_nil, List.map_append]
    exact hown9
  have HS := Lib.hid HQ.out.1
  clear hown3 hC3 hown4 hC4 hown5 hC5 hown7 hC7 hown9 hC9 src3 src7 srcl sl4 sume sm nm q3 st4 ol cA d4 d5 d7 own7 dC7 HQ HX3 HX4 HXl one3 one4 onel b1 b2 b3 b4 b5 b6 hz4 z4 hrd7 hl7 sr0 sr1 hc3
  go_wp2_with fail
  go_loopw [5] (fun o wr => RHdRel (RH ++ D4) w o wr) (fun o wr => toGo4 o)
  case atStart => exact hB
  case round =>
    clear hB
    obtain ⟨m, N, hN, hN6, hown, hC⟩ := hrel
    obtain ⟨A5, c5, e5, hlen, hnc, hrd, _⟩ := own_rd hown (by omega)
    by_cases hlt : N < 64
    · have nx : ∀ v' w', w'.ownsRow w.heap.size 5 1 v' (N + 1) (((RH ++ D4) ++ List.replicate m 0).map (Value.int .u8) ++ [.int .u8 0]) → Chg NoB w w' → RHdRel (RH ++ D4) w v' w' ∧ toGo4 v' < 64 - N := by
        intro v' w' h1 h2
        have h3 : w'.ownsRow w.heap.size 5 1 v' (N + 1) (((RH ++ D4) ++ List.replicate (m + 1) 0).map (Value.int .u8)) := by
          rw [List.replicate_succ', ← List.append_assoc, List.map_append, List.map_singleton]
          exact h1
        obtain ⟨A6, c6, e6, _⟩ := own_rd h3 (by omega)
        exact ⟨⟨m + 1, N + 1, by omega, by omega, h3, h2⟩, by rw [e6]; show 64 - (N + 1) < 64 - N; omega⟩
      have NX := Lib.hid nx
      subst e5
      clear nx hlen hrd hN HS
      go_wp2_with (first | (at_builtin; go_loud (refine append_one (w0 := w) (S := NoB) rfl (.tmp 27) (.tmp 28) 31 5 rfl (.int .u8 0) 1 Try.underlying31 info8 rfl (.slice A5 N c5) N _ (by rfl) hC hown (.int .u8 0) _ (by rfl) rfl (by omega) (by omega) ?_); intro v6 w6 hown6 hC6) | go_in)
      exact NX.out v6 w6 hown6 hC6
    · have hm : m = 52 := by omega
      obtain ⟨N', hN'⟩ : ∃ N', N' = N := ⟨_, rfl⟩
      have hNN : N = 64 := by omega
      have fin : RHdPost w SL (.returned (.slice A5 N c5)) wr := by
        rw [hm, ← HS.out] at hrd
        exact ⟨A5, c5, by rw [hNN], hrd, hC⟩
      have F := Lib.hid fin
      subst e5
      clear hm hN hN6 hNN fin hrd hlen hown hC HS hN'
      go_wp2_with fail
      go_ret
      exact F.out
end Go.Proofs.Ytmonkoclbcahiaa.Slot
