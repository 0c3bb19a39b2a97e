/- Chapter 6: JournalPlays: the walk. -/
import Derived.Test.YtmonkoclbcahiaaJourG
namespace Go.Proofs.Ytmonkoclbcahiaa.Jour
open Go.RowKit Go.Proofs.Ytmonkoclbcahiaa.Hp Go.Proofs.Ytmonkoclbcahiaa.By Go.Proofs.Ytmonkoclbcahiaa.Disk Go.Proofs.Ytmonkoclbcahiaa.Word Go.Proofs.Ytmonkoclbcahiaa.WordP Go.Proofs.Ytmonkoclbcahiaa.Log Go.Proofs.Ytmonkoclbcahiaa.Slot
set_option linter.unusedVariables false
set_option linter.unusedSimpArgs false
section
variable {P : Program} {ops : Array Oper} {rest : List Oper} {o : Oper} {a : Act} {Q : Exit → Act → World → Prop}
/-- where the row lies behind an append: where it lay, or new -/
theorem run_append_where (w : World) (base : Nat) (t ty e : TypeId) (i : TypeInfo) (z : Value) (size bytes : Nat) (ht : P.underlying t = some (.slice e)) (hi : P.info? e = some i) (hz : i.zero = some z)
    (hsize : i.size = size) (hby : i.bytes = bytes) (hzs : z.cells.size = size) (hsz : 0 < size) (v : Value) (n : Nat) (xs : List Value) (hown : w.ownsRow base e size v n xs)
    (ad : Addr) (m c : Nat) (news : List Value) (hl : news.length = m * size) (hnews : ∀ j u, news[j]? = some u → w.cell? (ad.add j) = some u) (h1 : ∀ u ∈ news, u.oneCell' = true)
    (h63 : n + m ≤ maxLen) (hbytes : (n + m) * bytes ≤ 140737488355328) :
    ∀ v' w', (Builtin.append_ #[t, t] ty #[v, .slice (some ad) m c]).run P w = .ok v' w' → ∀ g, v'.ownBlock = some g → v.ownBlock = some g ∨ w.heap.size ≤ g := by
  subst hsize
  subst hby
  have hsmall : n + m ≤ 9223372036854775807 := by simp only [maxLen] at h63; omega
  intro v' w' hrun g hg
  rcases hown.2 with ⟨rfl, rfl⟩ | ⟨g0, cap, cur, rfl, hbg, hcur, hnc, hcm, hcs, htake⟩
  · by_cases hm : m = 0
    · subst hm
      have hn : news = [] := List.eq_nil_of_length_eq_zero (by simpa using hl)
      subst hn
      have e0 : (Builtin.append_ #[t, t] ty #[.slice none 0 0, .slice (some ad) 0 c]).run P w = .ok (.slice none 0 0) w := by
        simp [Builtin.append_, run_underlying ht, sizeOf, typeInfo, hi, Builtin.lenOf, Builtin.firstCells, loadCells, loadCellsFrom]
      rw [e0] at hrun
      injection hrun with a1 a2
      subst a1
      simp [Value.ownBlock] at hg
    · have hr := run_append_nil (P := P) w t ty e i z ht hi hz ad m c news hl hnews (by omega) (by omega) (by have hb := hbytes; simp only [Nat.zero_add] at hb; omega)
      rw [hr] at hrun
      injection hrun with a1 a2
      subst a1
      simp [Value.ownBlock] at hg
      right; omega
  · by_cases hroom : n + m ≤ cap
    · have hfit : n * i.size + news.length ≤ cur.size := by rw [hl, hcs, ← Nat.add_mul]; exact Nat.mul_le_mul_right _ hroom
      have hr := run_append_room (P := P) w t ty e i ht hi g0 n cap cur hcur ad m c news hl hnews h1 hroom hfit
      rw [hr] at hrun
      injection hrun with a1 a2
      subst a1
      simp [Value.ownBlock] at hg
      left; simp [Value.ownBlock]; omega
    · have holds : ∀ j u, xs[j]? = some u → w.cell? ((⟨g0, 0, none⟩ : Addr).add j) = some u := hown.cells (g := g0) rfl
      have hr := run_append_grow (P := P) w t ty e i z ht hi hz ⟨g0, 0, none⟩ n cap xs hown.1 holds ad m c news hl hnews (by omega) (by omega) (growslice_fits (by omega) hbytes)
      rw [hr] at hrun
      injection hrun with a1 a2
      subst a1
      simp [Value.ownBlock] at hg
      right; omega
/-- an append onto a row of the call's own: where the row lies then is told too -/
theorem append_own3 {w : World} {base : Nat} (hgd : o.guard = none) (s x : Operand) (t e : TypeId) (ho : o.op = .call { callee := .builtin .append, args := #[s, x], argTypes := #[t, t] })
    (z : Value) (bytes : Nat) (ht : P.underlying t = some (.slice e)) (hinfo : (P.info? e).map (fun i => (i.zero, i.size, i.bytes)) = some (some z, 1, bytes)) (hz : z.cells.size = 1)
    (v : Value) (n : Nat) (xs : List Value) (hs : a.eval s = v) (hbase : base ≤ w.heap.size) (hown : w.ownsRow base e 1 v n xs) (u : Value) (T : TypeId) (hx : a.eval x = .slice (some ⟨w.heap.size, 0, none⟩) 1 1) (hu : u.oneCell' = true)
    (h1 : n + 1 ≤ 9223372036854775807) (h2 : (n + 1) * bytes ≤ 140737488355328)
    (h : ∀ v' w', w'.ownsRow base e 1 v' (n + 1) (xs ++ [u]) → Chg (fun i => v.ownBlock = some i) w w' → (∀ g, v'.ownBlock = some g → v.ownBlock = some g ∨ w.heap.size ≤ g) → wpList P ops Q rest (a.put o.dst v') w') :
    wpList P ops Q (o :: rest) a (w.alloc (.cells #[u] T)) := by
  obtain ⟨i0, hi, hz0, hz1, hz2⟩ := info_parts hinfo
  have hb : Blk (w.alloc (.cells #[u] T)) w.heap.size #[u] T := bnew w _
  have hnews : ∀ j u', ([u] : List Value)[j]? = some u' → (w.alloc (.cells #[u] T)).cell? ((⟨w.heap.size, 0, none⟩ : Addr).add j) = some u' := by
    intro j u' hj
    have : j = 0 := by
      have := (List.getElem?_eq_some_iff.1 hj).1
      simp at this; omega
    subst this
    have e : (⟨w.heap.size, 0, none⟩ : Addr).add 0 = ⟨w.heap.size, 0, none⟩ := rfl
    rw [e, bcell hb 0]
    simpa using hj
  have hone : ∀ u' ∈ ([u] : List Value), u'.oneCell' = true := by
    intro u' hu'
    have : u' = u := by simpa using hu'
    subst this; exact hu
  obtain ⟨v', w', hr, h4, h5, _⟩ := run_append_own (P := P) (w.alloc (.cells #[u] T)) base t o.type e i0 z 1 bytes ht hi hz0 hz1 hz2 hz (by decide) v n xs (hown.alloc _) ⟨w.heap.size, 0, none⟩ 1 1 [u] rfl hnews hone (by unfold maxLen; omega) h2 (by simp; omega)
  have hw := run_append_where (P := P) (w.alloc (.cells #[u] T)) base t o.type e i0 z 1 bytes ht hi hz0 hz1 hz2 hz (by decide) v n xs (hown.alloc _) ⟨w.heap.size, 0, none⟩ 1 1 [u] rfl hnews hone (by unfold maxLen; omega) h2 v' w' hr
  refine wpList_plain hgd fun _ hK => ?_
  unfold Oper.wp execOp
  simp only [ho, resolve, invoke, builtin, Sem.run_bind, Sem.run_pure, Result.andThen_ok, List.map_toArray, List.map_cons, List.map_nil, hs, hx, hr]
  refine hK _ _ (h v' w' h4 (((Chg.refl _ w).alloc _).trans (Chg.of_grownBy h5 (fun j hj => .inl hj)) (fun _ _ x => x)) (fun g hg => ?_))
  rcases hw g hg with x | x
  · exact .inl x
  · right; simp at x; omega
end
theorem jb_lt {w0 w : World} {j d : Nat} {ρ : Nat → Nat} {s : DSt} {gen n : Int} {br : Bool} (h : JL w0 w j d ρ s gen n br) : j < w.heap.size ∧ ρ w.heap.size = 0 := by
  refine ⟨blt (show Blk w j _ _ from h.2.1), ?_⟩
  obtain ⟨_, _, _, _, _, _, _, hp⟩ := h.1.at_
  exact hp.rz _ (Nat.le_refl _)
set_option maxRecDepth 100000 in
set_option maxHeartbeats 4000000 in
theorem journalPlays (A : Option Addr) (N c : Nat) (X : Nat → ActV) (w : World) (hX : IsActs w A N c X) (hx8 : ∀ i, i < N → ∀ y ∈ (X i).zs.take (X i).len, 0 ≤ y ∧ y ≤ 255) : Calls Try.prog 9 #[.slice A N c] w (True1 w) := by
  by_cases hl : 150 < N
  · clear hX hx8
    go_enter Try.func9, Try.ntmps9
    go_wp2_with fail
    refine (answers6 _).mono ?_
    rintro e w1 ⟨rfl, hC⟩
    have fin : True1 w (.returned (.bool true)) w1 := ⟨rfl, hC⟩
    clear hC
    go_wp2_with fail
    go_ret
    exact fin
  · have hn : N ≤ 150 := by omega
    have HR := Lib.hid (And.intro hX hx8)
    clear hX hx8 hl
    go_enter Try.func9, Try.ntmps9
    go_wp2_with fail
    refine (l_new 192 (by omega) (by omega) w).mono ?_
    rintro e w1 ⟨d, ρ, rfl, h⟩
    have ho := jopen_any h says_new
    clear h
    go_wp2_with fail
    refine ho.mono ?_
    rintro e w2 ⟨j, vb, Ao, ko, co, rfl, hJ, _, _, _, hko, q1, q2, _, _⟩
    rw [load_zero] at hJ q1 q2
    have hk0 : ko = 0 := stop_at says_new hko q1 q2 0 (by omega) (fun j hj => by omega) (.inr sum_zero)
    subst hk0
    have hJh := Lib.hid hJ
    clear ho hJ q1 q2
    go_wp2_with fail
    refine (answers6 _).mono ?_
    rintro e w3 ⟨rfl, hC3⟩
    have hB : JpB w j d N (.slice none 0 0) (.slice none 0 0) (.int .i64 0) w3 := ⟨0, ρ, _, _, 0, [], [], by omega, rfl, hJh.out.keep hC3, ⟨⟨rfl, fun _ => rfl, fun _ => rfl⟩, fun _ => List.length_replicate ..⟩, rfl, ⟨Int.le_refl _, fun _ => ⟨rfl, fun _ _ _ => rfl⟩, fun x => by omega⟩, log_new 0, Int.le_refl _, ⟨none, 0, rfl, by decide, fun hp => absurd hp (by decide)⟩, WRows.nil _ _, fun g hg => by simp [Value.ownBlock] at hg⟩
    clear hC3 hJh hko
    go_wp2_with fail
    go_loopw [8, 9, 10] (fun bv lv i wr => JpB w j d N bv lv i wr) (fun bv lv i wr => (200 - intOf i).toNat)
    case atStart => exact hB
    case round =>
      clear hB
      obtain ⟨m, ρ1, s, f, gen, bs, ws, hm, rfl, hS⟩ := hrel
      obtain ⟨AL, cL, rfl, _⟩ := hS.2.2.2.2.2.2.2.1.rows hS.1.1.ch
      have hw64 := hS.2.2.2.2.1.1
      by_cases hlt : m < N
      · obtain ⟨ad, rfl, hx⟩ : ∃ ad, A = some ad ∧ ActAt w ad m (X m) := by
          rcases HR.out.1 with ⟨_, h0, _⟩ | ⟨ad, e, _, _, hall⟩
          · omega
          · exact ⟨ad, e, hall m hlt⟩
        have hby := HR.out.2 m hlt
        obtain ⟨z0, z1⟩ := hx.two
        have x0 := hS.1.1.ch.cell z0 (fun x => x)
        have x1 := hS.1.1.ch.cell z1 (fun x => x)
        have hrow := hx.2
        generalize X m = x at *
        obtain ⟨xb, xA, xl, xc, xz⟩ := x
        dsimp only at x0 x1 hrow hby
        have HS := Lib.hid (And.intro hS (And.intro hrow hby))
        clear hS hrow hby hx z0 z1
        have cA : Chg NoB wr (wr.alloc (.cells #[.bool xb, .slice xA xl xc] 61)) := (Chg.refl NoB wr).alloc _
        have hSA := HS.out.1.keep cA
        obtain ⟨jl, jz⟩ := jb_lt HS.out.1.1
        have cellsA : ∀ w4, Chg (fun i => Own ρ1 i ∨ i = j) (wr.alloc (.cells #[.bool xb, .slice xA xl xc] 61)) w4 → w4.cell? ⟨wr.heap.size, 0, none⟩ = some (.bool xb) ∧ w4.cell? ⟨wr.heap.size, 1, none⟩ = some (.slice xA xl xc) := fun w4 hc => by
          have hb : Blk (wr.alloc (.cells #[.bool xb, .slice xA xl xc] 61)) wr.heap.size #[.bool xb, .slice xA xl xc] 61 := bnew wr _
          have hb4 := hc.blk hb (fun x => x.elim (fun q => q jz) (fun q => by omega))
          exact ⟨by rw [bcell hb4]; rfl, by rw [bcell hb4]; rfl⟩
        have nx : ∀ bv lv ρ' s' f' gen' bs' ws' w', JpS w w' j d bv lv (m + 1) ρ' s' f' gen' bs' ws' → JpB w j d N bv lv (.int .i64 ((m : Int) + 1)) w' := fun bv lv ρ' s' f' gen' bs' ws' w' h => ⟨m + 1, ρ', s', f', gen', bs', ws', by omega, rfl, h⟩
        have same : ∀ w4, Chg NoB (wr.alloc (.cells #[.bool xb, .slice xA xl xc] 61)) w4 → JpB w j d N u8 (.slice AL ws.length cL) (.int .i64 ((m : Int) + 1)) w4 ∧ Calls Try.prog 25 #[.pointer (some ⟨j, 0, none⟩)] w4 fun e w' => e = .returned (.int .i64 ws.length) ∧ w4 = w' := fun w4 hc =>
          ⟨nx _ _ _ _ _ _ _ _ _ (hSA.keep hc).up, len_any _ _ _ _ _ _ _ _ _ (hSA.keep hc).1⟩
        have HN := Lib.hid (And.intro cellsA (And.intro nx (And.intro same hSA)))
        clear cA hSA jl jz cellsA nx same
        cases xb with
        | true =>
          by_cases hbig : 960 < xl
          · have hd1 : decide (960 < (xl : Int)) = true := decide_eq_true (by omega)
            have hc := jreb_long HN.out.2.2.2.1 xA xl xc hbig
            clear hbig
            go_wp2_with fail
            refine hc.mono ?_
            rintro e w4 ⟨rfl, _, hC4⟩
            obtain ⟨y0, y1⟩ := HN.out.1 w4 (hC4.mono (fun _ _ x => x.elim))
            obtain ⟨fin, ln⟩ := HN.out.2.2.1 w4 hC4
            clear hc hC4 HN HS
            go_wp2_with (first | ((with_reducible refine ln.mono ?_); rintro e w5 ⟨rfl, rfl⟩) | go_in)
            exact ⟨fin, by simp [intOf]; omega⟩
          · have hd1 : decide (960 < (xl : Int)) = false := decide_eq_false (by omega)
            obtain ⟨r1, r2, r3, r4⟩ := rd_of_row HS.out.2.1 (by omega)
            have hc := reb_play HN.out.2.2.2 (by omega) xA xc (xz.take xl) (by omega) r1 (by omega) (fun y hy => by have := HS.out.2.2 y hy; omega)
            rw [r2] at hc
            clear r1 r3 r4 hbig
            go_wp2_with fail
            refine hc.mono ?_
            rintro e w4 ⟨rfl, ρ4, s4, f4, hS4, hC4⟩
            obtain ⟨y0, y1⟩ := HN.out.1 w4 hC4
            have fin := HN.out.2.1 _ _ _ _ _ _ _ _ _ hS4
            have ln := len_any _ _ _ _ _ _ _ _ _ hS4.1
            clear hc hC4 HN HS hS4 r2
            go_wp2_with (first | ((with_reducible refine ln.mono ?_); rintro e w5 ⟨rfl, rfl⟩) | go_in)
            exact ⟨fin, by simp [intOf]; omega⟩
        | false =>
          by_cases hbig : 50 < xl
          · have hd1 : decide (50 < (xl : Int)) = true := decide_eq_true (by omega)
            have hc := japp_big _ _ _ _ _ _ _ _ _ HN.out.2.2.2.1 xA xl xc hbig
            clear hbig
            go_wp2_with fail
            refine hc.mono ?_
            rintro e w4 ⟨rfl, rfl⟩
            obtain ⟨y0, y1⟩ := HN.out.1 _ (Chg.refl _ _)
            obtain ⟨fin, ln⟩ := HN.out.2.2.1 _ (Chg.refl _ _)
            clear hc HN HS
            go_wp2_with (first | ((with_reducible refine ln.mono ?_); rintro e w5 ⟨rfl, rfl⟩) | go_in)
            exact ⟨fin, by simp [intOf]; omega⟩
          · have hd1 : decide (50 < (xl : Int)) = false := decide_eq_false (by omega)
            by_cases hfull : 64 ≤ ws.length
            · have hd2 : decide (64 ≤ (ws.length : Int)) = true := decide_eq_true (by omega)
              have hc := japp_full _ _ _ _ _ _ _ _ _ HN.out.2.2.2.1 xA xl xc (by omega) (.inr (by omega))
              clear hbig hfull
              go_wp2_with fail
              refine hc.mono ?_
              rintro e w4 ⟨rfl, rfl⟩
              obtain ⟨y0, y1⟩ := HN.out.1 _ (Chg.refl _ _)
              obtain ⟨fin, ln⟩ := HN.out.2.2.1 _ (Chg.refl _ _)
              clear hc HN HS
              go_wp2_with (first | ((with_reducible refine ln.mono ?_); rintro e w5 ⟨rfl, rfl⟩) | go_in)
              exact ⟨fin, by simp [intOf]; omega⟩
            · have hd2 : decide (64 ≤ (ws.length : Int)) = false := decide_eq_false (by omega)
              obtain ⟨r1, r2, r3, r4⟩ := rd_of_row HS.out.2.1 (by omega)
              have hc := app_play HN.out.2.2.2 (by omega) xA xc (xz.take xl) (by omega) (by omega) r1 (fun y hy => by have := HS.out.2.2 y hy; omega)
              rw [r2] at hc
              clear r3 r4 hbig hfull
              go_wp2_with fail
              refine hc.mono ?_
              rintro e w4 ⟨rfl, ρ4, s4, f4, hS4, hC4, hz4⟩
              obtain ⟨y0, y1⟩ := HN.out.1 w4 hC4
              have hWA := HN.out.2.2.2.2.2.2.2.2.2.2.1
              have hOA := HN.out.2.2.2.2.2.2.2.2.2.2.2
              have hW4 := hWA.chg hC4 (fun g hg x => x.elim (fun q => q (hOA g hg).1) (fun q => (hOA g hg).2 q))
              have hO4 : ∀ g, (Value.slice AL ws.length cL).ownBlock = some g → ρ4 g = 0 ∧ g ≠ j ∧ w.heap.size ≤ g := fun g hg => ⟨hz4 g (hWA.lt g hg) (hOA g hg).1, (hOA g hg).2, by
                obtain ⟨SV, hown, _⟩ := hWA
                exact (own_ge hown g hg).1⟩
              obtain ⟨jl4, jz4⟩ := jb_lt hS4.1
              obtain ⟨SVs, hown, hels⟩ := hW4
              have hlen : SVs.length = ws.length := by have := hown.1; simpa using this
              have hbase := hS4.1.1.ch.size
              have bvx := HN.out.2.2.2.2.2.2.2.2.2.1
              have fin : ∀ A' c' w5, w5.ownsRow w.heap.size 31 1 (.slice A' (ws.length + 1) c') (ws.length + 1) (SVs ++ [.slice xA xl xc]) → Chg (fun i => (Value.slice AL ws.length cL).ownBlock = some i) w4 w5 → (∀ g, (Value.slice A' (ws.length + 1) c').ownBlock = some g → (Value.slice AL ws.length cL).ownBlock = some g ∨ w4.heap.size ≤ g) → JpB w j d N u8 (.slice A' (ws.length + 1) c') (.int .i64 ((m : Int) + 1)) w5 ∧ JL w w5 j d ρ4 s4 gen ((ws.length : Int) + 1) false := by
                intro A' c' w5 h5 hC5 hwh
                have hJ5 : JL w w5 j d ρ4 s4 gen ((ws.length : Int) + 1) false := by
                  cases ho : (Value.slice AL ws.length cL).ownBlock with
                  | none => exact hS4.1.keep (hC5.mono (fun i _ x => by rw [ho] at x; cases x))
                  | some g' =>
                    obtain ⟨z1, z2, z3⟩ := hO4 g' ho
                    have hc5 : Chg (· = g') w4 w5 := hC5.mono (fun i _ x => by rw [ho] at x; exact (Option.some.inj x).symm)
                    exact ⟨hS4.1.1.side hc5 z1 z3, hc5.blk (show Blk w4 j _ _ from hS4.1.2.1) (fun x => z2 x.symm), hS4.1.2.2⟩
                refine ⟨HN.out.2.1 _ _ ρ4 s4 f4 gen bs (ws ++ [xz.take xl]) w5 ⟨?_, hS4.2.1, hS4.2.2.1, hS4.2.2.2.1, hS4.2.2.2.2, by have := HN.out.2.2.2.2.2.2.2.2.1; push_cast; omega, bvx, WRows.snoc hlen hels r1 (by rw [r2]; exact h5), fun g hg => ?_⟩, hJ5⟩
                · rw [List.length_append, List.length_singleton]; push_cast; exact hJ5
                · rcases hwh g hg with x | x
                  · exact ⟨(hO4 g x).1, (hO4 g x).2.1⟩
                  · refine ⟨?_, by omega⟩
                    obtain ⟨_, _, _, _, _, _, _, hp⟩ := hS4.1.1.at_
                    exact hp.rz g x
              have FN := Lib.hid fin
              clear hc hC4 hz4 HN HS hS4 r1 r2 hWA hOA hO4 jl4 jz4 hels hlen bvx fin
              go_wp2_with (first
                | (at_builtin; go_loud (refine append_own3 (w := w4) (base := w.heap.size) rfl (.tmp 101) (.tmp 104) 23 31 rfl (.slice none 0 0) 24 Try.underlying23 info24 rfl (.slice AL ws.length cL) ws.length SVs (by rfl) hbase hown (.slice xA xl xc) 31 (by rfl) rfl (by omega) (by omega) ?_); intro v' w5 hown' hCo hwh; obtain ⟨A', c', rfl, _⟩ := own_cells hown'; obtain ⟨f5, j5⟩ := FN.out A' c' w5 hown' hCo hwh; have ln := len_any _ _ _ _ _ _ _ _ _ j5)
                | ((with_reducible refine ln.mono ?_); rintro e w6 ⟨rfl, rfl⟩)
                | go_in)
              exact ⟨f5, by simp [intOf]; omega⟩
      · have hT := hS.2.2.2.1
        have hld := two_load hT (by have := hS.2.2.2.2.2.1; omega)
        obtain ⟨hJ, hF, hcm, _, hL, hg, hbv, hW, hO⟩ := hS
        have hlr := fun (s' : DSt) (hs' : Says s' f) => log_recs hL hs'
        have hsm := fun (k : Nat) (hk : k < ws.length) => log_some hL k hk
        have hnn := log_none ⟨hT.1, by omega⟩ hL
        obtain ⟨AB, cB, rfl, hrB⟩ := hbv
        have hcr := l_crash 0 0 (by decide) (by decide) hJ.1
        have hs5 := crash_firm hF.1 0 0
        generalize s.crash 0 0 = s5 at *
        have H := Lib.hid (And.intro hld (And.intro hlr (And.intro hsm (And.intro hnn (And.intro hrB (And.intro hW (And.intro hO hs5)))))))
        have hm2 : m = N := by omega
        clear hJ hF hcm hL hg hW hO hs5 hT hld hlr hsm hnn hrB
        go_wp2_with fail
        refine hcr.mono ?_
        rintro e w4 ⟨rfl, hC4, ρ4, h4, hi4⟩
        have hW4 := H.out.2.2.2.2.2.1.chg hC4 (fun g hg x => x (H.out.2.2.2.2.2.2.1 g hg).1)
        have hO4 : ∀ g, (Value.slice AL ws.length cL).ownBlock = some g → ¬ Own ρ4 g := fun g hg x => (hi4 g).mp x (H.out.2.2.2.2.2.2.1 g hg).1
        have ho2 := jopen_any h4 H.out.2.2.2.2.2.2.2
        have H4 := Lib.hid (And.intro hW4 hO4)
        clear hcr hC4 h4 hi4 hW4 hO4
        go_wp2_with fail
        refine ho2.mono ?_
        rintro e w5 ⟨j5, vb5, A5, k5, c5, rfl, hJ5, hC5, hv5, hL5, hk5, q1, q2, _, _⟩
        rw [H.out.1] at hJ5 hv5 hL5 q1 q2
        have hk1 : k5 = ws.length := stop_at H.out.2.2.2.2.2.2.2 hk5 q1 q2 ws.length hw64 (fun k hk => by rw [H.out.2.2.1 k hk]; rfl) H.out.2.2.2.1
        subst hk1
        rw [H.out.2.1 s5 H.out.2.2.2.2.2.2.2] at hL5
        have hW5 := H4.out.1.chg hC5 (fun g hg x => H4.out.2 g hg x)
        have hch := hJ5.1.ch
        obtain ⟨Av, cv, rfl, _, hrv, _⟩ := hv5
        have sm : ∀ w', Chg NoB w5 w' → Calls Try.prog 19 #[.slice Av bs.length cv, .slice AB bs.length cB] w' (RetB true w') := fun w' hc => by
          have := same_any Av AB cv cB bs bs w' (hrv.chg hc (fun _ _ _ x => x)) (H.out.2.2.2.2.1.chg (hch.trans hc (fun _ _ x => x)) (fun _ _ _ x => x))
          rwa [decide_eq_true rfl] at this
        have sa : ∀ w', Chg NoB w5 w' → Calls Try.prog 29 #[.slice A5 ws.length c5, .slice AL ws.length cL] w' (RetB true w') := fun w' hc => by
          have hL6 := hL5.chg hc (fun _ x => x.elim)
          obtain ⟨A6, c6, ev, hR⟩ := hL6.rows
          injection ev with ev1 _ _
          subst ev1
          have hW6 := hW5.chg hc (fun _ _ x => x)
          obtain ⟨A7, c7, ev, hR7⟩ := hW6.rows (hch.trans hc (fun _ _ x => x))
          injection ev with ev1 _ _
          subst ev1
          have := sameAll_any A5 AL c5 cL ws ws w' hR hR7 (by omega) (by omega)
          rwa [decide_eq_true rfl] at this
        have ln := fun w' (hc : Chg NoB w5 w') => len_any _ _ _ _ _ _ _ _ _ (hJ5.keep hc)
        have m1 := sm w5 (Chg.refl _ _)
        have LN := Lib.hid (And.intro sa (And.intro ln hch))
        clear ho2 hJ5 hC5 hL5 hrv q1 q2 hk5 H H4 HR hW5 sm sa ln hch
        go_wp2_with (first | ((with_reducible refine m1.mono ?_); rintro e w6 ⟨rfl, hC6⟩; have m2 := LN.out.1 w6 hC6) | ((with_reducible refine m2.mono ?_); rintro e w7 ⟨rfl, hC7⟩; have m3 := LN.out.2.1 w7 (hC6.trans hC7 (fun _ _ x => x))) | ((with_reducible refine m3.mono ?_); rintro e w8 ⟨rfl, rfl⟩) | go_in)
        go_ret
        exact ⟨rfl, (LN.out.2.2.trans hC6 (fun _ _ x => x)).trans hC7 (fun _ _ x => x)⟩
theorem journalPlays_row (a0 : Option Addr) (len0 cap0 : Nat) (z0 : Nat → ActV) (W : World) (w0 : IsActs W a0 len0 cap0 z0) :
    Calls Try.prog 9 #[.slice a0 len0 cap0] W fun e w' => e = .returned (.bool true) ∧ Below W.heap.size W w' :=
  (journalPlays a0 len0 cap0 z0 W w0 (fun i hi y hy => by
    rcases w0 with ⟨_, h0, _⟩ | ⟨ad, e, _, _, hall⟩
    · omega
    · rcases (hall i hi).2 with ⟨h1, h2, h3, h4⟩ | ⟨x, h1, h2, h3, h4, h5, h6⟩
      · rw [h4] at hy; simp at hy
      · exact u8b6 (h6 y (List.mem_of_mem_take hy)))).mono fun _ _ h => h.row
end Go.Proofs.Ytmonkoclbcahiaa.Jour
