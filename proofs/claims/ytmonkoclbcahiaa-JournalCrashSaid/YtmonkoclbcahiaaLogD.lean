/- The log: Replay. -/
import Derived.Test.YtmonkoclbcahiaaLogC
import Derived.WalkMore
namespace Go.Proofs.Ytmonkoclbcahiaa.Log
open Go.RowKit Go.Proofs.Ytmonkoclbcahiaa.Hp Go.Proofs.Ytmonkoclbcahiaa.By Go.Proofs.Ytmonkoclbcahiaa.Disk Go.Proofs.Ytmonkoclbcahiaa.Word Go.Proofs.Ytmonkoclbcahiaa.WordP
set_option linter.unusedVariables false
set_option linter.unusedSimpArgs false
section
variable {P : Program} {ops : Array Oper} {rest : List Oper} {o : Oper} {a : Act} {Q : Exit → Act → World → Prop}
theorem append_own2 {w : World} {base : Nat} (hgd : o.guard = none) (s x : Operand) (t e : TypeId) (ho : o.op = .call { callee := .builtin .append, args := #[s, x], argTypes := #[t, t] })
    (z : Value) (bytes : Nat) (ht : P.underlying t = some (.slice e)) (hinfo : (P.info? e).map (fun i => (i.zero, i.size, i.bytes)) = some (some z, 1, bytes)) (hz : z.cells.size = 1)
    (v : Value) (n : Nat) (xs : List Value) (hs : a.eval s = v) (hbase : base ≤ w.heap.size) (hown : w.ownsRow base e 1 v n xs) (u : Value) (T : TypeId) (hx : a.eval x = .slice (some ⟨w.heap.size, 0, none⟩) 1 1) (hu : u.oneCell' = true)
    (h1 : n + 1 ≤ 9223372036854775807) (h2 : (n + 1) * bytes ≤ 140737488355328)
    (h : ∀ v' w', w'.ownsRow base e 1 v' (n + 1) (xs ++ [u]) → Chg (fun i => v.ownBlock = some i) w w' → wpList P ops Q rest (a.put o.dst v') w') :
    wpList P ops Q (o :: rest) a (w.alloc (.cells #[u] T)) := by
  obtain ⟨i0, hi, hz0, hz1, hz2⟩ := info_parts hinfo
  refine wpList_append_own _ hgd s x t ho base e i0 z 1 bytes ht hi hz0 hz1 hz2 hz (by decide) v n xs hs (hown.alloc _) ⟨w.heap.size, 0, none⟩ 1 1 [u] hx rfl ?_ ?_ (by unfold maxLen; omega) h2 (by simp; omega) ?_
  · intro j u' hj
    have hb : Blk (w.alloc (.cells #[u] T)) w.heap.size #[u] T := bnew w _
    have : j = 0 := by
      have := (List.getElem?_eq_some_iff.1 hj).1
      simp at this; omega
    subst this
    have e : (⟨w.heap.size, 0, none⟩ : Addr).add 0 = ⟨w.heap.size, 0, none⟩ := rfl
    rw [e, bcell hb 0]
    simpa using hj
  · intro u' hu'
    have : u' = u := by simpa using hu'
    subst this; exact hu
  · intro v' w' hown' hgrow _
    exact h v' w' hown' (((Chg.refl _ w).alloc _).trans (Chg.of_grownBy hgrow (fun j hj => .inl hj)) (fun _ _ x => x))
end
theorem info24 : (Try.prog.info? 31).map (fun i => (i.zero, i.size, i.bytes)) = some (some (.slice none 0 0), 1, 24) := by kernel_rfl
/-- the rows that were read, in a slice of the call's own -/
def LRows (w : World) (base : Nat) (v : Value) (bs : List (List Int)) : Prop :=
  ∃ SVs, w.ownsRow base 31 1 v bs.length SVs ∧ ∀ j, j < bs.length → ∃ g c l, SVs[j]? = some (.slice (some ⟨g, 9, none⟩) (bs.getD j []).length c) ∧ (∃ vv, Row w vv g l) ∧ base ≤ g ∧ (l.drop 9).take (bs.getD j []).length = bs.getD j [] ∧ (bs.getD j []).length ≤ 50
theorem LRows.nil (w : World) (base : Nat) : LRows w base (.slice none 0 0) [] := ⟨[], World.ownsRow_nil _ _ _ _, fun j hj => by cases hj⟩
theorem own_ge {w : World} {base n : Nat} {e : TypeId} {v : Value} {xs : List Value} (h : w.ownsRow base e 1 v n xs) (g : Nat) (hg : v.ownBlock = some g) : base ≤ g ∧ ∃ C, Blk w g C e := by
  rcases h.2 with ⟨rfl, _⟩ | ⟨g', cap, cur, rfl, hb, hh, _⟩
  · simp [Value.ownBlock] at hg
  · have : g' = g := by simpa [Value.ownBlock] using hg
    subst this
    exact ⟨hb, cur, hh⟩
theorem LRows.chg {S : Nat → Prop} {w w' : World} {base : Nat} {v : Value} {bs : List (List Int)} (h : LRows w base v bs) (hc : Chg S w w') (hS : ∀ i, S i → i < base) : LRows w' base v bs := by
  obtain ⟨SVs, h1, h2⟩ := h
  refine ⟨SVs, own_chg h1 hc (fun g hg x => ?_), fun j hj => ?_⟩
  · have := (own_ge h1 g hg).1; have := hS g x; omega
  · obtain ⟨g, c, l, e1, ⟨vv, e2⟩, e3, e4⟩ := h2 j hj
    exact ⟨g, c, l, e1, ⟨vv, e2.chg hc (fun x => by have := hS g x; omega)⟩, e3, e4⟩
theorem LRows.add {w w' : World} {base : Nat} {v v' : Value} {bs : List (List Int)} {SVs : List Value} {b l : List Int} {g c : Nat} {vv : Value}
    (h2 : ∀ j, j < bs.length → ∃ g c l, SVs[j]? = some (.slice (some ⟨g, 9, none⟩) (bs.getD j []).length c) ∧ (∃ vv, Row w vv g l) ∧ base ≤ g ∧ (l.drop 9).take (bs.getD j []).length = bs.getD j [] ∧ (bs.getD j []).length ≤ 50)
    (hown : w.ownsRow base 31 1 v bs.length SVs) (h' : w'.ownsRow base 31 1 v' (bs.length + 1) (SVs ++ [.slice (some ⟨g, 9, none⟩) b.length c])) (hc : Chg (fun i => v.ownBlock = some i) w w')
    (hr : Row w vv g l) (hg : base ≤ g) (hb : (l.drop 9).take b.length = b) (h50 : b.length ≤ 50) : LRows w' base v' (bs ++ [b]) := by
  have hlen : SVs.length = bs.length := by have := hown.1; simpa using this
  have ne : ∀ {g l vv}, Row w vv g l → ¬ (v.ownBlock = some g) := by
    intro g l vv hr x
    obtain ⟨_, _, _, C, _, _, hb1, _⟩ := hr
    obtain ⟨_, C', hb2⟩ := own_ge hown g x
    have := hb1.symm.trans hb2
    simp at this
  refine ⟨_, by rw [List.length_append]; exact h', fun j hj => ?_⟩
  rw [List.length_append, List.length_singleton] at hj
  by_cases c' : j < bs.length
  · obtain ⟨g, c, l, e1, ⟨vv, e2⟩, e3, e4⟩ := h2 j c'
    have e : (bs ++ [b]).getD j [] = bs.getD j [] := by rw [List.getD_eq_getElem?_getD, List.getD_eq_getElem?_getD, List.getElem?_append_left c']
    rw [e]
    exact ⟨g, c, l, by rw [List.getElem?_append_left (by omega)]; exact e1, ⟨vv, e2.chg hc (ne e2)⟩, e3, e4⟩
  · obtain rfl : j = bs.length := by omega
    have e : (bs ++ [b]).getD bs.length [] = b := by rw [List.getD_eq_getElem?_getD, List.getElem?_append_right (by omega)]; simp
    rw [e]
    exact ⟨g, c, l, by rw [List.getElem?_append_right (by omega), hlen]; simp, ⟨vv, hr.chg hc (ne hr)⟩, hg, hb, h50⟩
/-- the disk behind so many reads -/
def st (s : DSt) : Nat → DSt
  | 0 => s
  | j + 1 => (st s j).io j
theorem st_get (s : DSt) (j : Nat) (n : Int) : (st s j).get n = s.get n := by
  induction j with
  | zero => rfl
  | succ j ih =>
    show ((st s j).io j).get n = _
    rw [← ih]
    unfold DSt.io
    split <;> rfl
theorem rec_len {l : List Int} {gen n : Int} {b : List Int} (h : recOf l gen n = some b) (hl : l.length = 64) (h8 : 0 ≤ l.getD 8 0) : (l.drop 9).take b.length = b ∧ b.length ≤ 50 := by
  unfold recOf at h
  by_cases c : 50 < l.getD 8 0
  · rw [if_pos c] at h; cases h
  · rw [if_neg c] at h
    by_cases c2 : secL gen n ((l.drop 9).take (l.getD 8 0).toNat) = l
    · rw [if_pos c2] at h
      obtain rfl := Option.some.inj h
      have e : ((l.drop 9).take (l.getD 8 0).toNat).length = (l.getD 8 0).toNat := by rw [List.length_take, List.length_drop]; omega
      rw [e]
      exact ⟨rfl, by omega⟩
    · rw [if_neg c2] at h; cases h
def recs (s : DSt) (gen : Int) (m : Nat) : List (List Int) := (List.range m).map (fun j : Nat => (recOf (s.get j) gen j).getD [])
theorem recs_len (s : DSt) (gen : Int) (m : Nat) : (recs s gen m).length = m := by unfold recs; simp
theorem recs_snoc (s : DSt) (gen : Int) (m : Nat) (b : List Int) (h : recOf (s.get m) gen m = some b) : recs s gen (m + 1) = recs s gen m ++ [b] := by
  unfold recs
  rw [List.range_succ, List.map_append, List.map_singleton, h]; rfl
def Good (s : DSt) (gen : Int) (m : Nat) : Prop := ∀ j, j < m → (st s j).ioE j = 0 ∧ (recOf (s.get j) gen j).isSome = true
def RepPost (w0 w : World) (d : Nat) (ρ : Nat → Nat) (s : DSt) (gen : Int) (e : Ending) (w' : World) : Prop :=
  ∃ v E m, e = .returned (.tuple #[v, .int .i64 E]) ∧ Chg (Own ρ) w w' ∧ m ≤ 64 ∧ Good s gen m ∧
    ((E = 0 ∧ LRows w' w.heap.size v (recs s gen m) ∧ ((m = 64 ∧ DL w0 w' d ρ (st s 64)) ∨ (m < 64 ∧ (st s m).ioE m = 0 ∧ recOf (s.get m) gen m = none ∧ DL w0 w' d ρ (st s (m + 1))))) ∨
     (m < 64 ∧ E = (st s m).ioE m ∧ E ≠ 0 ∧ v = .slice none 0 0 ∧ DL w0 w' d ρ (st s (m + 1))))
def RepB (w0 w : World) (d : Nat) (ρ : Nat → Nat) (s : DSt) (gen : Int) (out i : Value) (wr : World) : Prop :=
  ∃ m : Nat, m ≤ 64 ∧ i = .int .i64 m ∧ Chg (Own ρ) w wr ∧ Good s gen m ∧ LRows wr w.heap.size out (recs s gen m) ∧ DL w0 wr d ρ (st s m)
set_option maxRecDepth 100000 in
theorem replay_nil (gen : Int) (w : World) : Calls Try.prog 43 #[.pointer none, .int .u32 gen] w fun e w' => e = .returned (.tuple #[.slice none 0 0, .int .i64 1]) ∧ w = w' := by
  go_enter Try.func43, Try.ntmps43
  go_wp2_with fail
  go_step3
  go_wp2_with fail
  rw [Exit.noGoto_ret]
  go_ret2
  exact ⟨rfl, rfl⟩
set_option maxRecDepth 100000 in
set_option maxHeartbeats 4000000 in
theorem replay_any {w0 w : World} {d : Nat} {ρ : Nat → Nat} {s : DSt} (gen : Int) (g0 : 0 ≤ gen) (g1 : gen < 4294967296) (hn : 64 ≤ s.n) (h : DL w0 w d ρ s) :
    Calls Try.prog 43 #[.pointer (some ⟨d, 0, none⟩), .int .u32 gen] w (RepPost w0 w d ρ s gen) := by
  have hB : RepB w0 w d ρ s gen (.slice none 0 0) (.int .i64 0) w := ⟨0, by omega, rfl, Chg.refl _ _, fun j hj => by omega, LRows.nil _ _, h⟩
  have hw0 := h.ch.size
  have hρ : ∀ i, Own ρ i → i < w.heap.size := fun i hi => by
    obtain ⟨_, _, _, _, _, _, _, hp⟩ := h.at_
    by_cases c : i < w.heap.size
    · exact c
    · exact absurd (hp.rz i (by omega)) hi
  clear h
  go_enter Try.func43, Try.ntmps43
  go_wp2_with fail
  go_step3
  go_wp2_with fail
  go_step3
  go_wp2_with fail
  go_loopw [6, 14] (fun out i wr => RepB w0 w d ρ s gen out i wr) (fun _ i wr => (64 - intOf i).toNat)
  case atStart => exact hB
  case round =>
    clear hB
    obtain ⟨m, hm, rfl, hC, hG, hL, hD⟩ := hrel
    by_cases hlt : m < 64
    · have hrd := l_read (m : Int) hD
      have hr0 : w.heap.size ≤ wr.heap.size := hC.size
      by_cases e0 : (st s m).ioE m = 0
      · -- it is read
        have g8 : ∀ {w2 : World} {vv : Value} {g : Nat} {l : List Int}, Row w2 vv g l → 0 ≤ l.getD 8 0 := fun hr => (hr.2.1 _ (by rw [List.getD_eq_getElem?_getD, List.getElem?_eq_getElem (by have := hr.1; omega)]; exact List.getElem_mem _)).1
        have H := Lib.hid (And.intro hC (And.intro hG (And.intro hL e0)))
        clear hC hG hL hD
        go_wp2_with fail
        refine hrd.mono ?_
        rintro e w2 ⟨v, rfl, hD, hc2, hrow, _⟩
        obtain ⟨g, hrow, hgw⟩ := hrow e0
        rw [e0]
        rw [st_get] at hrow
        have rc := record_any gen m v g _ w2 g0 g1 (by omega) (by omega) hrow
        have HR := Lib.hid (And.intro hrow (And.intro hc2 hD))
        obtain ⟨hl64, _, cp, Cq, rfl, _⟩ := hrow
        clear hrd hc2 hD e0
        cases hrec : recOf (s.get m) gen m with
        | none =>
          rw [show RecPost w2 g (s.get m) gen m = fun e w' => ∃ v, e = .returned (.tuple #[v, .bool false]) ∧ Chg NoB w2 w' ∧ True by
            funext e w'; unfold RecPost; rw [hrec]; simp] at rc
          go_wp2_with fail
          refine rc.mono ?_
          rintro e w3 ⟨v3, rfl, hC3, _⟩
          have fin : ∀ out, LRows wr w.heap.size out (recs s gen m) → RepPost w0 w d ρ s gen (.returned (.tuple #[out, .int .i64 0])) w3 := by
            intro out hL
            have hc := (HR.out.2.1.trans (hC3.mono (S' := Own ρ) (fun _ _ x => x.elim)) (fun _ _ x => x))
            refine ⟨out, 0, m, rfl, H.out.1.trans hc (fun _ _ x => x), hm, H.out.2.1, .inl ⟨rfl, hL.chg hc hρ, .inr ⟨hlt, H.out.2.2.2, hrec, HR.out.2.2.keep hC3⟩⟩⟩
          have F := fin _ H.out.2.2.1
          clear rc HR H fin hC3
          go_wp2_with fail
          rw [Exit.noGoto_ret]
          go_ret2
          exact F
        | some b =>
          obtain ⟨rl1, rl2⟩ := rec_len hrec hl64 (g8 HR.out.1)
          have rc : Calls Try.prog 53 #[.slice (some ⟨g, 0, none⟩) 64 cp, .int .u32 gen, .int .i64 m] w2 (fun e w' => ∃ c, e = .returned (.tuple #[.slice (some ⟨g, 9, none⟩) b.length c, .bool true]) ∧ Chg NoB w2 w') :=
            rc.mono (fun e w' hp => by
              obtain ⟨v, e1, h1, h2⟩ := hp
              obtain ⟨c, h3, _⟩ := h2 b hrec
              exact ⟨c, by rw [e1, h3, hrec]; rfl, h1⟩)
          go_wp2_with fail
          refine rc.mono ?_
          rintro e w3 ⟨c, rfl, hC3⟩
          have hc := (HR.out.2.1.trans (hC3.mono (S' := Own ρ) (fun _ _ x => x.elim)) (fun _ _ x => x))
          have hL3 := H.out.2.2.1.chg hc hρ
          obtain ⟨SVs, hown, hels⟩ := hL3
          rw [recs_len] at hown
          have hbase : w.heap.size ≤ w3.heap.size := by have := hc.size; omega
          have fin : ∀ v' w4, w4.ownsRow w.heap.size 31 1 v' (m + 1) (SVs ++ [.slice (some ⟨g, 9, none⟩) b.length c]) → Chg (fun i => u6.ownBlock = some i) w3 w4 → RepB w0 w d ρ s gen v' (.int .i64 ((m : Int) + 1)) w4 := by
            intro v' w4 h4 hc4
            have hro := HR.out.1.chg hC3 (fun x => x)
            have hd3 := HR.out.2.2.keep hC3
            have nO : ∀ i, u6.ownBlock = some i → w.heap.size ≤ i := fun i hi => (own_ge hown i hi).1
            have hDD : DL w0 w4 d ρ (st s (m + 1)) := by
              cases ho : u6.ownBlock with
              | none => exact hd3.keep (hc4.mono (fun i _ x => by rw [ho] at x; cases x))
              | some g' =>
                have hg' := nO g' ho
                refine hd3.side (g := g') (hc4.mono (fun i _ x => by rw [ho] at x; exact (Option.some.inj x).symm)) ?_ (by omega)
                by_cases c : ρ g' = 0
                · exact c
                · have := hρ g' c; omega
            refine ⟨m + 1, by omega, rfl, (H.out.1.trans hc (fun _ _ x => x)).trans hc4 (fun i hi x => by have := nO i x; omega), ?_, ?_, hDD⟩
            · intro j hj
              by_cases c : j < m
              · exact H.out.2.1 j c
              · obtain rfl : j = m := by omega
                exact ⟨H.out.2.2.2, by rw [hrec]; rfl⟩
            · rw [recs_snoc s gen m b hrec]
              exact LRows.add hels (by rw [recs_len]; exact hown) (by rw [recs_len]; exact h4) hc4 hro (by omega) rl1 rl2
          have FI := Lib.hid fin
          clear fin rc HR H hC3 hc hels
          go_wp2_with (first | (at_builtin; go_loud (refine append_own2 (w := w3) (base := w.heap.size) rfl (.tmp 34) (.tmp 36) 23 31 rfl (.slice none 0 0) 24 Try.underlying23 info24 rfl u6 m SVs (by rfl) hbase hown (.slice (some ⟨g, 9, none⟩) b.length c) 31 (by rfl) rfl (by omega) (by omega) ?_); intro v' w4 hown' hCo))
          exact ⟨FI.out v' w4 hown' hCo, by simp [intOf]; omega⟩
      · have hE : (st s m).ioE m ≠ 0 := e0
        have hne : ((st s m).ioE m != 0) = true := by rw [bne_iff_ne]; exact e0
        have H := Lib.hid (And.intro hC (And.intro hG e0))
        clear hC hG hL hD hE e0
        go_wp2_with fail
        refine hrd.mono ?_
        rintro e w2 ⟨v, rfl, hD, hc2, _, hv⟩
        have hv := hv H.out.2.2
        subst hv
        have fin : RepPost w0 w d ρ s gen (.returned (.tuple #[.slice none 0 0, .int .i64 ((st s m).ioE m)])) w2 :=
          ⟨_, _, m, rfl, H.out.1.trans hc2 (fun _ _ x => x), hm, H.out.2.1, .inr ⟨hlt, rfl, H.out.2.2, rfl, hD⟩⟩
        clear hrd hD hc2 hv H
        generalize (st s m).ioE m = E at *
        go_wp2_with fail
        rw [Exit.noGoto_ret]
        go_ret2
        exact fin
    · obtain rfl : m = 64 := by omega
      have fin : ∀ v, LRows wr w.heap.size v (recs s gen 64) → RepPost w0 w d ρ s gen (.returned (.tuple #[v, .int .i64 0])) wr := fun v hL =>
        ⟨_, _, 64, rfl, hC, hm, hG, .inl ⟨rfl, hL, .inl ⟨rfl, hD⟩⟩⟩
      have F := fin _ hL
      clear fin hC hG hL hD
      go_wp2_with fail
      rw [Exit.noGoto_ret]
      go_ret2
      exact F
end Go.Proofs.Ytmonkoclbcahiaa.Log
