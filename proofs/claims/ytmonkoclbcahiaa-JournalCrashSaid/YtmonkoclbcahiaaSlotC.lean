/- A slot: one of them, read on a disk where nothing fails. -/
import Derived.Test.YtmonkoclbcahiaaSlotB
import Derived.Test.YtmonkoclbcahiaaWordGet
import Derived.Test.YtmonkoclbcahiaaLogB
import Derived.Test.YtmonkoclbcahiaaLogE
import Derived.Deep.RegionHeldLaw
namespace Go.Proofs.Ytmonkoclbcahiaa.Slot
open Go.RowKit Go.Proofs.Ytmonkoclbcahiaa.Hp Go.Proofs.Ytmonkoclbcahiaa.By Go.Proofs.Ytmonkoclbcahiaa.Disk Go.Proofs.Ytmonkoclbcahiaa.Word Go.Proofs.Ytmonkoclbcahiaa.WordP Go.Proofs.Ytmonkoclbcahiaa.Log
set_option linter.unusedVariables false
set_option linter.unusedSimpArgs false
section
variable {P : Program} {ops : Array Oper} {rest : List Oper} {o : Oper} {a : Act} {Q : Exit → Act → World → Prop}
/-- append of all that another slice holds, onto a slice of the call's own: only its own block changes -/
theorem append_src2 {w : World} (base : Nat) (hgd : o.guard = none) (s x : Operand) (t e : TypeId) (ho : o.op = .call { callee := .builtin .append, args := #[s, x], argTypes := #[t, t] })
    (z : Value) (bytes : Nat) (ht : P.underlying t = some (.slice e)) (hinfo : (P.info? e).map (fun i => (i.zero, i.size, i.bytes)) = some (some z, 1, bytes)) (hz : z.cells.size = 1)
    (v : Value) (n : Nat) (ys : List Value) (hs : a.eval s = v) (hbase : base ≤ w.heap.size) (hown : w.ownsRow base e 1 v n ys) (xs : List Value) (ad : Addr) (c : Nat) (hx : a.eval x = .slice (some ad) xs.length c)
    (hsrc : ∀ j v, xs[j]? = some v → w.cell? (ad.add j) = some v) (hu : ∀ u ∈ xs, u.oneCell' = true)
    (h1 : n + xs.length ≤ 9223372036854775807) (h2 : (n + xs.length) * bytes ≤ 140737488355328)
    (h : ∀ v' w', w'.ownsRow base e 1 v' (n + xs.length) (ys ++ xs) → Chg (fun i => v.ownBlock = some i) w w' → wpList P ops Q rest (a.put o.dst v') w') :
    wpList P ops Q (o :: rest) a w := by
  obtain ⟨i0, hi, hz0, hz1, hz2⟩ := info_parts hinfo
  refine wpList_append_own _ hgd s x t ho base e i0 z 1 bytes ht hi hz0 hz1 hz2 hz (by decide) v n ys hs hown ad xs.length c xs hx (by simp) hsrc hu (by unfold maxLen; omega) h2 hbase ?_
  intro v' w' hown' hgrow _
  exact h v' w' hown' (Chg.of_grownBy hgrow (fun j hj => .inl hj))
end
theorem results_tmp4 {fn : Func} {t u v x : Tmp} (h : fn.results = #[.tmp t, .tmp u, .tmp v, .tmp x]) (tmps : Array Value) (P : Program) (w : World) :
    (results fn tmps).run P w = .ok (.tuple #[tmps.getD t undef, tmps.getD u undef, tmps.getD v undef, tmps.getD x undef]) w := by
  simp [results, h]
/-- what sectors say, one behind the other -/
def cat (f : Nat → List Int) (a : Nat) : Nat → List Int
  | 0 => []
  | k + 1 => cat f a k ++ f (a + k)
/-- a slot's gen and bytes, where it is whole -/
def oneOf (f : Nat → List Int) (which : Nat) : Option (Int × List Int) :=
  if 960 < leN (((f (64 + 16 * which)).drop 4).take 4) then none else
  if leN (((f (64 + 16 * which)).drop 0).take 4) % 2 = which ∧ headL (leN (((f (64 + 16 * which)).drop 0).take 4)) ((cat f (64 + 16 * which + 1) (((leN (((f (64 + 16 * which)).drop 4).take 4)).toNat + 63) / 64)).take (leN (((f (64 + 16 * which)).drop 4).take 4)).toNat) = f (64 + 16 * which) then
    some (leN (((f (64 + 16 * which)).drop 0).take 4), (cat f (64 + 16 * which + 1) (((leN (((f (64 + 16 * which)).drop 4).take 4)).toNat + 63) / 64)).take (leN (((f (64 + 16 * which)).drop 4).take 4)).toNat) else none
/-- bytes of the call's own, behind a base -/
def OwnB (base : Nat) (w : World) (v : Value) (b : List Int) : Prop := ∃ A c, v = .slice A b.length c ∧ b.length ≤ c ∧ Rd w .u8 A b ∧ Off A (fun i => i < base) ∧ Bytes b ∧ ∀ ad, A = some ad → ∃ g, ad = ⟨g, 0, none⟩
theorem OwnB.chg {S : Nat → Prop} {base : Nat} {w w' : World} {v : Value} {b : List Int} (h : OwnB base w v b) (hc : Chg S w w') (hS : ∀ i, S i → i < base) : OwnB base w' v b := by
  obtain ⟨A, c, e, h0, h1, h2, h3, h4⟩ := h
  exact ⟨A, c, e, h0, h1.chg hc (fun _ ad e x => h2 ad e (hS _ x)), h2, h3, h4⟩
def Says (s : DSt) (f : Nat → List Int) : Prop := Disk.Calm s ∧ s.n = 192 ∧ ∀ j : Nat, s.get (j : Int) = f j
def OnePost (w0 w : World) (d : Nat) (ρ : Nat → Nat) (s : DSt) (f : Nat → List Int) (which : Nat) (e : Ending) (w' : World) : Prop :=
  ∃ g v ok, e = .returned (.tuple #[.int .u32 g, v, .bool ok, .int .i64 0]) ∧ Chg (Own ρ) w w' ∧ DL w0 w' d ρ s ∧ 0 ≤ g ∧ g < 4294967296 ∧ ((oneOf f which = none ∧ ok = false) ∨ ∃ b, oneOf f which = some (g, b) ∧ ok = true ∧ OwnB w.heap.size w' v b)
def OnB (w0 w : World) (d : Nat) (ρ : Nat → Nat) (s : DSt) (f : Nat → List Int) (a : Nat) (P : Nat) (out i : Value) (wr : World) : Prop :=
  ∃ k : Nat, k ≤ P ∧ i = .int .i64 k ∧ wr.ownsRow w.heap.size 5 1 out (64 * k) ((cat f a k).map (Value.int .u8)) ∧ Bytes (cat f a k) ∧ Chg (Own ρ) w wr ∧ DL w0 wr d ρ s
theorem leN4 {l : List Int} (hb : Bytes l) (hl : l.length = 64) (a : Nat) (ha : a + 4 ≤ 64) : 0 ≤ leN ((l.drop a).take 4) ∧ leN ((l.drop a).take 4) < 4294967296 := by
  have h := leN_range ((l.drop a).take 4) (fun x hx => hb x (List.mem_of_mem_drop (List.mem_of_mem_take hx)))
  rw [List.length_take, List.length_drop, Nat.min_eq_left (by omega)] at h
  have e : (256 : Int) ^ 4 = 4294967296 := by decide
  rw [e] at h
  exact h
theorem rd_take {w : World} {A : Option Addr} {l : List Int} (h : Rd w .u8 A l) (n : Nat) : Rd w .u8 A (l.take n) := by
  refine ⟨by have := h.1; rw [List.length_take]; omega, fun hp => ?_⟩
  rw [List.length_take] at hp
  obtain ⟨ad, e, _⟩ := h.at_ 0 (by omega)
  refine ⟨ad, e, fun j hj => ?_⟩
  rw [List.length_take] at hj
  obtain ⟨ad', e', hc⟩ := h.at_ j (by omega)
  rw [e] at e'
  obtain rfl := Option.some.inj e'
  rw [hc, List.getD_eq_getElem?_getD, List.getD_eq_getElem?_getD, List.getElem?_take, if_pos (by omega)]
theorem cat_len {f : Nat → List Int} {a k : Nat} (h : ∀ j, j < k → (f (a + j)).length = 64) : (cat f a k).length = 64 * k := by
  induction k with
  | zero => rfl
  | succ k ih =>
    show (cat f a k ++ f (a + k)).length = _
    rw [List.length_append, ih (fun j hj => h j (by omega)), h k (by omega)]; omega
def RdGood (w0 w : World) (d : Nat) (ρ : Nat → Nat) (s : DSt) (l : List Int) (e : Ending) (w' : World) : Prop :=
  ∃ g cp, e = .returned (.tuple #[.slice (some ⟨g, 0, none⟩) 64 cp, .int .i64 0]) ∧ DL w0 w' d ρ s ∧ Chg (Own ρ) w w' ∧ Row w' (.slice (some ⟨g, 0, none⟩) 64 cp) g l ∧ w.heap.size ≤ g
theorem says_read {w0 w : World} {d : Nat} {ρ : Nat → Nat} {s : DSt} {f : Nat → List Int} (h : DL w0 w d ρ s) (hs : Says s f) (j : Nat) (hj : j < 192) :
    Calls Try.prog 30 #[.pointer (some ⟨d, 0, none⟩), .int .i64 (j : Int)] w (RdGood w0 w d ρ s (f j)) := by
  have e0 : s.ioE (j : Int) = 0 := calm_ioE hs.1 (by omega) (by rw [hs.2.1]; omega)
  have eio : s.io (j : Int) = s := calm_io hs.1 _
  refine (l_read (j : Int) h).mono ?_
  rintro e w' ⟨v, rfl, h1, h2, h3, _⟩
  rw [e0]
  rw [eio] at h1
  obtain ⟨g, hrow, hg⟩ := h3 e0
  rw [hs.2.2] at hrow
  have hrow2 := hrow
  obtain ⟨_, _, cp, Cq, rfl, _⟩ := hrow
  exact ⟨g, cp, rfl, h1, h2, hrow2, hg⟩
theorem own_lt_size {w0 w : World} {d : Nat} {ρ : Nat → Nat} {s : DSt} (h : DL w0 w d ρ s) : ∀ i, Own ρ i → i < w.heap.size := fun i hi => by
  obtain ⟨_, _, _, _, _, _, _, hp⟩ := h.at_
  by_cases c : i < w.heap.size
  · exact c
  · exact absurd (hp.rz i (by omega)) hi
set_option maxRecDepth 100000 in
set_option maxHeartbeats 20000000 in
theorem one_any {w0 w : World} {d : Nat} {ρ : Nat → Nat} {s : DSt} {f : Nat → List Int} (which : Nat) (hw : which < 2) (h : DL w0 w d ρ s) (hs : Says s f) :
    Calls Try.prog 41 #[.pointer (some ⟨d, 0, none⟩), .int .u32 which] w (OnePost w0 w d ρ s f which) := by
  have hρ := own_lt_size h
  have hat := fun w => at_any (which : Int) w (by omega) (by omega)
  have hrd : ∀ k : Nat, k ≤ 20 → ∀ w', DL w0 w' d ρ s → Calls Try.prog 30 #[.pointer (some ⟨d, 0, none⟩), .int .i64 (64 + (which : Int) % 2 * 16 + 1 + k)] w' (RdGood w0 w' d ρ s (f (64 + 16 * which + 1 + k))) := fun k hk w' h' => by
    have := says_read h' hs (64 + 16 * which + 1 + k) (by omega)
    rwa [show ((64 + 16 * which + 1 + k : Nat) : Int) = 64 + (which : Int) % 2 * 16 + 1 + k by omega] at this
  have hr1 : Calls Try.prog 30 #[.pointer (some ⟨d, 0, none⟩), .int .i64 (64 + (which : Int) % 2 * 16)] w (RdGood w0 w d ρ s (f (64 + 16 * which))) := by
    have := says_read h hs (64 + 16 * which) (by omega)
    rwa [show ((64 + 16 * which : Nat) : Int) = 64 + (which : Int) % 2 * 16 by omega] at this
  have hsz := h.ch.size
  have RD := Lib.hid (And.intro hrd (And.intro hρ hsz))
  clear hs hρ h hrd hsz
  obtain ⟨H, hH⟩ : ∃ H, H = f (64 + 16 * which) := ⟨_, rfl⟩
  have HH := Lib.hid hH
  rw [← hH] at hr1
  clear hH
  go_enter Try.func41, Try.ntmps41
  go_wp2_with fail
  refine (hat _).mono ?_
  rintro e w1 ⟨rfl, rfl⟩
  go_wp2_with fail
  refine hr1.mono ?_
  rintro e w2 ⟨g, cp, rfl, hD, hC, hrow, hg⟩
  have hrd2 := hrow.rd
  have hHl := hrow.1
  have hHb : Bytes H := fun x hx => by have := hrow.2.1 x hx; omega
  have gt1 := get_yes (some ⟨g, 0, none⟩) cp H 0 4 w2 hrd2 hHb (by omega) (by omega)
  have gt2 := get_yes (some ⟨g, 0, none⟩) cp H 4 4 w2 hrd2 hHb (by omega) (by omega)
  rw [hHl] at gt1 gt2
  have b1 := leN4 hHb hHl 0 (by omega)
  have b2 := leN4 hHb hHl 4 (by omega)
  obtain ⟨G, hG⟩ : ∃ G, G = leN ((H.drop 0).take 4) := ⟨_, rfl⟩
  obtain ⟨n, hn⟩ : ∃ n : Nat, (n : Int) = leN ((H.drop 4).take 4) := ⟨(leN ((H.drop 4).take 4)).toNat, by omega⟩
  rw [← hG] at gt1 b1
  rw [← hn] at gt2 b2
  have HG := Lib.hid (And.intro hG hn)
  have HD := Lib.hid (And.intro hD (And.intro hC (And.intro hrow (And.intro hg (And.intro hHl hHb)))))
  clear hr1 hD hC hrow hg hrd2 hHl hHb hG hn
  obtain ⟨g0, g1⟩ := b1
  obtain ⟨n0, n1⟩ := b2
  go_wp2_with fail
  refine gt1.mono ?_
  rintro e w3 ⟨rfl, rfl⟩
  clear gt1
  go_wp2_with fail
  refine gt2.mono ?_
  rintro e w3 ⟨rfl, rfl⟩
  clear gt2
  by_cases hbig : 960 < n
  · have hb2 : decide (960 < (n : Int)) = true := decide_eq_true (by omega)
    have fin : OnePost w0 w d ρ s f which (.returned (.tuple #[.int .u32 0, .slice none 0 0, .bool false, .int .i64 0])) w2 := by
      refine ⟨0, _, false, rfl, HD.out.2.1, HD.out.1, by omega, by omega, .inl ⟨?_, rfl⟩⟩
      unfold oneOf
      rw [← HH.out, ← HG.out.2, if_pos (by omega)]
    clear HD RD HG HH hbig
    go_wp2_with fail
    (try simp only [Exit.inBlock, Exit.then])
    refine bodyPost_ret (results_tmp4 rfl _ _ _) rfl ?_
    exact fin
  · have hb2 : decide (960 < (n : Int)) = false := decide_eq_false (by omega)
    have hpg := fun w => pages_any n w (by omega)
    have hB : OnB w0 w2 d ρ s f (64 + 16 * which + 1) ((n + 63) / 64) (.slice none 0 0) (.int .i64 0) w2 := ⟨0, by omega, rfl, World.ownsRow_nil _ _ _ _, (fun x hx => by cases hx), Chg.refl _ _, HD.out.1⟩
    obtain ⟨P, hP⟩ : ∃ P, P = (n + 63) / 64 := ⟨_, rfl⟩
    have hPn : P ≤ 15 := by omega
    go_wp2_with fail
    refine (hpg _).mono ?_
    rintro e w3 ⟨rfl, rfl⟩
    rw [← hP] at hB ⊢
    have HP := Lib.hid hP
    clear hpg hP
    go_wp2_with fail
    go_loopw [5, 41] (fun out i wr => OnB w0 w2 d ρ s f (64 + 16 * which + 1) P out i wr) (fun _ i wr => (64 - intOf i).toNat)
    case atStart => exact hB
    case round =>
      clear hB
      obtain ⟨k, hk, rfl, hown, hby, hC, hD⟩ := hrel
      by_cases hlt : k < P
      · have hr := RD.out.1 k (by omega) wr hD
        have H1 := Lib.hid (And.intro hC (And.intro hown hby))
        have hcat : cat f (64 + 16 * which + 1) (k + 1) = cat f (64 + 16 * which + 1) k ++ f (64 + 16 * which + 1 + k) := rfl
        obtain ⟨L, hL⟩ : ∃ L, L = f (64 + 16 * which + 1 + k) := ⟨_, rfl⟩
        rw [← hL] at hr hcat
        have HL := Lib.hid hcat
        clear hC hown hby hD hcat hL
        go_wp2_with fail
        refine (hat _).mono ?_
        rintro e w4 ⟨rfl, rfl⟩
        go_wp2_with fail
        refine hr.mono ?_
        rintro e w4 ⟨g4, cp4, rfl, hD4, hC4, hrow4, hg4⟩
        have hsz2 := HD.out.2.1.size
        have hsz4 : w2.heap.size ≤ w4.heap.size := by have := H1.out.1.size; have := hC4.size; omega
        have hown4 := own_chg H1.out.2.1 hC4 (fun g hg x => by have := (own_ge H1.out.2.1 g hg).1; have := RD.out.2.1 g x; omega)
        have hl4 := hrow4.1
        have hxl : (L.map (Value.int .u8)).length = 64 := by rw [List.length_map]; exact hl4
        have HXl := Lib.hid (show ∀ v, v = Value.slice (some ⟨g4, 0, none⟩) 64 cp4 → v = .slice (some ⟨g4, 0, none⟩) (L.map (Value.int .u8)).length cp4 from fun v h => by rw [hxl]; exact h)
        have hsrc : ∀ j v, (L.map (Value.int .u8))[j]? = some v → w4.cell? ((⟨g4, 0, none⟩ : Addr).add j) = some v := fun j v hj => by
          obtain ⟨ad, e, hc⟩ := rd_src hrow4.rd (by have := (List.getElem?_eq_some_iff.1 hj).1; omega)
          obtain rfl := Option.some.inj e
          exact hc j v hj
        have b3 : 64 * k + (L.map (Value.int .u8)).length ≤ 9223372036854775807 := by omega
        have b4 : (64 * k + (L.map (Value.int .u8)).length) * 1 ≤ 140737488355328 := by omega
        have onel := one_u8 L
        have fin : ∀ v' w5, w5.ownsRow w2.heap.size 5 1 v' (64 * k + (L.map (Value.int .u8)).length) ((cat f (64 + 16 * which + 1) k).map (Value.int .u8) ++ L.map (Value.int .u8)) → Chg (fun i => u5.ownBlock = some i) w4 w5 → OnB w0 w2 d ρ s f (64 + 16 * which + 1) P v' (.int .i64 ((k : Int) + 1)) w5 := by
          intro v' w5 h5 hC5
          have nO : ∀ i, u5.ownBlock = some i → w2.heap.size ≤ i := fun i hi => (own_ge hown4 i hi).1
          refine ⟨k + 1, by omega, rfl, ?_, ?_, (H1.out.1.trans hC4 (fun _ _ x => x)).trans hC5 (fun i hi x => by have := nO i x; omega), ?_⟩
          · rw [HL.out, List.map_append]
            rw [hxl] at h5
            exact h5
          · rw [HL.out]
            intro x hx
            rcases List.mem_append.mp hx with hx | hx
            · exact H1.out.2.2 x hx
            · have := hrow4.2.1 x hx; omega
          · cases ho : u5.ownBlock with
            | none => exact hD4.keep (hC5.mono (fun i _ x => by rw [ho] at x; cases x))
            | some g' =>
              refine hD4.side (g := g') (hC5.mono (fun i _ x => by rw [ho] at x; exact (Option.some.inj x).symm)) ?_ (by have := nO g' ho; have := RD.out.2.2; omega)
              by_cases c : ρ g' = 0
              · exact c
              · have := RD.out.2.1 g' c; have := nO g' ho; omega
        have FN := Lib.hid fin
        clear fin hsz2 hr hD4 hC4 hrow4 hl4 hxl
        go_wp2_with (first | (at_builtin; refine append_src2 w2.heap.size rfl (.tmp 57) (.tmp 58) 31 5 rfl (.int .u8 0) 1 Try.underlying31 info8 rfl u5 (64 * k) _ rfl hsz4 hown4 (L.map (Value.int .u8)) ⟨g4, 0, none⟩ cp4 (HXl.out _ rfl) hsrc onel b3 b4 ?_; intro v' w5 hown5 hC5) | go_in)
        exact ⟨FN.out v' w5 hown5 hC5, by simp [intOf]; omega⟩
      · obtain rfl : k = P := by omega
        have hfm : ∀ A c, u5 = .slice A (64 * k) c → ∀ ad, A = some ad → ∃ g, ad = ⟨g, 0, none⟩ := fun A c e ad h => by
          rcases hown.2 with ⟨e2, _⟩ | ⟨g, cap, cur, e2, _⟩
          · rw [e] at e2; injection e2 with e3; rw [h] at e3; cases e3
          · rw [e] at e2; injection e2 with e3; rw [h] at e3; exact ⟨g, Option.some.inj e3⟩
        obtain ⟨A, cA, rfl, hlen, hcp, hrdA, hoffA⟩ := own_rd hown (by omega)
        have hfm2 := hfm A cA rfl
        clear hfm
        have hnk : n ≤ 64 * k := by have := HP.out; omega
        have htl : ((cat f (64 + 16 * which + 1) k).take n).length = n := by rw [List.length_take]; omega
        have hbt : Bytes ((cat f (64 + 16 * which + 1) k).take n) := fun x hx => hby x (List.mem_of_mem_take hx)
        have hrt := rd_take hrdA n
        have hone : oneOf f which = if G % 2 = (which : Int) ∧ headL G ((cat f (64 + 16 * which + 1) k).take n) = H then some (G, (cat f (64 + 16 * which + 1) k).take n) else none := by
          unfold oneOf
          rw [← HH.out, ← HG.out.2, ← HG.out.1, if_neg (by omega), Int.toNat_natCast, ← HP.out]
        have hown' := fun w' (hc : Chg NoB wr w') => hrt.chg hc (fun _ _ _ x => x)
        have hhd := head_any G A cA ((cat f (64 + 16 * which + 1) k).take n) wr.drew g0 g1 (by omega) (hrt.chg ((Chg.refl NoB wr).drew) (fun _ _ _ x => x)) hbt
        rw [htl] at hhd
        have i1 : n ≤ cA := by omega
        have hrow5 := HD.out.2.2.1.chg hC (fun x => by have := RD.out.2.1 g x; have := HD.out.2.2.2.1; omega)
        have fin0 : ∀ w', Chg NoB wr w' → (oneOf f which = none) → OnePost w0 w d ρ s f which (.returned (.tuple #[.int .u32 G, .slice A n cA, .bool false, .int .i64 0])) w' := fun w' hc hn => ⟨G, _, false, rfl, (HD.out.2.1.trans hC (fun _ _ x => x)).trans hc (fun _ _ x => x.elim), hD.keep hc, g0, g1, .inl ⟨hn, rfl⟩⟩
        have fin1 : ∀ w', Chg NoB wr w' → oneOf f which = some (G, (cat f (64 + 16 * which + 1) k).take n) → OnePost w0 w d ρ s f which (.returned (.tuple #[.int .u32 G, .slice A n cA, .bool true, .int .i64 0])) w' := fun w' hc hn => ⟨G, _, true, rfl, (HD.out.2.1.trans hC (fun _ _ x => x)).trans hc (fun _ _ x => x.elim), hD.keep hc, g0, g1, .inr ⟨_, hn, rfl, A, cA, by rw [htl], by rw [htl]; exact i1, hown' w' hc, fun ad e x => hoffA ad e (by have := HD.out.2.1.size; show ad.block < w2.heap.size; have : ad.block < w.heap.size := x; omega), hbt, hfm2⟩⟩
        have hS : ∀ w', Chg NoB wr w' → (convert 31 9 (.slice (some ⟨g, 0, none⟩) 64 cp)).run Try.prog w' = .ok (.string (strOfNums H)) w' := fun w' hc => row_str (hrow5.chg hc (fun x => x))
        have hw0 := hS wr.drew ((Chg.refl NoB wr).drew)
        have FF := Lib.hid (And.intro fin0 (And.intro fin1 (And.intro hone (And.intro hS (And.intro hbt HD.out.2.2.2.2.2)))))
        clear fin0 fin1 hone hS hbt hfm2 hown' hrt hrdA hoffA hown hby hC hD hrow5 HD RD HG HH htl hlen
        generalize (cat f (64 + 16 * which + 1) k).take n = bs at *
        by_cases hpar : G % 2 = (which : Int)
        · have hpb : (G.tmod 2 == (which : Int)) = true := by rw [beq_iff_eq, Int.tmod_eq_emod_of_nonneg g0]; exact hpar
          have HPB := Lib.hid hpar
          clear hpar
          generalize hSS : headL G bs = S at *
          have hSb : ∀ x ∈ S, 0 ≤ x ∧ x ≤ 255 := fun x hx => by rw [← hSS] at hx; have := headL_bytes G bs x hx; omega
          have HSb := Lib.hid (And.intro hSb hSS)
          clear hSb hSS
          have i2 : (n : Int) ≤ (cA : Int) := by omega
          go_wp2_with fail
          go_region_held_law (fun w' => (convert 31 9 (.slice (some ⟨g, 0, none⟩) 64 cp)).run Try.prog w' = .ok (.string (strOfNums H)) w') (first | exact hcs | exact hw0 | go_keep)
            (first | (go_at_call 37; ((with_reducible refine hhd.mono ?_); rintro e w6 ⟨v, g2, rfl, hrow2, hg2, hC2⟩; have hcv := row_str hrow2; have hcs := FF.out.2.2.2.1 w6 (((Chg.refl NoB wr).drew).trans hC2 (fun _ _ x => x)))))
          all_goals
            have fin : OnePost w0 w d ρ s f which (.returned (.tuple #[.int .u32 G, .slice A n cA, .bool ((strOfNums S).toList == (strOfNums H).toList), .int .i64 0])) w6 := by
              have hcw : Chg NoB wr w6 := ((Chg.refl NoB wr).drew).trans hC2 (fun _ _ x => x)
              obtain ⟨f0, f1, ho, _, _, hHb⟩ := FF.out
              by_cases e : S = H
              · rw [if_pos ⟨HPB.out, e⟩] at ho
                have := f1 w6 hcw ho
                rwa [show ((strOfNums S).toList == (strOfNums H).toList) = true by rw [e]; simp]
              · rw [if_neg (fun x => e x.2)] at ho
                have := f0 w6 hcw ho
                rwa [show ((strOfNums S).toList == (strOfNums H).toList) = false by
                  rw [beq_eq_false_iff_ne]
                  intro h
                  rw [ByteArray.toList_eq, ByteArray.toList_eq] at h
                  exact e (str_inj HSb.out.1 (fun x hx => by have := hHb x hx; omega) (WideShapes.bytes_inj h))]
            clear FF hcv hcs hrow2 hC2 hw0 hhd HSb HPB
            generalize ((strOfNums S).toList == (strOfNums H).toList) = ok at *
            go_wp2_with fail
            (try simp only [Exit.inBlock, Exit.then])
            refine bodyPost_ret (results_tmp4 rfl _ _ _) rfl ?_
            exact fin
        · have hpb : (G.tmod 2 == (which : Int)) = false := by rw [beq_eq_false_iff_ne, Int.tmod_eq_emod_of_nonneg g0]; exact hpar
          have fin := fun w' hc => FF.out.1 w' hc (by rw [FF.out.2.2.1, if_neg (fun x => hpar x.1)])
          have FN := Lib.hid fin
          have i2 : (n : Int) ≤ (cA : Int) := by omega
          clear fin FF hhd hpar hat hw0 HP
          go_wp2_with fail
          go_quiet (fail)
          go_wp2_with fail
          (try simp only [Exit.inBlock, Exit.then])
          refine bodyPost_ret (results_tmp4 rfl _ _ _) rfl ?_
          exact FN.out _ ((Chg.refl NoB wr).drewN _)
end Go.Proofs.Ytmonkoclbcahiaa.Slot
