/- Chapter 7: frame, state, mark. -/
import Derived.Test.YtolojkfpokmdkaaRRRegP
namespace Go.Proofs.YtolojkfpokmdkaaRR.Reg
open Go.RowKit Go.Proofs.YtolojkfpokmdkaaRR.Hp Go.Proofs.YtolojkfpokmdkaaRR.By Go.Proofs.YtolojkfpokmdkaaRR.Disk Go.Proofs.YtolojkfpokmdkaaRR.Word Go.Proofs.YtolojkfpokmdkaaRR.WordP Go.Proofs.YtolojkfpokmdkaaRR.Log Go.Proofs.YtolojkfpokmdkaaRR.Slot Go.Proofs.YtolojkfpokmdkaaRR.Jour
set_option linter.unusedVariables false
set_option linter.unusedSimpArgs false
theorem frame_any (f : Int) (w : World) : Calls Try.prog 22 #[.int .i64 f] w fun e w' => e = .returned (.bool (decide (0 ≤ f ∧ f < 1024))) ∧ w = w' := by
  by_cases h1 : 0 ≤ f
  · have d1 : decide (0 ≤ f) = true := decide_eq_true h1
    by_cases h2 : f < 1024
    · have d2 : decide (f < 1024) = true := decide_eq_true h2
      rw [decide_eq_true ⟨h1, h2⟩]
      go_enter Try.func22, Try.ntmps22
      go_wp2_with fail
      go_ret
      exact ⟨rfl, rfl⟩
    · have d2 : decide (f < 1024) = false := decide_eq_false h2
      rw [decide_eq_false (fun x => h2 x.2)]
      go_enter Try.func22, Try.ntmps22
      go_wp2_with fail
      go_ret
      exact ⟨rfl, rfl⟩
  · have d1 : decide (0 ≤ f) = false := decide_eq_false h1
    rw [decide_eq_false (fun x => h1 x.1)]
    go_enter Try.func22, Try.ntmps22
    go_wp2_with fail
    go_ret
    exact ⟨rfl, rfl⟩
def stOk (s n : Int) : Prop := (0 ≤ s ∧ s < 32) ∧ 0 ≤ n ∧ n ≤ 3
instance (s n : Int) : Decidable (stOk s n) := by unfold stOk; infer_instance
theorem state_any (s n : Int) (w : World) : Calls Try.prog 29 #[.int .i64 s, .int .i64 n] w fun e w' => e = .returned (.bool (decide (stOk s n))) ∧ w = w' := by
  by_cases h1 : 0 ≤ s
  · have d1 : decide (0 ≤ s) = true := decide_eq_true h1
    by_cases h2 : s < 32
    · have d2 : decide (s < 32) = true := decide_eq_true h2
      by_cases h3 : 0 ≤ n
      · have d3 : decide (0 ≤ n) = true := decide_eq_true h3
        by_cases h4 : n ≤ 3
        · have d4 : decide (n ≤ 3) = true := decide_eq_true h4
          rw [decide_eq_true ⟨⟨h1, h2⟩, h3, h4⟩]
          go_enter Try.func29, Try.ntmps29
          go_wp2_with fail
          go_ret
          exact ⟨rfl, rfl⟩
        · have d4 : decide (n ≤ 3) = false := decide_eq_false h4
          rw [decide_eq_false (fun x => h4 x.2.2)]
          go_enter Try.func29, Try.ntmps29
          go_wp2_with fail
          go_ret
          exact ⟨rfl, rfl⟩
      · have d3 : decide (0 ≤ n) = false := decide_eq_false h3
        rw [decide_eq_false (fun x => h3 x.2.1)]
        go_enter Try.func29, Try.ntmps29
        go_wp2_with fail
        go_ret
        exact ⟨rfl, rfl⟩
    · have d2 : decide (s < 32) = false := decide_eq_false h2
      rw [decide_eq_false (fun x => h2 x.1.2)]
      go_enter Try.func29, Try.ntmps29
      go_wp2_with fail
      go_ret
      exact ⟨rfl, rfl⟩
  · have d1 : decide (0 ≤ s) = false := decide_eq_false h1
    rw [decide_eq_false (fun x => h1 x.1.1)]
    go_enter Try.func29, Try.ntmps29
    go_wp2_with fail
    go_ret
    exact ⟨rfl, rfl⟩
/-- bytes that are not the registry's -/
def Far (A : Option Addr) (r bm : Nat) : Prop := ∀ ad, A = some ad → ad.block ≠ r ∧ ad.block ≠ bm
def RX (r bm : Nat) (i : Nat) : Prop := i = r ∨ i = bm
def MarkRel (w : World) (r j bm : Nat) (x : RSt) (K : Nat) (l : List Nat) (v : Value) (wr : World) : Prop :=
  ∃ (k : Nat) (A : Option Addr) (c : Nat), k ≤ l.length ∧ v = .slice A (framesB (l.drop k)).length c ∧ (framesB (l.drop k)).length ≤ c ∧ Rd wr .u8 A (framesB (l.drop k)) ∧ Far A r bm ∧ RM wr r j bm (x.app (.bads (l.take k))) (K + k) ∧ Chg (RX r bm) w wr
def lenOf (v : Value) : Nat := match v with | .slice _ n _ => n | _ => 0
theorem rd_nil (w : World) (A : Option Addr) : Rd w .u8 A [] := ⟨by simp, fun h => absurd h (by simp)⟩
theorem rd_next {w : World} {ad : Addr} {c n : Nat} {l : List Int} (h : Rd w .u8 (some ad) l) (h0 : 0 < n) (hc : l.length ≤ c) : Rd w .u8 (if c = n then some ad else some ⟨ad.block, ad.off + n, none⟩) (l.drop n) := by
  rcases Nat.lt_or_ge n l.length with hn | hn
  · rw [if_neg (by omega)]
    obtain ⟨ad', e, h1⟩ := rd_drop h n hn
    obtain rfl := Option.some.inj e
    have e2 : ad.add n = ⟨ad.block, ad.off + n, none⟩ := by unfold Addr.add; rw [if_neg (by omega)]
    rw [e2] at h1
    exact h1
  · rw [List.drop_eq_nil_of_le hn]
    exact rd_nil _ _
theorem far_next {ad : Addr} {c n r bm : Nat} (h : Far (some ad) r bm) : Far (if c = n then some ad else some ⟨ad.block, ad.off + n, none⟩) r bm := by
  split
  · exact h
  · intro a e
    obtain rfl := Option.some.inj e
    exact h ad rfl
def ApplyPost (w : World) (r j bm : Nat) (x : RSt) (K : Nat) (e : Ending) (w' : World) : Prop := e = .returned (.bool true) ∧ RM w' r j bm x K ∧ Chg (RX r bm) w w'
theorem app_nil (x : RSt) : x.app (.bads []) = x := by
  show (⟨fun f => x.bad f || decide (f ∈ []), x.st⟩ : RSt) = x
  have : (fun f => x.bad f || decide (f ∈ ([] : List Nat))) = x.bad := funext fun f => by simp
  rw [this]
theorem app_snoc (x : RSt) (l : List Nat) (f : Nat) : (⟨fun q => (x.app (.bads l)).bad q || decide (q = f), x.st⟩ : RSt) = x.app (.bads (l ++ [f])) := by
  show (⟨fun q => (x.bad q || decide (q ∈ l)) || decide (q = f), x.st⟩ : RSt) = ⟨fun q => x.bad q || decide (q ∈ l ++ [f]), x.st⟩
  congr 1
  funext q
  simp [List.mem_append, Bool.or_assoc]
theorem count_at {w : World} {bm K : Nat} {M : Int → Option Value} {bad : Nat → Bool} (h : MapAt w bm M) (hM : MapOk M bad K) {f : Nat} (hf : f < 1024) :
    ∃ c0 : Nat, c0 ≤ K ∧ (1 ≤ c0 ↔ bad f = true) ∧ (Instr.lookup 51 (.map (some bm)) (.int .i64 (f : Int)) false).run Try.prog w = .ok (.int .i64 (c0 : Int)) w := by
  cases e : M (f : Int) with
  | none =>
    refine ⟨0, Nat.zero_le _, ⟨fun x => by omega, fun x => absurd e (hM.2 f hf x)⟩, ?_⟩
    exact run_lookup_none 51 3 3 Try.underlying51 Try.underlying3 h (f : Int) e _ (Try.zeroValue3 w) false
  | some v =>
    obtain ⟨c, rfl, h1, h2, _, _, h5⟩ := hM.1 _ _ e
    rw [Int.toNat_natCast] at h5
    refine ⟨c, h2, ⟨fun _ => h5, fun _ => h1⟩, ?_⟩
    exact run_lookup_some 51 3 3 Try.underlying51 Try.underlying3 h (f : Int) _ e false
set_option maxRecDepth 100000 in
set_option maxHeartbeats 4000000 in
theorem mark_any {w : World} {r j bm K : Nat} {x : RSt} (h : RM w r j bm x K) (l : List Nat) (hl : l.length ≤ 100) (hf : ∀ f, f ∈ l → f < 1024) (hK : K ≤ 1000000) (A : Option Addr) (c : Nat) (hr : Rd w .u8 A (framesB l)) (hfar : Far A r bm) (hc : (framesB l).length ≤ c) :
    Calls Try.prog 35 #[.pointer (some ⟨r, 0, none⟩), .slice A (framesB l).length c] w (ApplyPost w r j bm (x.app (.bads l)) (K + l.length)) := by
  have hB : MarkRel w r j bm x K l (.slice A (framesB l).length c) w := ⟨0, A, c, Nat.zero_le _, by rw [List.drop_zero], by rw [List.drop_zero]; exact hc, by rw [List.drop_zero]; exact hr, hfar, by rw [List.take_zero, app_nil]; exact h, Chg.refl _ _⟩
  clear h hr hfar hc
  go_enter Try.func35, Try.ntmps35
  go_wp2_with fail
  go_loopw [1] (fun v wr => MarkRel w r j bm x K l v wr) (fun v wr => lenOf v)
  case atStart => exact hB
  case round =>
    clear hB
    obtain ⟨k, A, c, hk, rfl, hc, hr, hfar, hM, hC⟩ := hrel
    have hlen := framesB_len (l.drop k)
    rw [List.length_drop] at hlen
    rcases Nat.eq_or_lt_of_le hk with hk2 | hk2
    · have e0 : (framesB (l.drop k)).length = 0 := by omega
      rw [e0]
      have F := Lib.hid (show ApplyPost w r j bm (x.app (.bads l)) (K + l.length) (.returned (.bool true)) wr from ⟨rfl, by
        rw [hk2, List.take_length] at hM
        exact hM, hC⟩)
      clear hr hM hC hlen e0 hc
      go_wp2_with fail
      go_ret
      exact F.out
    · obtain ⟨f, hfk⟩ : ∃ f, l[k]? = some f := ⟨_, List.getElem?_eq_getElem hk2⟩
      have hf1 := hf f (List.mem_of_getElem? hfk)
      have hdr : l.drop k = f :: l.drop (k + 1) := by
        rw [List.drop_eq_getElem_cons hk2]
        congr 1
        exact (List.getElem?_eq_some_iff.mp hfk).2
      have htk : l.take (k + 1) = l.take k ++ [f] := by rw [List.take_add_one, hfk]; rfl
      obtain ⟨m, hm⟩ : ∃ m, m = (framesB (l.drop k)).length := ⟨_, rfl⟩
      have m0 : m = 2 * (l.length - k) := by omega
      have m2 : decide ((2 : Int) ≤ (m : Int)) = true := decide_eq_true (by omega)
      have m3 : decide (2 ≤ m) = true := decide_eq_true (by omega)
      have i2 : (2 : Int) ≤ (m : Int) := by omega
      have i3 : 2 ≤ m := by omega
      have i4 : (m : Int) ≤ (c : Int) := by omega
      have hgt := get_yes A c (framesB (l.drop k)) 0 2 wr hr (framesB_bytes _) (by decide) (by omega)
      rw [hdr, framesB_head f _ (by omega), ← hdr, ← hm] at hgt
      have hfr := frame_any (f : Int) wr
      rw [decide_eq_true (show 0 ≤ (f : Int) ∧ (f : Int) < 1024 from ⟨by omega, by omega⟩)] at hfr
      obtain ⟨M, hMa, hMo⟩ := hM.mp
      obtain ⟨c0, hc0, _, hlk⟩ := count_at hMa hMo hf1
      obtain ⟨_, z1⟩ := hM.rb.two
      have bf : 0 ≤ (f : Int) ∧ (f : Int) < 1024 := ⟨by omega, by omega⟩
      have bc : 0 ≤ (c0 : Int) ∧ (c0 : Int) < 2000000 := ⟨by omega, by omega⟩
      have bc2 : (c0 : Int) + 1 ≤ 9223372036854775807 := by omega
      have hrd := fun ad (e : A = some ad) => rd_next (n := 2) (e ▸ hr) (by decide) hc
      obtain ⟨ad, hA, _⟩ := hr.at_ 0 (by omega)
      have e2 : (framesB (l.drop k)).drop 2 = framesB (l.drop (k + 1)) := by
        have h1 := framesB_drop (l.drop k) 1 (by rw [List.length_drop]; omega)
        rw [List.drop_drop] at h1
        exact h1
      rw [e2] at hrd
      have hrd := hrd ad hA
      rw [← hm]
      have hl3 : (framesB (l.drop (k + 1))).length = m - 2 := by rw [framesB_len, List.length_drop]; omega
      subst hA
      have HX := Lib.hid (And.intro hM (And.intro hC (And.intro hrd (And.intro hl3 (And.intro htk (And.intro hMa (And.intro hMo (And.intro hc0 (And.intro hf1 (And.intro hfar (And.intro m0 (And.intro hk2 hc))))))))))))
      clear hM hC hr hrd hl3 htk hMa hMo hc0 hf1 e2 hdr hfk hm hlen hf m0 hfar hc
      go_wp2_with fail
      refine hgt.mono ?_
      rintro e w5 ⟨rfl, rfl⟩
      clear hgt
      go_wp2_with fail
      refine hfr.mono ?_
      rintro e w5 ⟨rfl, rfl⟩
      clear hfr
      go_wp2_with (first | (with_reducible refine lookup_at rfl 51 _ _ false rfl (.map (some bm)) (.int .i64 (f : Int)) _ rfl rfl hlk ?_) | (refine update_at rfl 51 3 3 _ _ _ rfl Try.underlying51 Try.underlying3 bm _ (f : Int) (.int .i64 ((c0 : Int) + 1)) rfl rfl rfl HX.out.2.2.2.2.2.1 ?_; intro w6 hM6 hC6))
      obtain ⟨hM, hC, hrd, hl3, htk, hMa, hMo, hc0, hf1, hfar, m0, hk2, hc⟩ := HX.out
      have hX6 : Chg (RX r bm) wr w6 := hC6.mono fun i _ e => .inr e
      have hne := hM.ne
      refine ⟨⟨k + 1, _, c - 2, hk2, by rw [hl3], by omega, (hrd ad rfl).chg hC6 (fun hp a e => ?_), far_next hfar, ?_, hC.trans hX6 (fun _ _ e => e)⟩, by show m - 2 < m; omega⟩
      · have h1 := far_next (n := 2) (c := c) hfar a e
        exact fun e2 => h1.2 e2
      · rw [htk, ← app_snoc]
        exact ⟨hM.rb.chg hC6 (fun e => hne e), _, hM6, hMo.inc (c := c0 + 1) hf1 (by omega) (by omega)⟩
end Go.Proofs.YtolojkfpokmdkaaRR.Reg
