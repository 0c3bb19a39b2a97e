/- The reference's Records. -/
import Derived.Test.YtmonkoclbcahiaaLogJ
namespace Go.Proofs.Ytmonkoclbcahiaa.Log
open Go.RowKit Go.Proofs.Ytmonkoclbcahiaa.Hp Go.Proofs.Ytmonkoclbcahiaa.By Go.Proofs.Ytmonkoclbcahiaa.Disk Go.Proofs.Ytmonkoclbcahiaa.Word Go.Proofs.Ytmonkoclbcahiaa.WordP
set_option linter.unusedVariables false
set_option linter.unusedSimpArgs false
/-- 64 sectors that lie in a slice -/
def SIn (w : World) (A : Option Addr) (f : Nat → List Int) : Prop := ∀ j, j < 64 → ∃ ad g V, A = some ad ∧ w.cell? (ad.add j) = some V ∧ Row w V g (f j)
theorem SIn.keep {w w' : World} {A : Option Addr} {f : Nat → List Int} (h : SIn w A f) (hc : Chg NoB w w') : SIn w' A f := fun j hj => by
  obtain ⟨ad, g, V, e, h1, h2⟩ := h j hj
  exact ⟨ad, g, V, e, hc.cell h1 (fun x => x), h2.chg hc (fun x => x)⟩
def recsF (f : Nat → List Int) (gen : Int) (m : Nat) : List (List Int) := (List.range m).map (fun j : Nat => (recOf (f j) gen j).getD [])
/-- the cuts of them, in a slice of the call's own -/
def RRows (w wr : World) (f : Nat → List Int) (gen : Int) (v : Value) (m : Nat) : Prop :=
  ∃ SVs, wr.ownsRow w.heap.size 31 1 v m SVs ∧ ∀ j, j < m → ∃ g c V b, SVs[j]? = some (.slice (some ⟨g, 9, none⟩) b.length c) ∧ Row w V g (f j) ∧ recOf (f j) gen j = some b
def RcB (w : World) (f : Nat → List Int) (gen : Int) (out i : Value) (wr : World) : Prop := ∃ m : Nat, m ≤ 64 ∧ i = .int .i64 m ∧ Chg NoB w wr ∧ RRows w wr f gen out m
def RcPost (w : World) (f : Nat → List Int) (gen : Int) (e : Ending) (w' : World) : Prop := ∃ v m, e = .returned v ∧ Chg NoB w w' ∧ m ≤ 64 ∧ RRows w w' f gen v m ∧ (m = 64 ∨ recOf (f m) gen m = none)
theorem rc_no {w wr : World} {f : Nat → List Int} {gen : Int} {m : Nat} (hC : Chg NoB w wr) (h : recOf (f m) gen m = none) (hm : m ≤ 64) : ∀ w', Chg NoB wr w' → ∀ out, RRows w wr f gen out m → RcPost w f gen (.returned out) w' := fun w' hc out hL => by
  obtain ⟨SVs, h1, h2⟩ := hL
  exact ⟨out, m, rfl, hC.trans hc (fun _ _ x => x), hm, ⟨SVs, own_chg h1 hc (fun _ _ x => x), h2⟩, .inr h⟩
set_option maxRecDepth 100000 in
set_option maxHeartbeats 1000000 in
theorem records_any (gen : Int) (A : Option Addr) (c : Nat) (f : Nat → List Int) (w : World) (g0 : 0 ≤ gen) (g1 : gen < 4294967296) (h : SIn w A f) :
    Calls Try.prog 33 #[.slice A 64 c, .int .u32 gen] w (RcPost w f gen) := by
  have hB : RcB w f gen (.slice none 0 0) (.int .i64 0) w := ⟨0, by omega, rfl, Chg.refl _ _, [], World.ownsRow_nil _ _ _ _, fun j hj => by omega⟩
  go_enter Try.func33, Try.ntmps33
  go_wp2_with fail
  go_loopw [5, 6] (fun out i wr => RcB w f gen out i wr) (fun _ i wr => (64 - intOf i).toNat)
  case atStart => exact hB
  case round =>
    clear hB
    obtain ⟨m, hm, rfl, hC, hL⟩ := hrel
    by_cases hlt : m < 64
    · obtain ⟨ad0, g, V, e0, x0, hrw0⟩ := h m hlt
      obtain ⟨ad, e1, x1⟩ : ∃ ad, A = some ad ∧ wr.cell? (ad.add m) = some V := ⟨ad0, e0, hC.cell x0 (fun x => x)⟩
      have hrow := hrw0.chg hC (fun x => x)
      subst e1
      clear e0 x0
      have hrow0 := hrow
      obtain ⟨hl, hb, cap, Cq, rfl, hcap, hblk, hCs, hcell⟩ := hrow
      have HW := Lib.hid hrw0
      clear hrw0
      have c8 : wr.cell? ⟨g, 8, none⟩ = some (.int .u8 ((f m).getD 8 0)) := by rw [bcell hblk]; exact hcell 8 (by omega)
      have b8 := hb ((f m).getD 8 0) (by rw [List.getD_eq_getElem?_getD, List.getElem?_eq_getElem (by omega)]; exact List.getElem_mem _)
      obtain ⟨k, hk⟩ : ∃ k : Nat, (f m).getD 8 0 = k := ⟨((f m).getD 8 0).toNat, by omega⟩
      rw [hk] at c8
      have H := Lib.hid (And.intro hC (And.intro hL (And.intro hrow0 hk)))
      have k255 : k ≤ 255 := by omega
      clear hC hL hrow0 hb hblk hcell b8 hk h
      by_cases c50 : 50 < k
      · have fin := rc_no H.out.1 (f := f) (gen := gen) (m := m) (by unfold recOf; rw [if_pos (by rw [H.out.2.2.2]; omega)]) (by omega)
        have F := fun w' hc => fin w' hc _ H.out.2.1
        have hd : decide ((50 : Int) < (k : Int)) = true := by simp; omega
        clear fin H
        go_wp2_with fail
        go_region
        go_wp2_with fail
        go_ret
        exact F _ (by first | exact Chg.refl _ _ | exact (Chg.refl NoB wr).drew)
      · have hd : decide ((50 : Int) < (k : Int)) = false := by simp; omega
        have hr9 : Rd wr .u8 (some ⟨g, 9, none⟩) (((f m).drop 9).take k) := by
          obtain ⟨_, hb, cap2, C2, ev, _, hblk, hCs2, hcell⟩ := H.out.2.2.1
          refine ⟨by rw [List.length_take]; omega, fun hp => ⟨_, rfl, fun j hj => ?_⟩⟩
          rw [List.length_take, List.length_drop] at hj
          have e : (⟨g, 9, none⟩ : Addr).add j = ⟨g, 9 + j, none⟩ := by unfold Addr.add; split <;> simp_all
          rw [e, bcell hblk, hcell (9 + j) (by omega)]
          simp only [List.getD_eq_getElem?_getD, List.getElem?_take, List.getElem?_drop]
          rw [if_pos (by omega)]
        have hlk : (((f m).drop 9).take k).length = k := by rw [List.length_take, List.length_drop]; omega
        have hbb : Bytes (((f m).drop 9).take k) := fun x hx => by
          have := H.out.2.2.1.2.1 x (List.mem_of_mem_drop (List.mem_of_mem_take hx)); omega
        have sc := rsector_any gen m (some ⟨g, 9, none⟩) (cap - 9) _ wr.drew g0 g1 (by omega) (by omega) (by rw [hlk]; omega) (hr9.chg ((Chg.refl NoB wr).drew) (fun _ _ _ x => x)) hbb (fun e => by cases e)
        rw [hlk] at sc
        have hS64 := secL_len gen m (((f m).drop 9).take k) (by rw [hlk]; omega)
        have hrec : recOf (f m) gen m = if secL gen m (((f m).drop 9).take k) = f m then some (((f m).drop 9).take k) else none := by
          unfold recOf; rw [H.out.2.2.2, if_neg (by omega), Int.toNat_natCast]
        generalize hSS : secL gen m (((f m).drop 9).take k) = S at *
        clear hSS hr9 hbb
        have sme : ∀ w2 A5 c5, Rd w2 .u8 A5 S → Chg NoB wr.drew w2 → Calls Try.prog 19 #[.slice A5 64 c5, .slice (some ⟨g, 0, none⟩) 64 cap] w2 (RetB (decide (S = f m)) w2) := fun w2 A5 c5 h5 hc => by
          have hrd := (H.out.2.2.1.chg (((Chg.refl NoB wr).drew).trans hc (fun _ _ x => x)) (fun x => x)).rd
          have := same_any A5 (some ⟨g, 0, none⟩) c5 cap S (f m) w2 h5 hrd
          rw [hS64, hl] at this
          exact this
        have HR := Lib.hid (And.intro hrec (And.intro hlk hS64))
        clear hrec hlk hS64 hl
        by_cases e : S = f m
        · rw [decide_eq_true e] at sme
          have HE := Lib.hid e
          have SM := Lib.hid sme
          clear e sme
          have i1 : IntKind.i64.wrap (9 + (k : Int)) = 9 + k := IntWalk.i64_in _ ⟨by omega, by omega⟩
          have i1' : wrap64 (9 + (k : Int)) = 9 + k := by unfold wrap64; omega
          have i2 : (0 : Int) ≤ 9 + (k : Int) := by omega
          have i3 : 9 + (k : Int) ≤ cap := by omega
          have i4 : (9 : Int) ≤ 9 + (k : Int) := by omega
          have i5 : (9 + (k : Int)).toNat = 9 + k := by omega
          have i6 : (k : Int) ≤ 50 := by omega
          have i7 : ¬ cap = 9 := by omega
          go_wp2_with fail
          go_region_held3 (fun w' => w'.cell? (ad.add m) = some (.slice (some ⟨g, 0, none⟩) 64 cap)) (first | go_keep | exact hC2.cell (by assumption) (fun x => x) | exact hC3.cell (by assumption) (fun x => x))
            (first
              | (go_at_call 48; ((with_reducible refine sc.mono ?_); rintro e w2 ⟨A5, c5, rfl, hr5, hC2⟩; have sm := SM.out w2 A5 c5 hr5 hC2))
              | (go_at_call 19; ((with_reducible refine sm.mono ?_); rintro e w3 ⟨rfl, hC3⟩)))
          have hct : Chg NoB wr w3 := (((Chg.refl NoB wr).drew).trans hC2 (fun _ _ x => x)).trans hC3 (fun _ _ x => x)
          have x3 := hct.cell x1 (fun x => x)
          have hct0 := H.out.1.trans hct (fun _ _ x => x)
          obtain ⟨SVs, hown0, hels⟩ := H.out.2.1
          have hown := own_chg hown0 hct (fun _ _ x => x)
          have hbase : w.heap.size ≤ w3.heap.size := hct0.size
          have hrw : Row w (.slice (some ⟨g, 0, none⟩) 64 cap) g (f m) := HW.out
          have fin : ∀ v' w4, w4.ownsRow w.heap.size 31 1 v' (m + 1) (SVs ++ [.slice (some ⟨g, 9, none⟩) k (cap - 9)]) → Chg (fun i => u5.ownBlock = some i) w3 w4 → RcB w f gen v' (.int .i64 ((m : Int) + 1)) w4 := by
            intro v' w4 h4 hc4
            have nO : ∀ i, u5.ownBlock = some i → w.heap.size ≤ i := fun i hi => (own_ge hown0 i hi).1
            have hlen : SVs.length = m := by have := hown0.1; simpa using this
            refine ⟨m + 1, by omega, rfl, hct0.trans hc4 (fun i hi x => by have := nO i x; omega), _, h4, fun j hj => ?_⟩
            by_cases cj : j < m
            · obtain ⟨g', c', V', b', e1, e2, e3⟩ := hels j cj
              exact ⟨g', c', V', b', by rw [List.getElem?_append_left (by omega)]; exact e1, e2, e3⟩
            · obtain rfl : j = m := by omega
              refine ⟨g, cap - 9, _, _, ?_, hrw, by rw [HR.out.1, if_pos HE.out]⟩
              rw [List.getElem?_append_right (by omega), hlen, HR.out.2.1]; simp
          have FI := Lib.hid fin
          clear fin hct hct0 hown0 hels hrw hC2 hC3 sc sm H HR HE SM
          go_wp2_with (first | (at_builtin; go_loud (refine append_own2 (w := w3) (base := w.heap.size) rfl (.tmp 45) (.tmp 53) 23 31 rfl (.slice none 0 0) 24 Try.underlying23 info24 rfl u5 m SVs (by rfl) hbase hown (.slice (some ⟨g, 9, none⟩) k (cap - 9)) 31 (by rfl) rfl (by omega) (by omega) ?_); intro v' w4 hown' hCo) | go_in)
          exact ⟨FI.out v' w4 hown' hCo, by simp [intOf]; omega⟩
        · rw [decide_eq_false e] at sme
          have fin := rc_no H.out.1 (f := f) (gen := gen) (m := m) (by rw [HR.out.1, if_neg e]) (by omega)
          have F := fun w' hc => fin w' hc _ H.out.2.1
          have SM := Lib.hid sme
          clear e sme fin
          have i1 : IntKind.i64.wrap (9 + (k : Int)) = 9 + k := IntWalk.i64_in _ ⟨by omega, by omega⟩
          have i1' : wrap64 (9 + (k : Int)) = 9 + k := by unfold wrap64; omega
          have i2 : (0 : Int) ≤ 9 + (k : Int) := by omega
          have i3 : 9 + (k : Int) ≤ cap := by omega
          have i4 : (9 : Int) ≤ 9 + (k : Int) := by omega
          have i5 : (9 + (k : Int)).toNat = 9 + k := by omega
          have i6 : (k : Int) ≤ 50 := by omega
          have i7 : ¬ cap = 9 := by omega
          go_wp2_with fail
          go_region_held3 (fun w' => w'.cell? (ad.add m) = some (.slice (some ⟨g, 0, none⟩) 64 cap)) (first | go_keep | exact hC2.cell (by assumption) (fun x => x) | exact hC3.cell (by assumption) (fun x => x))
            (first
              | (go_at_call 48; ((with_reducible refine sc.mono ?_); rintro e w2 ⟨A5, c5, rfl, hr5, hC2⟩; have sm := SM.out w2 A5 c5 hr5 hC2))
              | (go_at_call 19; ((with_reducible refine sm.mono ?_); rintro e w3 ⟨rfl, hC3⟩)))
          have F2 := F w3 ((((Chg.refl NoB wr).drew).trans hC2 (fun _ _ x => x)).trans hC3 (fun _ _ x => x))
          clear hC2 hC3 sc sm H HR SM F
          go_wp2_with fail
          go_ret
          exact F2
    · obtain rfl : m = 64 := by omega
      have fin : ∀ out, RRows w wr f gen out 64 → RcPost w f gen (.returned out) wr := fun out hL => ⟨out, 64, rfl, hC, by omega, hL, .inl rfl⟩
      have F := fin _ hL
      clear fin hC hL h
      go_wp2_with fail
      go_ret
      exact F
end Go.Proofs.Ytmonkoclbcahiaa.Log
