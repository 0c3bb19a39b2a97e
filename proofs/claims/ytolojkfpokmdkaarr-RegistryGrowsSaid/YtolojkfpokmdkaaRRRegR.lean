/- Chapter 7: add, where the journal is full; what a registry does where nothing fails. -/
import Derived.Test.YtolojkfpokmdkaaRRRegQ
import Derived.Test.YtolojkfpokmdkaaRRRegK
namespace Go.Proofs.YtolojkfpokmdkaaRR.Reg
open Go.RowKit Go.Proofs.YtolojkfpokmdkaaRR.Hp Go.Proofs.YtolojkfpokmdkaaRR.By Go.Proofs.YtolojkfpokmdkaaRR.Disk Go.Proofs.YtolojkfpokmdkaaRR.Word Go.Proofs.YtolojkfpokmdkaaRR.WordP Go.Proofs.YtolojkfpokmdkaaRR.Log Go.Proofs.YtolojkfpokmdkaaRR.Slot Go.Proofs.YtolojkfpokmdkaaRR.Jour
set_option linter.unusedVariables false
set_option linter.unusedSimpArgs false
theorem base_bytes {x : RSt} (h : Canon x) : Bytes (baseB x) := fun z hz => by
  unfold baseB at hz
  rcases List.mem_append.mp hz with hz | hz
  · unfold bitsB at hz
    obtain ⟨i, _, rfl⟩ := List.mem_map.mp hz
    have := byte_lt x.bad i
    omega
  · obtain ⟨s, hs, rfl⟩ := List.mem_map.mp hz
    have := h.ok s (List.mem_range.mp hs)
    omega
set_option maxRecDepth 100000 in
set_option maxHeartbeats 4000000 in
theorem adds_full {w0 w : World} {r j bm d : Nat} {ρ : Nat → Nat} {s : DSt} {f : Nat → List Int} {gen : Int} {bs : List Int} {ws : List (List Int)} {x : RSt} {K : Nat} (h : RegAt w0 w r j bm d ρ s gen ws.length x K) (hD : DReg s f gen bs ws x) (hg : gen < 100000) (hw : ws.length = 64) (hK : K ≤ 900000) : Adds w r j bm ρ (CalmQ w0 w r j bm d ρ gen ws x K) := by
  intro y hy w1 A c hC hr ho hc
  have h1 := h.keep hC
  clear h
  have hlt := h1.lt
  have hcan := hD.says.canon
  have hl := Rec.len hy
  have hsz := rec_size hy
  have hf1 := japp_full w0 w1 j d ρ s gen ws.length false h1.jl A y.bytes.length c (by omega) (.inr (by omega))
  obtain ⟨z0, _⟩ := h1.rm.rb.two
  -- what a world behind the base's call is
  have HB := Lib.hid (show ∀ w', Chg NoB w1 w' → Calls Try.prog 39 #[.pointer (some ⟨r, 0, none⟩)] w' (fun e w2 => ∃ A2 c2, e = .returned (.slice A2 160 c2) ∧ Chg NoB w1 w2 ∧ Calls Try.prog 38 #[.pointer (some ⟨j, 0, none⟩), .slice A2 160 c2] w2 (fun e w3 => e = .returned (.int .i64 0) ∧ ∃ ρ3 s3 f3, JL w0 w3 j d ρ3 s3 (gen + 1) 0 false ∧ DReg s3 f3 (gen + 1) (baseB x) [] x ∧ Chg (fun i => Disk.Own ρ i ∨ i = j) w1 w3 ∧ ∀ i, i < w1.heap.size → ρ i = 0 → ρ3 i = 0)) from fun w' hc' => by
    refine (base_any (h1.rm.chg hc' (fun e => e) (fun e => e)) hcan).mono ?_
    rintro e w2 ⟨v, rfl, hown, hC2⟩
    obtain ⟨A2, c2, rfl, _, hc2, hr2, ho2⟩ := own_rd hown (by decide)
    have hC12 := hc'.trans hC2 (fun _ _ x => x)
    refine ⟨A2, c2, rfl, hC12, (rebase2 (h1.jl.keep hC12) hD hg A2 c2 hr2 (fun ad e q => ?_) hc2 (base_bytes hcan)).mono ?_⟩
    · have := ho2 ad e
      have h2 := hlt.2 _ q
      have h3 := hc'.size
      omega
    · rintro e w3 ⟨rfl, ρ3, s3, f3, hJ3, hD3, hC3, hz3⟩
      exact ⟨rfl, ρ3, s3, f3, hJ3, hD3, hC12.mono (fun _ _ x => x.elim) |>.trans hC3 (fun _ _ x => x), fun i hi hz => hz3 i (by have := hC12.size; omega) hz⟩)
  have hz := h1.rm.rb.two.1
  have rmk : ∀ w', Chg (fun i => Disk.Own ρ i ∨ i = j) w1 w' → RM w' r j bm x K := fun w' hc' => h1.rm.chg hc' (fun e => e.elim (fun e => e h1.ne.1.1) (fun e => h1.ne.2.1 e)) (fun e => e.elim (fun e => e h1.ne.1.2) (fun e => h1.ne.2.2 e))
  have rdk : ∀ w', Chg (fun i => Disk.Own ρ i ∨ i = j) w1 w' → Rd w' .u8 A y.bytes := fun w' hc' => hr.chg hc' (fun _ b e q => ho b e (q.elim .inl (fun q => .inr (.inl q))))
  have hfar : Far A r bm := fun b e => ⟨fun q => ho b e (.inr (.inr (.inl q))), fun q => ho b e (.inr (.inr (.inr q)))⟩
  have HX := Lib.hid (And.intro h1 (And.intro hlt (And.intro hsz (And.intro hy (And.intro rmk (And.intro rdk (And.intro hfar (And.intro hK (And.intro hc (And.intro hw (And.intro hcan hD.two.1)))))))))))
  obtain ⟨lb, hlb⟩ : ∃ lb, lb = y.bytes.length := ⟨_, rfl⟩
  have HL := Lib.hid hlb
  rw [← hlb] at hf1 ⊢
  clear h1 hlt hcan hl hsz hw hK hr ho hc rmk rdk hfar hD hlb z0
  go_enter Try.func27, Try.ntmps27
  go_wp2_with fail
  refine hf1.mono ?_
  rintro e w2 ⟨rfl, rfl⟩
  clear hf1
  go_wp2_with fail
  go_region_held3 (fun w' => w'.cell? ⟨r, 0, none⟩ = some (.pointer (some ⟨j, 0, none⟩))) (first | go_keep | exact x3 | exact x2)
    (first
      | (go_at_call 39; ((with_reducible refine (HB.out _ ?_).mono ?_); (· repeat (first | exact Chg.refl _ _ | apply Chg.alloc | apply Chg.drew)); rintro e w2 ⟨A2, c2, rfl, hC2, hreb⟩; have x2 := hC2.cell hz (fun x => x)))
      | (go_at_call 38; ((with_reducible refine hreb.mono ?_); rintro e w3 ⟨rfl, ρ3, s3, f3, hJ3, hD3, hC3, hz3⟩; have x3 := (HX.out.2.2.2.2.1 w3 hC3).rb.two.1)))
  have hm3 := HX.out.2.2.2.2.1 w3 hC3
  have hE := app_calm2 hD3 y HX.out.2.2.2.1 (by decide)
  have happ := japp_any hJ3 A c y.bytes (by have := HX.out.2.2.2.2.2.2.2.2.2.2.2; omega) (by omega) (by decide) (by decide) (by have := (Rec.len HX.out.2.2.2.1).1; omega) (HX.out.2.2.2.2.2.1 w3 hC3) (Rec.byt HX.out.2.2.2.1)
  obtain ⟨E, hEE⟩ : ∃ E, E = appE s3 (0 : Int) (secL (gen + 1) (0 : Int) y.bytes) := ⟨_, rfl⟩
  have hE0 : E = 0 := by rw [hEE]; exact hE.1
  unfold JAppPost at happ
  rw [← hEE, hE0, if_pos rfl, ← HL.out] at happ
  obtain ⟨c30, _⟩ := hm3.rb.two
  have H3 := Lib.hid (And.intro hC3 (And.intro hz3 (And.intro hm3 hE.2)))
  clear hreb x3 x2 hC2 hJ3 hD3 hC3 hz3 hm3 hE hEE hE0
  go_wp2_with fail
  refine happ.mono ?_
  rintro e w4 ⟨rfl, ρ4, hJ4, hC4, hz4⟩
  have hC14 : Chg (fun i => Disk.Own ρ i ∨ i = j) w1 w4 := H3.out.1.trans hC4 (fun i hi q => by
    rcases q with q | q
    · by_cases hp : ρ i = 0
      · exact absurd (H3.out.2.1 i hi hp) q
      · exact .inl hp
    · exact .inr q)
  have hm4 := HX.out.2.2.2.2.1 w4 hC14
  have hap := apply_any hm4 y HX.out.2.2.2.1 (by have := HX.out.2.2.2.2.2.2.2.1; omega) A c (HX.out.2.2.2.2.2.1 w4 hC14) HX.out.2.2.2.2.2.2.1 HX.out.2.2.2.2.2.2.2.2.1
  rw [← HL.out] at hap
  have H4 := Lib.hid (And.intro hJ4 (And.intro hC14 (And.intro hz4 hC4)))
  clear happ hJ4 hC4 hz4 hC14 hm4
  go_wp2_with fail
  refine hap.mono ?_
  rintro e w5 ⟨rfl, hM5, hC5⟩
  clear hap
  go_wp2_with fail
  go_ret
  refine ⟨0, rfl, ⟨rfl, ρ4, _, _, gen + 1, baseB x, [] ++ [y.bytes], ?_, H3.out.2.2.2, by omega, fun e => ?_, fun i hi hp => H4.out.2.2.1 i (by have := H3.out.1.size; have := hC.size; omega) (H3.out.2.1 i (by have := hC.size; omega) hp)⟩, ?_⟩
  · obtain ⟨h1, hlt, hsz, _⟩ := HX.out
    have hz14 : ∀ i, i < w1.heap.size → ρ i = 0 → ρ4 i = 0 := fun i hi hp => H4.out.2.2.1 i (by have := H3.out.1.size; omega) (H3.out.2.1 i hi hp)
    refine ⟨?_, hM5.up (by omega), ⟨⟨hz14 r hlt.1.1 h1.ne.1.1, hz14 bm hlt.1.2.1 h1.ne.1.2⟩, h1.ne.2⟩, h1.nw⟩
    refine JL.sides (show JL w0 w4 j d ρ4 _ (gen + 1) (1 : Int) false from H4.out.1) hC5 (fun i hi => ?_)
    rcases hi with rfl | rfl
    · exact ⟨hz14 _ hlt.1.1 h1.ne.1.1, h1.nw.1, h1.ne.2.1⟩
    · exact ⟨hz14 _ hlt.1.2.1 h1.ne.1.2, h1.nw.2, h1.ne.2.2⟩
  · exact absurd e (by have := HX.out.2.2.2.2.2.2.2.2.2.1; omega)
  · exact (H4.out.2.1.mono (fun i _ q => q.elim .inl (fun q => .inr (.inl q)))).trans hC5 (fun i _ q => q.elim (fun q => .inr (.inr (.inl q))) (fun q => .inr (.inr (.inr q))))
theorem adds_calm {w0 w : World} {r j bm d : Nat} {ρ : Nat → Nat} {s : DSt} {f : Nat → List Int} {gen : Int} {bs : List Int} {ws : List (List Int)} {x : RSt} {K : Nat} (h : RegAt w0 w r j bm d ρ s gen ws.length x K) (hD : DReg s f gen bs ws x) (hg : gen < 100000) (hK : K ≤ 900000) : Adds w r j bm ρ (CalmQ w0 w r j bm d ρ gen ws x K) := by
  rcases Nat.lt_or_ge ws.length 64 with hw | hw
  · exact adds_calm1 h hD (by omega) hw hK
  · exact adds_full h hD hg (by have := hD.log.1; omega) hK
end Go.Proofs.YtolojkfpokmdkaaRR.Reg
