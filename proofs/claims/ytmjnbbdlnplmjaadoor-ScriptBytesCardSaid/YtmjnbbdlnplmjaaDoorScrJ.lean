/- Chapter 25: ScriptBytes, walked. -/
import Derived.Test.YtmjnbbdlnplmjaaDoorScrI
import Derived.BigRegion
namespace Go.Proofs.YtmjnbbdlnplmjaaDoor.Scr
open Go.RowKit
open Hp (Chg Blk NoB blt Rd)
set_option linter.unusedVariables false
set_option linter.unusedSimpArgs false
theorem i64w (z : Int) (h0 : -2147483648 ≤ z) (h1 : z ≤ 2147483647) : IntKind.i64.wrap z = z := by rw [IntKind.wrap_i64]; omega
theorem i32fit (z : Int) (h : -2147483648 ≤ z ∧ z ≤ 2147483647) : fitP z := by unfold fitP; omega
set_option maxRecDepth 100000 in
set_option maxHeartbeats 1000000 in
theorem bytes_law (w : World) (hG : Glo w) (A N : Option Addr) (cb cn : Nat) (bs ns : List Int) (hb : Rd w .u8 A bs) (hz : ∀ z, z ∈ bs → 0 ≤ z ∧ z < 256) (hn : Rd w .i32 N ns) (hi : ∀ z, z ∈ ns → -2147483648 ≤ z ∧ z ≤ 2147483647) (wr : Bool) :
    Calls Tryd.prog 4 #[.slice A bs.length cb, .slice N ns.length cn, .bool wr] w fun e w' => e = .returned (.bool true) ∧ Chg NoB w w' := by
  by_cases h1 : 1000 < bs.length
  · have d1 : decide ((bs.length : Int) > 1000) = true := decide_eq_true (by omega)
    go_enter Tryd.func4, Tryd.ntmps4
    go_wp2_with fail
    refine (answers_any w hG).mono ?_
    rintro e w1 ⟨rfl, hc1⟩
    go_wp2_with fail
    go_ret
    exact ⟨rfl, hc1⟩
  · have d1 : decide ((bs.length : Int) > 1000) = false := decide_eq_false (by omega)
    by_cases h2 : ns.length < 9
    · have d2 : decide ((ns.length : Int) < 9) = true := decide_eq_true (by omega)
      go_enter Tryd.func4, Tryd.ntmps4
      go_wp2_with fail
      refine (answers_any w hG).mono ?_
      rintro e w1 ⟨rfl, hc1⟩
      go_wp2_with fail
      go_ret
      exact ⟨rfl, hc1⟩
    · have d2 : decide ((ns.length : Int) < 9) = false := decide_eq_false (by omega)
      obtain ⟨ad, rfl, c0⟩ := hn.at_ 0 (by omega)
      have hc : ∀ j, j < 9 → w.cell? (ad.add j) = some (.int .i32 (ns.getD j 0)) := fun j hj => by
        obtain ⟨ad', e, h⟩ := hn.at_ j (by omega)
        obtain rfl := Option.some.inj e
        exact h
      have hv : ∀ j, j < 9 → -2147483648 ≤ ns.getD j 0 ∧ ns.getD j 0 ≤ 2147483647 := fun j hj => hi _ (by
        rw [List.getD_eq_getElem?_getD, List.getElem?_eq_getElem (by omega)]; simp)
      have hc1 : ∀ j, 0 < j → j < 9 → w.cell? ⟨ad.block, ad.off + j, none⟩ = some (.int .i32 (ns.getD j 0)) := fun j h0 hj => by
        have := hc j hj
        rw [show j = 0 + j by omega, Hp.add_field _ _ _ h0] at this
        rw [Nat.zero_add] at this
        exact this
      have k0 : w.cell? ad = some (.int .i32 (ns.getD 0 0)) := hc 0 (by omega)
      have k1 := hc1 1 (by omega) (by omega)
      have k2 := hc1 2 (by omega) (by omega)
      have k3 := hc1 3 (by omega) (by omega)
      have k4 := hc1 4 (by omega) (by omega)
      have k5 := hc1 5 (by omega) (by omega)
      have k6 := hc1 6 (by omega) (by omega)
      have k7 := hc1 7 (by omega) (by omega)
      have k8 := hc1 8 (by omega) (by omega)
      have up : ∀ p v, w.cell? p = some v → (w.alloc (.cells z37 37)).cell? p = some v := fun p v h => ((Chg.refl NoB w).alloc _).cell h (fun x => x)
      have l0 := up _ _ k0
      have l1 := up _ _ k1
      have l2 := up _ _ k2
      have l3 := up _ _ k3
      have l4 := up _ _ k4
      have l5 := up _ _ k5
      have l6 := up _ _ k6
      have l7 := up _ _ k7
      have l8 := up _ _ k8
      obtain ⟨v0, V0⟩ := hv 0 (by omega)
      obtain ⟨v1, V1⟩ := hv 1 (by omega)
      obtain ⟨v2, V2⟩ := hv 2 (by omega)
      obtain ⟨v3, V3⟩ := hv 3 (by omega)
      obtain ⟨v4, V4⟩ := hv 4 (by omega)
      obtain ⟨v5, V5⟩ := hv 5 (by omega)
      obtain ⟨v6, V6⟩ := hv 6 (by omega)
      obtain ⟨v7, V7⟩ := hv 7 (by omega)
      obtain ⟨v8, V8⟩ := hv 8 (by omega)
      have j0 : (8 : Int) < ns.length := by omega
      have p0 : (0 : Int) < ns.length := by omega
      have q0 : 0 < ns.length := by omega
      have p1 : (1 : Int) < ns.length := by omega
      have q1 : 1 < ns.length := by omega
      have p2 : (2 : Int) < ns.length := by omega
      have q2 : 2 < ns.length := by omega
      have p3 : (3 : Int) < ns.length := by omega
      have q3 : 3 < ns.length := by omega
      have p4 : (4 : Int) < ns.length := by omega
      have q4 : 4 < ns.length := by omega
      have p5 : (5 : Int) < ns.length := by omega
      have q5 : 5 < ns.length := by omega
      have p6 : (6 : Int) < ns.length := by omega
      have q6 : 6 < ns.length := by omega
      have p7 : (7 : Int) < ns.length := by omega
      have q7 : 7 < ns.length := by omega
      have j1 : 8 < ns.length := by omega
      unfold z37 at l0 l1 l2 l3 l4 l5 l6 l7 l8
      clear c0 hc hc1 up hv hn hi
      generalize ns.getD 0 0 = n0 at *
      generalize ns.getD 1 0 = n1 at *
      generalize ns.getD 2 0 = n2 at *
      generalize ns.getD 3 0 = n3 at *
      generalize ns.getD 4 0 = n4 at *
      generalize ns.getD 5 0 = n5 at *
      generalize ns.getD 6 0 = n6 at *
      generalize ns.getD 7 0 = n7 at *
      generalize ns.getD 8 0 = n8 at *
      go_enter Tryd.func4, Tryd.ntmps4
      go_wp2_with fail
      go_region_held3 (fun w' => w'.cell? ad = some (.int .i32 n0) ∧ w'.cell? ⟨ad.block, ad.off + 1, none⟩ = some (.int .i32 n1) ∧ w'.cell? ⟨ad.block, ad.off + 2, none⟩ = some (.int .i32 n2) ∧ w'.cell? ⟨ad.block, ad.off + 3, none⟩ = some (.int .i32 n3) ∧ w'.cell? ⟨ad.block, ad.off + 4, none⟩ = some (.int .i32 n4) ∧ w'.cell? ⟨ad.block, ad.off + 5, none⟩ = some (.int .i32 n5) ∧ w'.cell? ⟨ad.block, ad.off + 6, none⟩ = some (.int .i32 n6) ∧ w'.cell? ⟨ad.block, ad.off + 7, none⟩ = some (.int .i32 n7) ∧ w'.cell? ⟨ad.block, ad.off + 8, none⟩ = some (.int .i32 n8)) (first | go_keep | exact ⟨k0, k1, k2, k3, k4, k5, k6, k7, k8⟩ | exact ⟨l0, l1, l2, l3, l4, l5, l6, l7, l8⟩) (first | fail)
      rw [i64w n0 v0 V0, i64w n1 v1 V1, i64w n2 v2 V2, i64w n3 v3 V3, i64w n4 v4 V4, i64w n5 v5 V5, i64w n6 v6 V6, i64w n7 v7 V7, i64w n8 v8 V8]
      have ok1 : ∀ s, s ∈ [(⟨n0, n1, n2, n3, n4, n5, wr, n6, n7, n8, bs⟩ : St)] → s.ok := fun s hs => by rw [List.mem_singleton.1 hs]; exact hz
      have d1' : ∀ s, s ∈ [(⟨n0, n1, n2, n3, n4, n5, wr, n6, n7, n8, bs⟩ : St)] → s.data.length ≤ 100000 := fun s hs => by rw [List.mem_singleton.1 hs]; show bs.length ≤ 100000; omega
      have f1 : ∀ s, s ∈ [(⟨n0, n1, n2, n3, n4, n5, wr, n6, n7, n8, bs⟩ : St)] → ∀ n, n ∈ s.nums → fitP n := fun s hs n hn => by
        rw [List.mem_singleton.1 hs] at hn
        unfold St.nums at hn
        simp only [List.mem_cons, List.mem_nil_iff, or_false] at hn
        rcases hn with rfl | rfl | rfl | rfl | rfl | rfl | rfl | rfl | rfl | rfl
        all_goals first | exact i32fit _ ⟨by assumption, by assumption⟩ | (unfold St.wn fitP; dsimp only; split <;> omega)
      have hl1 : (textL [(⟨n0, n1, n2, n3, n4, n5, wr, n6, n7, n8, bs⟩ : St)]).length ≤ 900000 := by
        have h1 := numT_len (⟨n0, n1, n2, n3, n4, n5, wr, n6, n7, n8, bs⟩ : St).nums (f1 _ (List.mem_singleton.2 rfl))
        have h2 : (⟨n0, n1, n2, n3, n4, n5, wr, n6, n7, n8, bs⟩ : St).nums.length = 10 := rfl
        show (lineL _ ++ []).length ≤ 900000
        rw [List.append_nil]
        unfold lineL
        rw [List.length_append, List.length_append, List.length_cons, ScP.hexL_len]
        simp only [List.length_cons, List.length_nil]
        omega
      have hC6 : Chg NoB w (((w.alloc (.cells ((⟨n0, n1, n2, n3, n4, n5, wr, n6, n7, n8, bs⟩ : St).cells (.slice A bs.length cb)) 37)).alloc (.cells ((⟨n0, n1, n2, n3, n4, n5, wr, n6, n7, n8, bs⟩ : St).cells (.slice A bs.length cb)) 37)).drew) := (((Chg.refl NoB w).alloc _).alloc _).drew
      have hb6 : Blk (((w.alloc (.cells ((⟨n0, n1, n2, n3, n4, n5, wr, n6, n7, n8, bs⟩ : St).cells (.slice A bs.length cb)) 37)).alloc (.cells ((⟨n0, n1, n2, n3, n4, n5, wr, n6, n7, n8, bs⟩ : St).cells (.slice A bs.length cb)) 37)).drew) w.heap.size ((⟨n0, n1, n2, n3, n4, n5, wr, n6, n7, n8, bs⟩ : St).cells (.slice A bs.length cb)) 37 := Hp.balloc (Hp.bnew w _) _
      have hR6 : Rd (((w.alloc (.cells ((⟨n0, n1, n2, n3, n4, n5, wr, n6, n7, n8, bs⟩ : St).cells (.slice A bs.length cb)) 37)).alloc (.cells ((⟨n0, n1, n2, n3, n4, n5, wr, n6, n7, n8, bs⟩ : St).cells (.slice A bs.length cb)) 37)).drew) .u8 A bs := hb.chg hC6 (fun _ _ _ x => x)
      have hin : SIn (((w.alloc (.cells ((⟨n0, n1, n2, n3, n4, n5, wr, n6, n7, n8, bs⟩ : St).cells (.slice A bs.length cb)) 37)).alloc (.cells ((⟨n0, n1, n2, n3, n4, n5, wr, n6, n7, n8, bs⟩ : St).cells (.slice A bs.length cb)) 37)).drew) (some ⟨w.heap.size + 1, 0, none⟩) [(⟨n0, n1, n2, n3, n4, n5, wr, n6, n7, n8, bs⟩ : St)] :=
        one_in (A := A) (c := cb) (T := 37) (Hp.bnew' (by simp) _) hR6
      have hp := print_good [(⟨n0, n1, n2, n3, n4, n5, wr, n6, n7, n8, bs⟩ : St)] (some ⟨w.heap.size + 1, 0, none⟩) 1 _ (hG.nob hC6) hin ok1 d1' hl1 (by simp) f1
      generalize hWg : ((w.alloc (.cells ((⟨n0, n1, n2, n3, n4, n5, wr, n6, n7, n8, bs⟩ : St).cells (.slice A bs.length cb)) 37)).alloc (.cells ((⟨n0, n1, n2, n3, n4, n5, wr, n6, n7, n8, bs⟩ : St).cells (.slice A bs.length cb)) 37)).drew = W6 at *
      go_wp2_with fail
      clear hWg
      refine hp.mono ?_
      rintro e w1 ⟨rfl, hc1⟩
      have hps := parse_any [(⟨n0, n1, n2, n3, n4, n5, wr, n6, n7, n8, bs⟩ : St)] ok1 f1 d1' hl1 (by simp) w1 ((hG.nob hC6).nob hc1)
      have hb1 := hc1.blk hb6 (fun x => x)
      have hR1 := hR6.chg hc1 (fun _ _ _ x => x)
      clear hp hin
      go_wp2_with fail
      refine hps.mono ?_
      rintro e w2 ⟨hc2, A2, c2, rfl, hS2⟩
      have hb2 := hc2.blk hb1 (fun x => x)
      have hR2 := hR1.chg hc2 (fun _ _ _ x => x)
      have hC2 : Chg NoB w w2 := (hC6.trans hc1 (fun _ _ h => h)).trans hc2 (fun _ _ h => h)
      clear hps
      go_wp2_with fail
      refine (answers_any w2 (hG.nob hC2)).mono ?_
      rintro e w3 ⟨rfl, hc3⟩
      have hb3 := hc3.blk hb2 (fun x => x)
      have hR3 := hR2.chg hc3 (fun _ _ _ x => x)
      have hS3 := hS2.chg hc3
      have hC3 : Chg NoB w w3 := hC2.trans hc3 (fun _ _ h => h)
      have hin3 : SIn (w3.alloc (.cells ((⟨n0, n1, n2, n3, n4, n5, wr, n6, n7, n8, bs⟩ : St).cells (.slice A bs.length cb)) 37)) (some ⟨w3.heap.size, 0, none⟩) [(⟨n0, n1, n2, n3, n4, n5, wr, n6, n7, n8, bs⟩ : St)] :=
        one_in (A := A) (c := cb) (T := 37) (Hp.bnew w3 _) (hR3.chg ((Chg.refl NoB _).alloc _) (fun _ _ _ x => x))
      have hsm := same_any [(⟨n0, n1, n2, n3, n4, n5, wr, n6, n7, n8, bs⟩ : St)] A2 (some ⟨w3.heap.size, 0, none⟩) c2 1 _ (hS3.chg ((Chg.refl NoB w3).alloc (.cells ((⟨n0, n1, n2, n3, n4, n5, wr, n6, n7, n8, bs⟩ : St).cells (.slice A bs.length cb)) 37))) hin3 (by simp)
      obtain ⟨y0, y1, y2, y3, y4, y5, y6, y7, y8, y9, y10⟩ := blk11 hb3
      clear hS3 hin3
      go_wp2_with fail
      refine hsm.mono ?_
      rintro e w4 ⟨rfl, hc4⟩
      go_wp2_with fail
      go_ret
      exact ⟨rfl, (hC3.alloc _).trans hc4 (fun _ _ h => h)⟩
end Go.Proofs.YtmjnbbdlnplmjaaDoor.Scr
