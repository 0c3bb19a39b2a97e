/- The log: is a sector a record? -/
import Derived.Test.YtmonkoclbcahiaaLog
import Derived.Laws.BytesArg
import Derived.Deep.RegionHeld3
namespace Go.Proofs.Ytmonkoclbcahiaa.Log
open Go.RowKit Go.Proofs.Ytmonkoclbcahiaa.Hp Go.Proofs.Ytmonkoclbcahiaa.By Go.Proofs.Ytmonkoclbcahiaa.Disk Go.Proofs.Ytmonkoclbcahiaa.Word Go.Proofs.Ytmonkoclbcahiaa.WordP
set_option linter.unusedVariables false
set_option linter.unusedSimpArgs false
theorem row_str {w : World} {v : Value} {g : Nat} {l : List Int} (h : Row w v g l) : (convert 31 9 v).run Try.prog w = .ok (.string (strOfNums l)) w := by
  obtain ⟨a, b, cap, C, rfl, f, hb, r1, r2⟩ := h
  exact run_convert_bytes_arg (P := Try.prog) w 31 5 Try.underlying31 Try.underlying5 g 0 64 cap l a (fun i hi => by rw [Nat.zero_add, bcell hb]; exact r2 i hi) 9 Try.underlying9
theorem str_inj {a b : List Int} (ha : ∀ x ∈ a, 0 ≤ x ∧ x ≤ 255) (hb : ∀ x ∈ b, 0 ≤ x ∧ x ≤ 255) (h : strOfNums a = strOfNums b) : a = b := by
  have h1 : a.map (fun n => UInt8.ofNat n.toNat) = b.map (fun n => UInt8.ofNat n.toNat) := by
    have := congrArg (fun x : ByteArray => x.data.toList) h
    simpa [strOfNums] using this
  have back : ∀ l : List Int, (∀ x ∈ l, 0 ≤ x ∧ x ≤ 255) → (l.map (fun n => UInt8.ofNat n.toNat)).map (fun u => (u.toNat : Int)) = l := by
    intro l hl
    rw [List.map_map]
    conv => rhs; rw [← List.map_id l]
    apply List.map_congr_left
    intro x hx
    obtain ⟨c, d⟩ := hl x hx
    simp only [Function.comp, id]
    rw [UInt8.toNat_ofNat']
    omega
  rw [← back a ha, ← back b hb, h1]
def recOf (l : List Int) (gen n : Int) : Option (List Int) :=
  if 50 < l.getD 8 0 then none else if secL gen n ((l.drop 9).take (l.getD 8 0).toNat) = l then some ((l.drop 9).take (l.getD 8 0).toNat) else none
def RecPost (w : World) (g : Nat) (l : List Int) (gen n : Int) (e : Ending) (w' : World) : Prop :=
  ∃ v, e = .returned (.tuple #[v, .bool (recOf l gen n).isSome]) ∧ Chg NoB w w' ∧ ∀ b, recOf l gen n = some b → ∃ c, v = .slice (some ⟨g, 9, none⟩) b.length c ∧ b.length ≤ c
set_option maxRecDepth 100000 in
set_option maxHeartbeats 2000000 in
theorem record_any (gen n : Int) (v : Value) (g : Nat) (l : List Int) (w : World) (g0 : 0 ≤ gen) (g1 : gen < 4294967296) (n0 : 0 ≤ n) (n1 : n ≤ 63) (h : Row w v g l) :
    Calls Try.prog 53 #[v, .int .u32 gen, .int .i64 n] w (RecPost w g l gen n) := by
  have hrow := h
  obtain ⟨hl, hb, cap, C, rfl, hcap, hblk, hC, hcell⟩ := h
  have c8 : w.cell? ⟨g, 8, none⟩ = some (.int .u8 (l.getD 8 0)) := by rw [bcell hblk]; exact hcell 8 (by omega)
  have b8 := hb (l.getD 8 0) (by rw [List.getD_eq_getElem?_getD, List.getElem?_eq_getElem (by omega)]; exact List.getElem_mem _)
  by_cases c : 50 < l.getD 8 0
  · have post : RecPost w g l gen n (.returned (.tuple #[.slice none 0 0, .bool false])) w := by
      have e : recOf l gen n = none := if_pos c
      refine ⟨_, by rw [e]; rfl, Chg.refl _ _, fun b hb => by rw [e] at hb; cases hb⟩
    clear hrow hcell hb hblk
    generalize l.getD 8 0 = x at *
    go_enter Try.func53, Try.ntmps53
    go_wp2_with fail
    go_ret2
    exact post
  · obtain ⟨k, hk⟩ : ∃ k : Nat, l.getD 8 0 = k := ⟨(l.getD 8 0).toNat, by omega⟩
    have hr9 : Rd w .u8 (some ⟨g, 9, none⟩) ((l.drop 9).take k) := by
      refine ⟨by rw [List.length_take]; omega, fun hp => ⟨_, rfl, fun j hj => ?_⟩⟩
      rw [List.length_take, List.length_drop] at hj
      have e : (⟨g, 9, none⟩ : Addr).add j = ⟨g, 9 + j, none⟩ := by unfold Addr.add; split <;> simp_all
      rw [e, bcell hblk, hcell (9 + j) (by omega)]
      simp only [List.getD_eq_getElem?_getD, List.getElem?_take, List.getElem?_drop]
      rw [if_pos (by omega)]
    have hlk : ((l.drop 9).take k).length = k := by rw [List.length_take, List.length_drop]; omega
    have hbb : Bytes ((l.drop 9).take k) := fun x hx => by
      have := hb x (List.mem_of_mem_drop (List.mem_of_mem_take hx)); omega
    have sc := sector_any gen n (some ⟨g, 9, none⟩) (cap - 9) _ w.drew g0 g1 n0 n1 (by rw [hlk]; omega) (hr9.chg ((Chg.refl NoB w).drew) (fun _ _ _ x => x)) hbb
    rw [hlk] at sc
    have hS : ∀ w', Chg NoB w w' → (convert 31 9 (.slice (some ⟨g, 0, none⟩) 64 cap)).run Try.prog w' = .ok (.string (strOfNums l)) w' := fun w' hc => row_str (hrow.chg hc (fun x => x))
    have hw0 := hS w.drew ((Chg.refl NoB w).drew)
    have hrec : recOf l gen n = if secL gen n ((l.drop 9).take k) = l then some ((l.drop 9).take k) else none := by
      unfold recOf; rw [if_neg c, hk, Int.toNat_natCast]
    have hsb : ∀ x ∈ secL gen n ((l.drop 9).take k), 0 ≤ x ∧ x ≤ 255 := fun x hx => by have := secL_bytes gen n _ hbb x hx; omega
    have HR := Lib.hid (And.intro hrec (And.intro hsb (And.intro hb (And.intro hlk hS))))
    rw [hk] at c8
    have hk50 : k ≤ 50 := by omega
    clear hrec hsb hbb hr9 hrow hcell hb hblk b8 c hk hlk hS
    generalize secL gen n ((l.drop 9).take k) = S at *
    go_enter Try.func53, Try.ntmps53
    go_wp2_with fail
    go_region_law (go_simp; refine Calls.mono sc ?_; rintro e w2 ⟨v, g2, rfl, hrow2, hg2, hC2⟩; have hcv := row_str hrow2; have hcs := HR.out.2.2.2.2 w2 (((Chg.refl NoB w).drew).trans hC2 (fun _ _ x => x)); dsimp only)
    all_goals
      have fin : RecPost w g l gen n (.returned (.tuple #[.slice (some ⟨g, 9, none⟩) k (cap - 9), .bool ((strOfNums S).toList == (strOfNums l).toList)])) w2 := by
        obtain ⟨hrec, hsb, hb, hlk, _⟩ := HR.out
        by_cases e : S = l
        · rw [if_pos e] at hrec
          refine ⟨.slice (some ⟨g, 9, none⟩) k (cap - 9), by rw [hrec, e]; simp, ((Chg.refl NoB w).drew).trans hC2 (fun _ _ x => x), fun b hb2 => ?_⟩
          rw [hrec] at hb2
          obtain rfl := Option.some.inj hb2
          exact ⟨cap - 9, by rw [hlk], by omega⟩
        · rw [if_neg e] at hrec
          refine ⟨.slice (some ⟨g, 9, none⟩) k (cap - 9), ?_, ((Chg.refl NoB w).drew).trans hC2 (fun _ _ x => x), fun b hb2 => by rw [hrec] at hb2; cases hb2⟩
          have : ((strOfNums S).toList == (strOfNums l).toList) = false := by
            rw [beq_eq_false_iff_ne]
            intro h
            rw [ByteArray.toList_eq, ByteArray.toList_eq] at h
            exact e (str_inj hsb hb (WideShapes.bytes_inj h))
          rw [hrec, this]; rfl
      clear HR hcv hcs hrow2 hC2 hw0 sc
      generalize ((strOfNums S).toList == (strOfNums l).toList) = ok at *
      go_wp2_with fail
      go_ret2
      exact fin
end Go.Proofs.Ytmonkoclbcahiaa.Log
