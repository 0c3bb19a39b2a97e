/- Chapter 25: a text as steps (Parse). -/
import Derived.Test.YtmjnbbdlnplmjaaDoorScrF
namespace Go.Proofs.YtmjnbbdlnplmjaaDoor.Scr
open Go.RowKit
open Hp (Chg Blk NoB blt Rd bnew bcell)
open Own (run_append_where)
set_option linter.unusedVariables false
set_option linter.unusedSimpArgs false
section
variable {P : Program} {ops : Array Oper} {rest : List Oper} {o : Oper} {a : Act} {Q : Exit → Act → World → Prop}
/-- an append of one value of several cells onto a row of the call's own -/
theorem append_ownN {w : World} {base : Nat} (hgd : o.guard = none) (s x : Operand) (t e : TypeId) (ho : o.op = .call { callee := .builtin .append, args := #[s, x], argTypes := #[t, t] })
    (z : Value) (size bytes : Nat) (ht : P.underlying t = some (.slice e)) (hinfo : (P.info? e).map (fun i => (i.zero, i.size, i.bytes)) = some (some z, size, bytes)) (hz : z.cells.size = size) (hsz : 0 < size)
    (v : Value) (n : Nat) (xs : List Value) (hs : a.eval s = v) (hbase : base ≤ w.heap.size) (hown : w.ownsRow base e size v n xs) (us : List Value) (T : TypeId) (hus : us.length = size) (hx : a.eval x = .slice (some ⟨w.heap.size, 0, none⟩) 1 1) (hone : ∀ u ∈ us, u.oneCell' = true)
    (h1 : n + 1 ≤ 9223372036854775807) (h2 : (n + 1) * bytes ≤ 140737488355328)
    (h : ∀ v' w', w'.ownsRow base e size v' (n + 1) (xs ++ us) → Chg (fun i => v.ownBlock = some i) w w' → (∀ g, v'.ownBlock = some g → v.ownBlock = some g ∨ w.heap.size ≤ g) → wpList P ops Q rest (a.put o.dst v') w') :
    wpList P ops Q (o :: rest) a (w.alloc (.cells us.toArray T)) := by
  obtain ⟨i0, hi, hz0, hz1, hz2⟩ := info_parts hinfo
  have hb : Blk (w.alloc (.cells us.toArray T)) w.heap.size us.toArray T := bnew w _
  have hnews : ∀ j u', us[j]? = some u' → (w.alloc (.cells us.toArray T)).cell? ((⟨w.heap.size, 0, none⟩ : Addr).add j) = some u' := by
    intro j u' hj
    rw [Hp.add_lit' w.heap.size 0 j, Nat.zero_add, bcell hb j]
    simpa using hj
  obtain ⟨v', w', hr, h4, h5, _⟩ := run_append_own (P := P) (w.alloc (.cells us.toArray T)) base t o.type e i0 z size bytes ht hi hz0 hz1 hz2 hz hsz v n xs (hown.alloc _) ⟨w.heap.size, 0, none⟩ 1 1 us (by omega) hnews hone (by unfold maxLen; omega) h2 (by simp; omega)
  have hw := run_append_where (P := P) (w.alloc (.cells us.toArray T)) base t o.type e i0 z size bytes ht hi hz0 hz1 hz2 hz hsz v n xs (hown.alloc _) ⟨w.heap.size, 0, none⟩ 1 1 us (by omega) hnews hone (by unfold maxLen; omega) h2 v' w' hr
  refine wpList_plain hgd fun _ hK => ?_
  unfold Oper.wp execOp
  simp only [ho, resolve, invoke, builtin, Sem.run_bind, Sem.run_pure, Result.andThen_ok, List.map_toArray, List.map_cons, List.map_nil, hs, hx, hr]
  refine hK _ _ (h v' w' h4 (((Chg.refl _ w).alloc _).trans (Chg.of_grownBy h5 (fun j hj => .inl hj)) (fun _ _ x => x)) (fun g hg => ?_))
  rcases hw g hg with x | x
  · exact .inl x
  · right; simp at x; omega
end
theorem ownN_chg {S : Nat → Prop} {w w' : World} {base n size : Nat} {e : TypeId} {v : Value} {xs : List Value} (h : w.ownsRow base e size v n xs) (hc : Chg S w w') (hn : ∀ g, v.ownBlock = some g → ¬ S g) : w'.ownsRow base e size v n xs := by
  refine ⟨h.1, ?_⟩
  rcases h.2 with h2 | ⟨g, cap, cur, hv, hb, hh, r⟩
  · exact .inl h2
  · exact .inr ⟨g, cap, cur, hv, hb, hc.blk hh (hn g (by rw [hv]; rfl)), r⟩
theorem ownN_lt {w : World} {base n size : Nat} {e : TypeId} {v : Value} {xs : List Value} (h : w.ownsRow base e size v n xs) (g : Nat) (hg : v.ownBlock = some g) : g < w.heap.size := by
  rcases h.2 with ⟨rfl, _⟩ | ⟨g', cap, cur, rfl, hb, hh, _⟩
  · simp [Value.ownBlock] at hg
  · have : g' = g := by simpa [Value.ownBlock] using hg
    subst this
    exact blt hh
theorem ownN_ge {w : World} {base n size : Nat} {e : TypeId} {v : Value} {xs : List Value} (h : w.ownsRow base e size v n xs) (g : Nat) (hg : v.ownBlock = some g) : base ≤ g := by
  rcases h.2 with ⟨rfl, _⟩ | ⟨g', cap, cur, rfl, hb, hh, _⟩
  · simp [Value.ownBlock] at hg
  · have : g' = g := by simpa [Value.ownBlock] using hg
    omega
/-- steps that were read, with where their bytes lie -/
abbrev Row := St × Option Addr × Nat
def Row.cells (r : Row) : List Value := (r.1.cells (.slice r.2.1 r.1.data.length r.2.2)).toList
def flat (rows : List Row) : List Value := rows.flatMap Row.cells
theorem cells_len (r : Row) : (Row.cells r).length = 11 := rfl
theorem flat_get : ∀ (rows : List Row) (i j : Nat) (r : Row) (u : Value), rows[i]? = some r → (Row.cells r)[j]? = some u → (flat rows)[i * 11 + j]? = some u
  | [], i, j, r, u, h, _ => by simp at h
  | x :: rows, 0, j, r, u, h, hu => by
    simp at h
    subst h
    show (Row.cells x ++ flat rows)[0 * 11 + j]? = some u
    rw [Nat.zero_mul, Nat.zero_add, List.getElem?_append_left (List.getElem?_eq_some_iff.1 hu).1]
    exact hu
  | x :: rows, i + 1, j, r, u, h, hu => by
    have ih := flat_get rows i j r u (by simpa using h) hu
    show (Row.cells x ++ flat rows)[(i + 1) * 11 + j]? = some u
    rw [List.getElem?_append_right (by rw [cells_len]; omega), cells_len, show (i + 1) * 11 + j - 11 = i * 11 + j by omega]
    exact ih
def Outs (w : World) (base : Nat) (v : Value) (rows : List Row) : Prop :=
  w.ownsRow base 37 11 v rows.length (flat rows) ∧ ∀ r, r ∈ rows → Rd w .u8 r.2.1 r.1.data ∧ ∀ ad, r.2.1 = some ad → 0 < r.1.data.length → v.ownBlock ≠ some ad.block
theorem Outs.nob {w w' : World} {base : Nat} {v : Value} {rows : List Row} (h : Outs w base v rows) (hc : Chg NoB w w') : Outs w' base v rows :=
  ⟨ownN_chg h.1 hc (fun _ _ x => x), fun r hr => ⟨(h.2 r hr).1.chg hc (fun _ _ _ x => x), (h.2 r hr).2⟩⟩
theorem Outs.sin {w : World} {base : Nat} {v : Value} {rows : List Row} (h : Outs w base v rows) : ∃ A c, v = .slice A rows.length c ∧ SIn w A (rows.map (·.1)) := by
  rcases h.1.2 with ⟨rfl, h0⟩ | ⟨g, cap, cur, hv, hb, hh, r1, r2, r3⟩
  · have : rows = [] := List.eq_nil_of_length_eq_zero h0
    subst this
    exact ⟨none, 0, rfl, fun i s hs => by simp at hs⟩
  · refine ⟨some ⟨g, 0, none⟩, cap, hv, fun i s hs => ⟨_, rfl, ?_⟩⟩
    obtain ⟨r, hr, rfl⟩ : ∃ r, rows[i]? = some r ∧ r.1 = s := by simpa using hs
    refine ⟨r.2.1, r.2.2, fun j u hu => ?_, (h.2 r (List.mem_of_getElem? hr)).1⟩
    have h1 := flat_get rows i j r u hr (by simpa [Row.cells] using hu)
    exact h.1.cells (g := g) (by rw [hv]; rfl) _ _ h1
theorem flat_snoc (rows : List Row) (r : Row) : flat (rows ++ [r]) = flat rows ++ Row.cells r := by simp [flat]
/-- one step more -/
theorem Outs.snoc {w w' : World} {base : Nat} {v v' : Value} {rows : List Row} (h : Outs w base v rows) (r : Row) (hR : Rd w .u8 r.2.1 r.1.data) (hne : ∀ ad, r.2.1 = some ad → 0 < r.1.data.length → v.ownBlock ≠ some ad.block)
    (hown : w'.ownsRow base 37 11 v' (rows.length + 1) (flat rows ++ Row.cells r)) (hc : Chg (fun i => v.ownBlock = some i) w w') (hw : ∀ g, v'.ownBlock = some g → v.ownBlock = some g ∨ w.heap.size ≤ g) : Outs w' base v' (rows ++ [r]) := by
  refine ⟨by rw [flat_snoc, List.length_append]; exact hown, fun q hq => ?_⟩
  have key : Rd w .u8 q.2.1 q.1.data ∧ ∀ ad, q.2.1 = some ad → 0 < q.1.data.length → v.ownBlock ≠ some ad.block := by
    rcases List.mem_append.1 hq with hq | hq
    · exact h.2 q hq
    · rw [List.mem_singleton.1 hq]; exact ⟨hR, hne⟩
  refine ⟨key.1.chg hc (fun hpos ad e x => key.2 ad e hpos x), fun ad e hpos x => ?_⟩
  rcases hw ad.block x with y | y
  · exact key.2 ad e hpos y
  · have := key.1.lt hpos ad e
    omega
def PPost2 (l : List St) (w : World) (e : Ending) (w' : World) : Prop := Chg NoB w w' ∧ ∃ A c, e = .returned (.tuple #[.slice A l.length c, .int .i64 0, .int .i64 0]) ∧ SIn w' A l
def PRel2 (l : List St) (w : World) (t v n : Value) (wr : World) : Prop := ∃ (k : Nat) (rows : List Row), k ≤ l.length ∧ t = .string (ba (textL (l.drop k))) ∧ n = .int .i64 (k + 1) ∧ rows.map (·.1) = l.take k ∧ Chg NoB w wr ∧ Outs wr w.heap.size v rows
theorem line_nonl (s : St) (hs : s.ok) : (10 : UInt8) ∉ lineC s := fun h => by
  rcases List.mem_append.1 h with h | h
  · obtain ⟨n, _, hn⟩ := List.mem_flatMap.1 h
    rcases List.mem_append.1 hn with hn | hn
    · rcases ScP.itoa_mem n 10 hn with ⟨h1, h2⟩ | h1
      · exact absurd h1 (by decide)
      · exact absurd h1 (by decide)
    · exact absurd (List.mem_singleton.1 hn) (by decide)
  · exact hexL_no _ hs 10 (by decide) (by decide) h
theorem text_cons (s : St) (l : List St) : textL (s :: l) = lineC s ++ 10 :: textL l := by
  show lineL s ++ textL l = _
  unfold lineL lineC
  simp
theorem info37 : ∃ z, (Tryd.prog.info? 37).map (fun i => (i.zero, i.size, i.bytes)) = some (some z, 11, 104) ∧ z.cells.size = 11 := ⟨.agg z37, by kernel_rfl, rfl⟩
set_option maxRecDepth 100000 in
set_option maxHeartbeats 4000000 in
theorem parse_any (l : List St) (hok : ∀ s, s ∈ l → s.ok) (hfit : ∀ s, s ∈ l → ∀ n, n ∈ s.nums → fitP n) (hd : ∀ s, s ∈ l → s.data.length ≤ 100000) (hB : (textL l).length ≤ 900000) (hn : l.length ≤ 100000) (w : World) (hG : Glo w) :
    Calls Tryd.prog 9 #[.string (ba (textL l))] w (PPost2 l w) := by
  obtain ⟨zz, hinf, hzz⟩ := info37
  go_enter Tryd.func9, Tryd.ntmps9
  go_wp2_with fail
  go_loopw [0, 5, 6] (fun t v n wr => PRel2 l w t v n wr) (fun t v n wr => match t with | .string t => t.size | _ => 0)
  case atStart => exact ⟨0, [], by omega, rfl, rfl, rfl, Chg.refl _ _, World.ownsRow_nil _ _ _ _, fun r hr => by simp at hr⟩
  case round =>
    obtain ⟨k, rows, hk, rfl, rfl, hrows, hC, hO⟩ := hrel
    have hGr := hG.nob hC
    by_cases hlt : k < l.length
    · have hdr : l.drop k = l[k] :: l.drop (k + 1) := List.drop_eq_getElem_cons hlt
      have htk : l.take (k + 1) = l.take k ++ [l[k]] := List.take_succ_eq_append_getElem hlt
      have hm : l[k] ∈ l := List.getElem_mem hlt
      have hrl : rows.length = k := by have := congrArg List.length hrows; simp at this; omega
      generalize l[k] = s at *
      have hTl : (textL (l.drop k)).length ≤ 900000 := by
        have e : textL l = textL (l.take k) ++ textL (l.drop k) := by unfold textL; rw [← List.flatMap_append, List.take_append_drop]
        have := congrArg List.length e
        rw [List.length_append] at this
        omega
      have hcut := cut_call (textL (l.drop k)) [10] (by omega) wr hGr
      rw [hdr, text_cons, ScP.cut_line 10 _ _ (line_nonl s (hok s hm))] at hcut
      rw [hdr, text_cons] at hTl ⊢
      have hlen : (ba (textL (l.drop (k + 1)))).size < (ba (lineC s ++ 10 :: textL (l.drop (k + 1)))).size := by
        show (textL (l.drop (k + 1))).toArray.size < (lineC s ++ 10 :: textL (l.drop (k + 1))).toArray.size
        simp only [List.size_toArray, List.length_append, List.length_cons]; omega
      obtain ⟨T, hT⟩ : ∃ T, T = ba (lineC s ++ 10 :: textL (l.drop (k + 1))) := ⟨_, rfl⟩
      rw [← hT] at hcut hlen ⊢
      have hemp : T.toList.isEmpty = false := by
        rw [← decide_eq_emptyBytes]
        exact decide_eq_false (fun h => by
          have h2 := congrArg ByteArray.size (hT.symm.trans h)
          have h3 : (lineC s ++ 10 :: textL (l.drop (k + 1))).toArray.size = 0 := h2
          simp at h3)
      have HM := Lib.hid (And.intro hlen htk)
      clear hT hlen htk hdr hTl
      go_wp2_with fail
      refine hcut.mono ?_
      rintro e w1 ⟨rfl, hc1⟩
      clear hcut
      go_wp2_with fail
      refine (step_any s (hok s hm) (hfit s hm) (hd s hm) w1 (hGr.nob hc1)).mono ?_
      rintro e w2 ⟨hc2, A, c, rfl, hRd, hAn⟩
      have hc12 : Chg NoB wr w2 := hc1.trans hc2 (fun _ _ h => h)
      have hO2 := hO.nob hc12
      have hs1 := hc1.size
      have hs12 := hc12.size
      have hsC := hC.size
      have hO3 := hO2.nob ((Chg.refl NoB w2).alloc (.cells (s.cells (.slice A s.data.length c)) 37))
      have hC3 : Chg NoB wr (w2.alloc (.cells (s.cells (.slice A s.data.length c)) 37)) := hc12.alloc _
      have hRd3 : Rd (w2.alloc (.cells (s.cells (.slice A s.data.length c)) 37)) .u8 A s.data := hRd.chg ((Chg.refl NoB w2).alloc _) (fun _ _ _ x => x)
      have hlt5 : ∀ g, u5.ownBlock = some g → g < wr.heap.size := ownN_lt hO.1
      have hge5 : ∀ g, u5.ownBlock = some g → w.heap.size ≤ g := fun g hg => (ownN_ge hO.1 g hg)
      have hown3 := hO3.1
      have hone : ∀ u ∈ ([.int .i64 s.k, .int .i64 s.a, .int .i64 s.b, .int .i64 s.c, .int .i64 s.fr, .int .i64 s.pg, .bool s.wr, .int .i64 s.ak, .int .i64 s.fl, .int .i64 s.off, .slice A s.data.length c] : List Value), u.oneCell' = true := by
        intro u hu
        simp only [List.mem_cons, List.mem_nil_iff, or_false] at hu
        rcases hu with rfl | rfl | rfl | rfl | rfl | rfl | rfl | rfl | rfl | rfl | rfl <;> rfl
      clear hO hO2
      go_wp2_with (first | (at_builtin; go_loud (refine append_ownN (base := w.heap.size) rfl (.tmp 34) (.tmp 36) 22 37 rfl zz 11 104 Tryd.underlying22 hinf hzz (by decide) u5 rows.length (flat rows) (by rfl) (by simp; omega) hown3 [.int .i64 s.k, .int .i64 s.a, .int .i64 s.b, .int .i64 s.c, .int .i64 s.fr, .int .i64 s.pg, .bool s.wr, .int .i64 s.ak, .int .i64 s.fl, .int .i64 s.off, .slice A s.data.length c] _ (by rfl) (by simp [Act.eval, Act.put]) hone (by omega) (by omega) ?_); intro v' w4 hown4 hC4 hw4))
      have hR : PRel2 l w (.string (ba (textL (l.drop (k + 1))))) v' (.int .i64 ((k : Int) + 1 + 1)) w4 := by
        have hO4 := hO3.snoc (s, A, c) hRd3 (fun ad e hpos x => by
          have h1 := hlt5 _ x
          have h2 := hAn ad e
          omega) hown4 hC4 hw4
        exact ⟨k + 1, rows ++ [(s, A, c)], by omega, rfl, by push_cast; rfl, by rw [HM.out.2, List.map_append, hrows]; rfl, (hC.trans hC3 (fun _ _ h => h)).trans hC4 (fun i hi hS => absurd hi (by have := hge5 i hS; omega)), hO4⟩
      have RR := Lib.hid hR
      clear hR hown4 hC4 hw4 hO3 hown3
      exact ⟨RR.out, HM.out.1⟩
    · have hkk : k = l.length := by omega
      subst hkk
      rw [List.drop_length, show textL [] = [] from rfl]
      rw [List.take_length] at hrows
      obtain ⟨A, c, rfl, hS⟩ := hO.sin
      have hrl : rows.length = l.length := by rw [← hrows, List.length_map]
      rw [hrl] at *
      have F : PPost2 l w (.returned (.tuple #[.slice A l.length c, .int .i64 0, .int .i64 0])) wr := ⟨hC, A, c, rfl, by rw [← hrows]; exact hS⟩
      have FF := Lib.hid F
      clear F hO hS
      go_wp2_with fail
      refine bodyPost_ret (results_tmp3 rfl _ _ _) rfl ?_
      exact FF.out
end Go.Proofs.YtmjnbbdlnplmjaaDoor.Scr
