/- The log: records that are wanted; on a calm disk. -/
import Derived.Test.YtfjldlhboaeemaaLogO
namespace Go.Proofs.Ytfjldlhboaeemaa.Log
open Go.RowKit Go.Proofs.Ytfjldlhboaeemaa.Hp Go.Proofs.Ytfjldlhboaeemaa.By Go.Proofs.Ytfjldlhboaeemaa.Disk Go.Proofs.Ytfjldlhboaeemaa.Word Go.Proofs.Ytfjldlhboaeemaa.WordP
set_option linter.unusedVariables false
set_option linter.unusedSimpArgs false
/-- the records that are appended -/
def keepL (ps : List (List Int)) : List (List Int) := ps.filter (fun p => decide (p.length ≤ 50))
theorem keep_take (ps : List (List Int)) (m : Nat) (h : m < ps.length) : keepL (ps.take (m + 1)) = if (ps.getD m []).length ≤ 50 then keepL (ps.take m) ++ [ps.getD m []] else keepL (ps.take m) := by
  have e : ps.take (m + 1) = ps.take m ++ [ps.getD m []] := by rw [List.take_add_one, List.getD_eq_getElem?_getD, List.getElem?_eq_getElem h]; rfl
  unfold keepL
  rw [e, List.filter_append]
  by_cases c : (ps.getD m []).length ≤ 50
  · rw [if_pos c, List.filter_cons_of_pos (by simpa using c)]; rfl
  · rw [if_neg c, List.filter_cons_of_neg (by simpa using c)]; simp
theorem keep_len (ps : List (List Int)) (m : Nat) : (keepL (ps.take m)).length ≤ m := by
  unfold keepL
  have h1 := List.length_filter_le (fun p : List Int => decide (p.length ≤ 50)) (ps.take m)
  rw [List.length_take] at h1
  omega
theorem keep_short (ps : List (List Int)) (p : List Int) (h : p ∈ keepL ps) : p.length ≤ 50 := by
  have := (List.mem_filter.mp h).2; simpa using this
theorem keep_mem (ps : List (List Int)) (p : List Int) (h : p ∈ keepL ps) : p ∈ ps := (List.mem_filter.mp h).1
/-- what the sectors say behind them -/
def wantf (gen : Int) (ws : List (List Int)) (j : Nat) : List Int := if j < ws.length then secL gen j (ws.getD j []) else List.replicate 64 0
theorem getD_snoc {α : Type} (ws : List α) (p z : α) (j : Nat) : (ws ++ [p]).getD j z = if j = ws.length then p else ws.getD j z := by
  rw [List.getD_eq_getElem?_getD, List.getD_eq_getElem?_getD]
  by_cases c : j < ws.length
  · rw [List.getElem?_append_left c, if_neg (by omega)]
  · by_cases c2 : j = ws.length
    · subst c2
      rw [List.getElem?_append_right (by omega), if_pos rfl]; simp
    · rw [List.getElem?_append_right (by omega), if_neg c2, List.getElem?_eq_none (by simp; omega), List.getElem?_eq_none (by omega)]
theorem wantf_snoc (gen : Int) (ws : List (List Int)) (p : List Int) : wantf gen (ws ++ [p]) = fun j => if j = ws.length then secL gen ws.length p else wantf gen ws j := by
  funext j
  unfold wantf
  rw [List.length_append, List.length_singleton, getD_snoc]
  by_cases c : j = ws.length
  · subst c; rw [if_pos (by omega), if_pos rfl, if_pos rfl]
  · rw [if_neg c, if_neg c]
    by_cases c2 : j < ws.length
    · rw [if_pos c2, if_pos (by omega)]
    · rw [if_neg c2, if_neg (by omega)]
theorem wantf_some (gen : Int) (ws : List (List Int)) (h : ∀ p ∈ ws, p.length ≤ 50) (j : Nat) (hj : j < ws.length) : recOf (wantf gen ws j) gen j = some (ws.getD j []) := by
  unfold wantf
  rw [if_pos hj]
  exact rec_sec gen j _ (h _ (by rw [List.getD_eq_getElem?_getD, List.getElem?_eq_getElem hj]; exact List.getElem_mem _))
theorem sum_zero : recOf (List.replicate 64 (0 : Int)) 0 0 = none := by decide +kernel
theorem num_zero {gen n : Int} (h : 0 < n ∧ n < 4294967296) : recOf (List.replicate 64 0) gen n = none := by
  cases e : recOf (List.replicate 64 0) gen n with
  | none => rfl
  | some b =>
    obtain ⟨h1, h2⟩ := rec_some e
    have a := sec_num gen n b h2
    rw [h1] at a
    have z : ((List.replicate 64 (0 : Int)).drop 4).take 4 = digs 0 4 := by decide
    rw [z] at a
    have := digs_inj (by omega) (by omega) a
    omega
theorem none_zero {gen : Int} (g : 0 ≤ gen ∧ gen < 4294967296) (n : Nat) (hn : n < 4294967296) : recOf (List.replicate 64 0) gen n = none := by
  by_cases c : 0 < gen
  · exact rec_zero ⟨c, g.2⟩
  · obtain rfl : gen = 0 := by omega
    by_cases c2 : n = 0
    · subst c2; exact sum_zero
    · exact num_zero (by omega)
theorem wantf_none (gen : Int) (g : 0 ≤ gen ∧ gen < 4294967296) (ws : List (List Int)) (j : Nat) (hj : ¬ j < ws.length) (hn : j < 4294967296) : recOf (wantf gen ws j) gen j = none := by
  unfold wantf
  rw [if_neg hj]
  exact none_zero g j hn
theorem wantf_other (gen gen' : Int) (g : 0 ≤ gen ∧ gen < 4294967296) (g' : 0 ≤ gen' ∧ gen' < 4294967296) (hne : gen ≠ gen') (ws : List (List Int)) (h : ∀ p ∈ ws, p.length ≤ 50) : recOf (wantf gen ws 0) gen' (0 : Nat) = none := by
  unfold wantf
  by_cases c : 0 < ws.length
  · rw [if_pos c]
    exact rec_other (h _ (by rw [List.getD_eq_getElem?_getD, List.getElem?_eq_getElem c]; exact List.getElem_mem _)) g g' hne
  · rw [if_neg c]; exact none_zero g' 0 (by omega)
theorem recs_want (s : DSt) (gen : Int) (ws : List (List Int)) (h : ∀ p ∈ ws, p.length ≤ 50) (hs : ∀ j : Nat, s.get (j : Int) = wantf gen ws j) : recs s gen ws.length = ws := by
  have hl : (recs s gen ws.length).length = ws.length := recs_len _ _ _
  apply List.ext_getElem?
  intro j
  by_cases c : j < ws.length
  · rw [recs_recsF]
    unfold recsF
    rw [List.getElem?_map, List.getElem?_range c]
    simp only [Option.map_some]
    rw [hs, wantf_some gen ws h j c, List.getD_eq_getElem?_getD, List.getElem?_eq_getElem c]; rfl
  · rw [List.getElem?_eq_none (by omega), List.getElem?_eq_none (by omega)]
theorem loose_sure (s : DSt) : (s.sureAll).looseL = [] := by
  unfold DSt.looseL DSt.sureAll
  simp
theorem app_loose {s : DSt} (h : Disk.Calm s) {n : Int} (h0 : 0 ≤ n) (h1 : n < s.n) {l : List Int} (hl : l.length = 64) : (appS s n l).looseL = [] := by
  rw [(app_calm h h0 h1 hl).2]; exact loose_sure _
/-- a slice of the call's own, of slices of bytes that came in -/
def WRows (w0 wr : World) (v : Value) (ws : List (List Int)) : Prop :=
  ∃ SVs, wr.ownsRow w0.heap.size 29 1 v ws.length SVs ∧ ∀ j, j < ws.length → ∃ B c, SVs[j]? = some (.slice B (ws.getD j []).length c) ∧ Rd w0 .u8 B (ws.getD j [])
theorem WRows.nil (w0 w : World) : WRows w0 w (.slice none 0 0) [] := ⟨[], World.ownsRow_nil _ _ _ _, fun j hj => by cases hj⟩
theorem WRows.chg {S : Nat → Prop} {w0 w w' : World} {v : Value} {ws : List (List Int)} (h : WRows w0 w v ws) (hc : Chg S w w') (hS : ∀ g, v.ownBlock = some g → ¬ S g) : WRows w0 w' v ws := by
  obtain ⟨SVs, h1, h2⟩ := h
  exact ⟨SVs, own_chg h1 hc hS, h2⟩
theorem WRows.rows {w0 w : World} {v : Value} {ws : List (List Int)} (h : WRows w0 w v ws) (hc : Chg NoB w0 w) : ∃ A c, v = .slice A ws.length c ∧ Rows w A ws := by
  obtain ⟨SVs, hown, h2⟩ := h
  obtain ⟨A, c, hv, hcl⟩ := own_cells hown
  refine ⟨A, c, hv, fun j hj => ?_⟩
  obtain ⟨B, cB, e1, e2⟩ := h2 j hj
  obtain ⟨ad, e, hcell⟩ := hcl j _ e1
  exact ⟨ad, B, cB, e, hcell, e2.chg hc (fun _ _ _ x => x)⟩
theorem WRows.snoc {w0 w' : World} {v' : Value} {ws : List (List Int)} {SVs : List Value} {B : Option Addr} {c : Nat} {p : List Int}
    (hlen : SVs.length = ws.length) (h2 : ∀ j, j < ws.length → ∃ B c, SVs[j]? = some (.slice B (ws.getD j []).length c) ∧ Rd w0 .u8 B (ws.getD j [])) (hp : Rd w0 .u8 B p) (h' : w'.ownsRow w0.heap.size 29 1 v' (ws.length + 1) (SVs ++ [.slice B p.length c])) : WRows w0 w' v' (ws ++ [p]) := by
  refine ⟨_, by rw [List.length_append, List.length_singleton]; exact h', fun j hj => ?_⟩
  rw [List.length_append, List.length_singleton] at hj
  rw [getD_snoc]
  by_cases c1 : j = ws.length
  · subst c1
    rw [if_pos rfl]
    exact ⟨B, c, by rw [List.getElem?_append_right (by omega), hlen]; simp, hp⟩
  · rw [if_neg c1]
    obtain ⟨B', c', e1, e2⟩ := h2 j (by omega)
    exact ⟨B', c', by rw [List.getElem?_append_left (by omega)]; exact e1, e2⟩
section
variable {P : Program} {ops : Array Oper} {rest : List Oper} {o : Oper} {a : Act} {Q : Exit → Act → World → Prop}
/-- where the row lies behind an append: where it lay, or new -/
theorem run_append_where (w : World) (base : Nat) (t ty e : TypeId) (i : TypeInfo) (z : Value) (size bytes : Nat) (ht : P.underlying t = some (.slice e)) (hi : P.info? e = some i) (hz : i.zero = some z)
    (hsize : i.size = size) (hby : i.bytes = bytes) (hzs : z.cells.size = size) (hsz : 0 < size) (v : Value) (n : Nat) (xs : List Value) (hown : w.ownsRow base e size v n xs)
    (ad : Addr) (m c : Nat) (news : List Value) (hl : news.length = m * size) (hnews : ∀ j u, news[j]? = some u → w.cell? (ad.add j) = some u) (h1 : ∀ u ∈ news, u.oneCell' = true)
    (h63 : n + m ≤ maxLen) (hbytes : (n + m) * bytes ≤ 140737488355328) :
    ∀ v' w', (Builtin.append_ #[t, t] ty #[v, .slice (some ad) m c]).run P w = .ok v' w' → ∀ g, v'.ownBlock = some g → v.ownBlock = some g ∨ w.heap.size ≤ g := by
  subst hsize
  subst hby
  have hsmall : n + m ≤ 9223372036854775807 := by simp only [maxLen] at h63; omega
  intro v' w' hrun g hg
  rcases hown.2 with ⟨rfl, rfl⟩ | ⟨g0, cap, cur, rfl, hbg, hcur, hnc, hcm, hcs, htake⟩
  · by_cases hm : m = 0
    · subst hm
      have hn : news = [] := List.eq_nil_of_length_eq_zero (by simpa using hl)
      subst hn
      have e0 : (Builtin.append_ #[t, t] ty #[.slice none 0 0, .slice (some ad) 0 c]).run P w = .ok (.slice none 0 0) w := by
        simp [Builtin.append_, run_underlying ht, sizeOf, typeInfo, hi, Builtin.lenOf, Builtin.firstCells, loadCells, loadCellsFrom]
      rw [e0] at hrun
      injection hrun with a1 a2
      subst a1
      simp [Value.ownBlock] at hg
    · have hr := run_append_nil (P := P) w t ty e i z ht hi hz ad m c news hl hnews (by omega) (by omega) (by have hb := hbytes; simp only [Nat.zero_add] at hb; omega)
      rw [hr] at hrun
      injection hrun with a1 a2
      subst a1
      simp [Value.ownBlock] at hg
      right; omega
  · by_cases hroom : n + m ≤ cap
    · have hfit : n * i.size + news.length ≤ cur.size := by rw [hl, hcs, ← Nat.add_mul]; exact Nat.mul_le_mul_right _ hroom
      have hr := run_append_room (P := P) w t ty e i ht hi g0 n cap cur hcur ad m c news hl hnews h1 hroom hfit
      rw [hr] at hrun
      injection hrun with a1 a2
      subst a1
      simp [Value.ownBlock] at hg
      left; simp [Value.ownBlock]; omega
    · have holds : ∀ j u, xs[j]? = some u → w.cell? ((⟨g0, 0, none⟩ : Addr).add j) = some u := hown.cells (g := g0) rfl
      have hr := run_append_grow (P := P) w t ty e i z ht hi hz ⟨g0, 0, none⟩ n cap xs hown.1 holds ad m c news hl hnews (by omega) (by omega) (growslice_fits (by omega) hbytes)
      rw [hr] at hrun
      injection hrun with a1 a2
      subst a1
      simp [Value.ownBlock] at hg
      right; omega
/-- an append onto a row of the call's own: where the row lies then is told too -/
theorem append_own3 {w : World} {base : Nat} (hgd : o.guard = none) (s x : Operand) (t e : TypeId) (ho : o.op = .call { callee := .builtin .append, args := #[s, x], argTypes := #[t, t] })
    (z : Value) (bytes : Nat) (ht : P.underlying t = some (.slice e)) (hinfo : (P.info? e).map (fun i => (i.zero, i.size, i.bytes)) = some (some z, 1, bytes)) (hz : z.cells.size = 1)
    (v : Value) (n : Nat) (xs : List Value) (hs : a.eval s = v) (hbase : base ≤ w.heap.size) (hown : w.ownsRow base e 1 v n xs) (u : Value) (T : TypeId) (hx : a.eval x = .slice (some ⟨w.heap.size, 0, none⟩) 1 1) (hu : u.oneCell' = true)
    (h1 : n + 1 ≤ 9223372036854775807) (h2 : (n + 1) * bytes ≤ 140737488355328)
    (h : ∀ v' w', w'.ownsRow base e 1 v' (n + 1) (xs ++ [u]) → Chg (fun i => v.ownBlock = some i) w w' → (∀ g, v'.ownBlock = some g → v.ownBlock = some g ∨ w.heap.size ≤ g) → wpList P ops Q rest (a.put o.dst v') w') :
    wpList P ops Q (o :: rest) a (w.alloc (.cells #[u] T)) := by
  obtain ⟨i0, hi, hz0, hz1, hz2⟩ := info_parts hinfo
  have hb : Blk (w.alloc (.cells #[u] T)) w.heap.size #[u] T := bnew w _
  have hnews : ∀ j u', ([u] : List Value)[j]? = some u' → (w.alloc (.cells #[u] T)).cell? ((⟨w.heap.size, 0, none⟩ : Addr).add j) = some u' := by
    intro j u' hj
    have : j = 0 := by
      have := (List.getElem?_eq_some_iff.1 hj).1
      simp at this; omega
    subst this
    have e : (⟨w.heap.size, 0, none⟩ : Addr).add 0 = ⟨w.heap.size, 0, none⟩ := rfl
    rw [e, bcell hb 0]
    simpa using hj
  have hone : ∀ u' ∈ ([u] : List Value), u'.oneCell' = true := by
    intro u' hu'
    have : u' = u := by simpa using hu'
    subst this; exact hu
  obtain ⟨v', w', hr, h4, h5, _⟩ := run_append_own (P := P) (w.alloc (.cells #[u] T)) base t o.type e i0 z 1 bytes ht hi hz0 hz1 hz2 hz (by decide) v n xs (hown.alloc _) ⟨w.heap.size, 0, none⟩ 1 1 [u] rfl hnews hone (by unfold maxLen; omega) h2 (by simp; omega)
  have hw := run_append_where (P := P) (w.alloc (.cells #[u] T)) base t o.type e i0 z 1 bytes ht hi hz0 hz1 hz2 hz (by decide) v n xs (hown.alloc _) ⟨w.heap.size, 0, none⟩ 1 1 [u] rfl hnews hone (by unfold maxLen; omega) h2 v' w' hr
  refine wpList_plain hgd fun _ hK => ?_
  unfold Oper.wp execOp
  simp only [ho, resolve, invoke, builtin, Sem.run_bind, Sem.run_pure, Result.andThen_ok, List.map_toArray, List.map_cons, List.map_nil, hs, hx, hr]
  refine hK _ _ (h v' w' h4 (((Chg.refl _ w).alloc _).trans (Chg.of_grownBy h5 (fun j hj => .inl hj)) (fun _ _ x => x)) (fun g hg => ?_))
  rcases hw g hg with x | x
  · exact .inl x
  · right; simp at x; omega
end
theorem own_nil {w : World} {base : Nat} {e : TypeId} {v : Value} {xs : List Value} (h : w.ownsRow base e 1 v 0 xs) : ∃ A c, v = .slice A 0 c := by
  rcases h.2 with ⟨rfl, h0⟩ | ⟨g, cap, cur, rfl, _⟩
  · exact ⟨none, 0, rfl⟩
  · exact ⟨_, _, rfl⟩
end Go.Proofs.Ytfjldlhboaeemaa.Log
