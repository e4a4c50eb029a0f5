/- copy, at elements of more than one cell, over any program. No condition. The document's disk: a directory is written: with, without, twin: the plain laws. No condition. The document's disk: a directory is written: with, without, twin: the walks. No condition. The document's disk: without, twin. No condition. The document's disk: how it lies in memory; its numbers. No condition. The document's disk: a name's file; how full it is. No condition. The document's disk: Sync. No condition. The document's disk: the directory and the changes are written. No condition. The document's disk: Delete. No condition. -/
import Derived.Test.YtlkgkckejfkblaaGa
import Derived.Laws.CopyRow
import Derived.Laws.IdiomCopy
import Derived.Test.YtlkgkckejfkblaaGe
namespace Go.Dx
open Go.RowKit
variable {P : Program}

theorem copy_row (w : World) (dT sT ty elem : TypeId) (g o dLen dCap : Nat) (a : Addr) (sLen sCap : Nat) (cur : Array Value) (t : TypeId) (cs : List Value) (sz n : Nat)
    (hu : P.underlying dT = some (.slice elem)) (hs : (P.info? elem).map (·.size) = some sz)
    (hg : w.heap[g]? = some (.cells cur t (0, 0))) (hn : n = Nat.min sLen dLen) (hc : cs.length = n * sz)
    (hsrc : ∀ j v, cs[j]? = some v → w.cell? (a.add j) = some v) (hfit : o + cs.length ≤ cur.size) (h1 : ∀ v ∈ cs, v.oneCell' = true) :
    (Builtin.copy_ #[dT, sT] ty #[.slice (some ⟨g, o, none⟩) dLen dCap, .slice (some a) sLen sCap]).run P w =
      .ok (goInt n) (w.setRow g (cur.toList.take o ++ cs ++ cur.toList.drop (o + cs.length)).toArray) := by
  have hl := run_loadCells_list (P := P) w a cs hsrc
  have hst := run_storeCells_at (P := P) g o t cs 0 cur w hg (by simpa using hfit) h1
  cases hq : P.info? elem with
  | none => simp [hq] at hs
  | some i =>
    have hi : i.size = sz := by simpa [hq] using hs
    rw [hc] at hl
    simp [Builtin.copy_, run_underlying hu, Builtin.lenOf, Builtin.firstCells, sizeOf, typeInfo, hq, hi, ← hn, hl, hst]
/-- Nothing goes over: whatever the addresses. -/
theorem copy_none (w : World) (dT sT ty elem : TypeId) (d a : Option Addr) (dLen dCap sLen sCap : Nat) (sz : Nat) (hu : P.underlying dT = some (.slice elem)) (hs : (P.info? elem).map (·.size) = some sz) (hn : Nat.min sLen dLen = 0) :
    (Builtin.copy_ #[dT, sT] ty #[.slice d dLen dCap, .slice a sLen sCap]).run P w = .ok (goInt 0) w := by
  cases hq : P.info? elem with
  | none => simp [hq] at hs
  | some i =>
    have hl : ∀ (x : Addr), (loadCells x 0).run P w = .ok #[] w := fun x => by simpa using run_loadCells_list (P := P) w x [] (by simp)
    cases d <;> cases a <;> simp [Builtin.copy_, run_underlying hu, Builtin.lenOf, Builtin.firstCells, sizeOf, typeInfo, hq, hn, storeCells, hl]

/-- copy, in a region or not. -/
theorem wp_copy_row {w : World} {o : Oper} {a : Act} {K : Act → World → Prop} {Q : Exit → Act → World → Prop} (x y : Operand) (dT sT : TypeId) (ho : o.op = .call { callee := .builtin .copy, args := #[x, y], argTypes := #[dT, sT] })
    {vd vs : Value} (hx : a.eval x = vd) (hy : a.eval y = vs) {v : Value} {w' : World} (hr : ∀ ty, (Builtin.copy_ #[dT, sT] ty #[vd, vs]).run P w = .ok v w') (hK : K (a.put o.dst v) w') : o.wp P a w K Q := by
  unfold Oper.wp execOp
  simp only [ho, resolve, invoke, builtin, Sem.run_bind, Sem.run_pure, Result.andThen_ok, List.map_toArray, List.map_cons, List.map_nil, hx, hy, hr]
  exact hK

end Go.Dx

namespace Go.Dx
open Go.RowKit Go.Proofs

theorem pos_lt {d : Dir Nat} (h : Sd d) {n : Nm} (hg : (get d n).isSome = true) : pos d n < d.length := by
  obtain ⟨j, hj⟩ := Option.isSome_iff_exists.1 hg
  exact (List.getElem?_eq_some_iff.1 (h.get_pos hj)).1
/-- A name that is there: its place is written. -/
theorem ins_set {d : Dir Nat} (h : Sd d) {n : Nm} (i : Nat) (hg : (get d n).isSome = true) : ins d n i = d.set (pos d n) (n, i) := by
  have hlt := pos_lt h hg
  unfold ins
  have hh := h.high_drop n
  rw [hg] at hh
  simp only [if_true] at hh
  rw [h.low_take n, hh, List.set_eq_take_append_cons_drop, if_pos hlt]
/-- A name that is not: all from its place on moves up. -/
theorem ins_new {d : Dir Nat} (h : Sd d) {n : Nm} (i : Nat) (hg : (get d n).isSome = false) : ins d n i = d.take (pos d n) ++ (n, i) :: d.drop (pos d n) := by
  unfold ins
  have hh := h.high_drop n
  rw [hg] at hh
  simp only [Bool.false_eq_true, if_false, Nat.add_zero] at hh
  rw [h.low_take n, hh]
theorem rem_cut {d : Dir Nat} (h : Sd d) {n : Nm} (hg : (get d n).isSome = true) : rem d n = d.take (pos d n) ++ d.drop (pos d n + 1) := by
  have hh := h.high_drop n
  rw [hg] at hh
  simp only [if_true] at hh
  rw [h.rem_eq n, h.low_take n, hh]

theorem two_of {l : List Value} (h : l.length = 2) : ∃ a b, l = [a, b] := by
  match l, h with
  | [a, b], _ => exact ⟨a, b, rfl⟩
theorem eVs_take (d : Dir Nat) (i : Nat) (h : i ≤ d.length) : (eVs d).take (i * 2) = eVs (d.take i) := by
  have e : eVs d = eVs (d.take i) ++ eVs (d.drop i) := by rw [← eVs_app, List.take_append_drop]
  have hl : (eVs (d.take i)).length = i * 2 := by rw [eVs_len, List.length_take]; omega
  rw [e, ← hl, List.take_left]
theorem eVs_drop (d : Dir Nat) (i : Nat) (h : i ≤ d.length) : (eVs d).drop (i * 2) = eVs (d.drop i) := by
  have e : eVs d = eVs (d.take i) ++ eVs (d.drop i) := by rw [← eVs_app, List.take_append_drop]
  have hl : (eVs (d.take i)).length = i * 2 := by rw [eVs_len, List.length_take]; omega
  rw [e, ← hl, List.drop_left]
theorem eVs_set (d : Dir Nat) (i : Nat) (x : Nm × Nat) (h : i < d.length) (hx : ∀ y, d[i]? = some y → y.1 = x.1) : (eVs d).set (i * 2 + 1) (.int .i64 x.2) = eVs (d.set i x) := by
  induction d generalizing i with
  | nil => simp at h
  | cons y d ih =>
    cases i with
    | zero =>
      have := hx y rfl
      unfold eVs
      simp [eV, this]
    | succ i =>
      have := ih i (by simpa using h) (fun z hz => hx z (by simpa using hz))
      unfold eVs at *
      rw [List.set_cons_succ, List.flatMap_cons, List.flatMap_cons, ← this]
      have e : (i + 1) * 2 + 1 = (i * 2 + 1) + 2 := by omega
      rw [e]
      simp [eV]

theorem cells_up {X : List Value} {d : Dir Nat} {i : Nat} {z : List Value} (hi : i ≤ d.length) (_ : z.length = 2) (hX : X.take ((d.length + 1) * 2) = eVs d ++ z) (hXl : (d.length + 1) * 2 ≤ X.length) (x : Nm × Nat) :
    (((X.take ((i + 1) * 2) ++ eVs (d.drop i) ++ X.drop ((i + 1) * 2 + (eVs (d.drop i)).length)).set (i * 2) (.string x.1)).set (i * 2 + 1) (.int .i64 x.2)).take ((d.length + 1) * 2) = eVs (d.take i ++ x :: d.drop i) := by
  have hP : X.take (i * 2) = eVs (d.take i) := by
    have h1 : X.take (i * 2) = (X.take ((d.length + 1) * 2)).take (i * 2) := by rw [List.take_take, Nat.min_eq_left (by omega)]
    rw [h1, hX, List.take_append_of_le_length (by rw [eVs_len]; omega), eVs_take d i hi]
  have hPl : (eVs (d.take i)).length = i * 2 := by rw [eVs_len, List.length_take]; omega
  have hEl : (eVs (d.drop i)).length = (d.length - i) * 2 := by rw [eVs_len, List.length_drop]
  have hT : ∃ q0 q1, X.take ((i + 1) * 2) = eVs (d.take i) ++ [q0, q1] := by
    have h1 : X.take ((i + 1) * 2) = X.take (i * 2) ++ (X.take ((i + 1) * 2)).drop (i * 2) := by
      have := (List.take_append_drop (i * 2) (X.take ((i + 1) * 2))).symm
      rw [List.take_take, Nat.min_eq_left (by omega)] at this
      exact this
    obtain ⟨a, b, h2⟩ := two_of (l := (X.take ((i + 1) * 2)).drop (i * 2)) (by rw [List.length_drop, List.length_take]; omega)
    rw [hP, h2] at h1
    exact ⟨a, b, h1⟩
  obtain ⟨q0, q1, hT⟩ := hT
  rw [hT]
  have e1 : eVs (d.take i ++ x :: d.drop i) = eVs (d.take i) ++ [.string x.1, .int .i64 x.2] ++ eVs (d.drop i) := by
    rw [eVs_app]
    simp [eVs, eV]
  rw [e1]
  generalize X.drop _ = R
  generalize eVs (d.take i) = P at *
  generalize eVs (d.drop i) = E at *
  have e2 : (P ++ [q0, q1] ++ E ++ R) = P ++ (q0 :: q1 :: (E ++ R)) := by simp
  rw [e2, List.set_append_right _ _ (by omega), hPl, Nat.sub_self, List.set_cons_zero, List.set_append_right _ _ (by omega), hPl, show i * 2 + 1 - i * 2 = 1 by omega, List.set_cons_succ, List.set_cons_zero]
  have e3 : P ++ (Value.string x.1 :: Value.int .i64 x.2 :: (E ++ R)) = (P ++ [.string x.1, .int .i64 x.2] ++ E) ++ R := by simp
  rw [e3, List.take_append_of_le_length (by simp [hPl, hEl]; omega), List.take_of_length_le (by simp [hPl, hEl]; omega)]

theorem cells_down {X : List Value} {d : Dir Nat} {i : Nat} (hi : i < d.length) (hX : X.take (d.length * 2) = eVs d) (_ : d.length * 2 ≤ X.length) :
    (X.take (i * 2) ++ eVs (d.drop (i + 1)) ++ X.drop (i * 2 + (eVs (d.drop (i + 1))).length)).take ((d.length - 1) * 2) = eVs (d.take i ++ d.drop (i + 1)) := by
  have hP : X.take (i * 2) = eVs (d.take i) := by
    have h1 : X.take (i * 2) = (X.take (d.length * 2)).take (i * 2) := by rw [List.take_take, Nat.min_eq_left (by omega)]
    rw [h1, hX, eVs_take d i (by omega)]
  have hPl : (eVs (d.take i)).length = i * 2 := by rw [eVs_len, List.length_take]; omega
  have hEl : (eVs (d.drop (i + 1))).length = (d.length - (i + 1)) * 2 := by rw [eVs_len, List.length_drop]
  rw [hP, eVs_app]
  generalize X.drop _ = R
  generalize eVs (d.take i) = P at *
  generalize eVs (d.drop (i + 1)) = E at *
  rw [List.take_append_of_le_length (by simp [hPl, hEl]; omega), List.take_of_length_le (by simp [hPl, hEl]; omega)]

end Go.Dx

namespace Go.Dx
open Go.RowKit Go.Proofs

/-- What a directory's slice has become. -/
def DirR (w : World) (A : Option Addr) (d : Dir Nat) (e : Ending) (w' : World) : Prop :=
  ∃ A' c', e = .returned (.slice A' d.length c') ∧ Own w' 88 2 A' d.length c' (eVs d) ∧ Keep (fun k => bk A = some k) w w' ∧ ∀ k, bk A' = some k → bk A = some k ∨ New w w' k

theorem sliced_from (g l len cap : Nat) : sliced (some ⟨g, 0, none⟩) l len cap 2 = .slice (some ⟨g, if cap = l then 0 else l * 2, none⟩) (len - l) (cap - l) := by
  unfold sliced
  by_cases h : cap = l
  · rw [if_pos h, if_pos h]
  · rw [if_neg h, if_neg h]
    simp [Addr.add]
    omega
theorem run_from (w : World) (g len cap l : Nat) (h : l ≤ len) : (Instr.slice 82 (.slice (some ⟨g, 0, none⟩) len cap) (some (.int .i64 l)) none none).run Try.prog w = .ok (.slice (some ⟨g, if cap = l then 0 else l * 2, none⟩) (len - l) (cap - l)) w := by
  have he : Try.prog.elem 82 = 88 := by kernel_rfl
  have hs : ∀ W, (sizeOf 88).run Try.prog W = .ok 2 W := fun W => by kernel_rfl
  rw [run_slice_l w 82 (some ⟨g, 0, none⟩) len cap (by rw [he]; exact Try.underlying82) .i64 l (by omega) (by omega), he, hs]
  simp only [Result.andThen]
  rw [Int.toNat_natCast, sliced_from]
theorem eVs_one (d : Dir Nat) : ∀ u ∈ eVs d, u.oneCell' = true := by
  intro u hu
  unfold eVs at hu
  obtain ⟨x, _, hx⟩ := List.mem_flatMap.1 hu
  simp [eV] at hx
  rcases hx with rfl | rfl <;> rfl

set_option maxRecDepth 100000 in
set_option maxHeartbeats 4000000 in
theorem with_any {w : World} {A : Option Addr} {c : Nat} {d : Dir Nat} (hO : Own w 88 2 A d.length c (eVs d)) (hs : Sd d) (hl : d.length ≤ 16777216) (n : Nm) (i : Nat) :
    Calls Try.prog 64 #[.slice A d.length c, .string n, .int .i64 i] w (DirR w A (ins d n i)) := by
  have hf := find_any hO.rd hs (by omega) c n
  have HO := Lib.hid hO
  have Hs := Lib.hid hs
  have Hf := Lib.hid hf
  clear hO hs hf
  cases hg : (get d n).isSome with
  | true =>
    have hp := pos_lt Hs.out hg
    have hset := ins_set Hs.out i hg
    rw [hg] at Hf
    obtain ⟨x, hx⟩ : ∃ x, d[pos d n]? = some x := ⟨_, List.getElem?_eq_getElem hp⟩
    have hxn : x.1 = n := by
      have := get_pos_some Hs.out hx
      rw [hg] at this
      simpa using this.symm
    have hfin : Hid (∀ w', Own w' 88 2 A d.length c ((eVs d).set (pos d n * 2 + 1) (.int .i64 i)) → Own w' 88 2 A (ins d n i).length c (eVs (ins d n i))) := by
      intro w' h
      rw [eVs_set d (pos d n) (n, i) hp (fun y hy => by rw [hx] at hy; cases hy; exact hxn), ← hset] at h
      rw [show (ins d n i).length = d.length by rw [hset, List.length_set]]
      exact h
    have hlen : Hid ((ins d n i).length = d.length) := by unfold Hid; rw [hset, List.length_set]
    generalize pos d n = p at *
    have hp' : (p : Int) < d.length := by omega
    rcases HO.out.2 with ⟨_, h0, _⟩ | ⟨g, cur, rfl, hgb, h1, h2, h3, ht⟩
    · omega
    have c1 : w.cell? ⟨g, p * 2 + 1, none⟩ = some (.int .i64 x.2) := by
      rw [cell_blk hgb]
      have := eVs_get d p x hx 1 (by omega)
      rw [← ht, List.getElem?_take, if_pos (by omega)] at this
      simpa [eV] using this
    have z1 : w.frozen? ⟨g, p * 2 + 1, none⟩ = false := froz_blk hgb _
    have Hgb := Lib.hid hgb
    have Ht := Lib.hid ht
    clear hset hx hgb ht
    go_enter Try.func64, Try.ntmps64
    go_wp2_with fail
    refine Hf.out.mono ?_
    rintro e w1 ⟨rfl, m, rfl⟩
    go_wp2_with fail
    go_ret
    refine ⟨some ⟨g, 0, none⟩, c, by rw [hlen.out]; rfl, hfin.out _ ⟨by rw [List.length_set, eVs_len], .inr ⟨g, _, rfl, set_blk (w := w.drewN m) Hgb.out (p * 2 + 1) (.int .i64 i), h1, h2, by simpa using h3, ?_⟩⟩, ((Keep.refl (fun k => bk (some (⟨g, 0, none⟩ : Addr)) = some k) w).drewN m).setAt rfl _ _, fun k hk => .inl hk⟩
    rw [Array.toList_setIfInBounds, List.take_set, Ht.out]
  | false =>
    have hp : pos d n ≤ d.length := pos_le d n
    have hnew := ins_new Hs.out i hg
    rw [hg] at Hf
    have hlen : Hid ((ins d n i).length = d.length + 1) := by
      unfold Hid; rw [hnew]
      simp; omega
    have Hnew := Lib.hid hnew
    generalize pos d n = p at *
    clear hnew
    go_enter Try.func64, Try.ntmps64
    go_wp2_with fail
    refine Hf.out.mono ?_
    rintro e w1 ⟨rfl, m, rfl⟩
    have hO1 := HO.out.keep ((Keep.refl No w).drewN m) fun _ _ h => h
    have hk1 := (Keep.refl No w).drewN m
    have HO1 := Lib.hid hO1
    have Hk1 := Lib.hid hk1
    clear hO1 hk1
    generalize w.drewN m = w1 at *
    go_wp2_with (
      have hO2 := HO1.out.keep ((Keep.refl No w1).alloc (.cells #[.string ByteArray.empty, .int .i64 0] 88)) fun _ _ h => h
      have hR2 : Rd (w1.alloc (.cells #[.string ByteArray.empty, .int .i64 0] 88)) (fun k => k = w1.heap.size) (some ⟨w1.heap.size, 0, none⟩) [.string ByteArray.empty, .int .i64 0] := fun _ => ⟨w1.heap.size, 0, rfl, rfl, Run.of_blk (alloc_new w1 _)⟩
      refine wpList_app (by rfl) (.tmp 22) (.tmp 24) 82 82 rfl hO2 Try.underlying82 info88 rfl (by omega) rfl rfl (src_rd (news := [.string ByteArray.empty, .int .i64 0]) (m := 1) Try.underlying82 hR2 rfl (by omega) (by intro u hu; simp at hu; rcases hu with rfl | rfl <;> rfl)) (by unfold maxLen; omega) (by omega) ?_
      intro A' c' w2 hO3 hK3 hA
      have HO3 := Lib.hid hO3
      have HK3 := Lib.hid hK3
      have HA := Lib.hid hA
      clear hO2 hR2 hO3 hK3 hA)
    rcases HO3.out.2 with ⟨_, h0, _⟩ | ⟨g, cur, rfl, hgb, h1, h2, h3, ht⟩
    · omega
    have hsl1 := fun W => run_from W g (d.length + 1) c' (p + 1) (by omega)
    have hsl2 := fun W => run_from W g (d.length + 1) c' p (by omega)
    rw [if_neg (by omega : ¬ c' = p)] at hsl2
    obtain ⟨o1, ho1⟩ : ∃ o1, (if c' = p + 1 then 0 else (p + 1) * 2) = o1 := ⟨_, rfl⟩
    rw [ho1] at hsl1
    have hpc : ((p + 1 : Nat) : Int) = (p : Int) + 1 := by omega
    rw [hpc] at hsl1
    have hX : cur.toList.take ((d.length + 1) * 2) = eVs d ++ [.string ByteArray.empty, .int .i64 0] := ht
    have hXl : (d.length + 1) * 2 ≤ cur.toList.length := by have := Array.length_toList (xs := cur); omega
    have hEl : (eVs (d.drop p)).length = (d.length - p) * 2 := by rw [eVs_len, List.length_drop]
    have hrow : cur.toList.take o1 ++ eVs (d.drop p) ++ cur.toList.drop (o1 + (eVs (d.drop p)).length) = cur.toList.take ((p + 1) * 2) ++ eVs (d.drop p) ++ cur.toList.drop ((p + 1) * 2 + (eVs (d.drop p)).length) := by
      by_cases hc : c' = p + 1
      · have h0 : d.drop p = [] := List.drop_of_length_le (by omega)
        rw [h0]
        simp [eVs]
      · rw [if_neg hc] at ho1
        rw [← ho1]
    have hcp : ∀ (W : World), W.heap[g]? = some (.cells cur 88 (0, 0)) → ∀ ty, (Builtin.copy_ #[82, 82] ty #[.slice (some ⟨g, o1, none⟩) (d.length + 1 - (p + 1)) (c' - (p + 1)), .slice (some ⟨g, p * 2, none⟩) (d.length + 1 - p) (c' - p)]).run Try.prog W =
        .ok (goInt ((d.length - p : Nat) : Int)) (W.setRow g (cur.toList.take ((p + 1) * 2) ++ eVs (d.drop p) ++ cur.toList.drop ((p + 1) * 2 + (eVs (d.drop p)).length)).toArray) := by
      intro W hW ty
      have := copy_row (P := Try.prog) W 82 82 ty 88 g o1 (d.length + 1 - (p + 1)) (c' - (p + 1)) ⟨g, p * 2, none⟩ (d.length + 1 - p) (c' - p) cur 88 (eVs (d.drop p)) 2 (d.length - p) Try.underlying82 (by kernel_rfl) hW (by show d.length - p = min (d.length + 1 - p) (d.length + 1 - (p + 1)); omega) hEl ?_ ?_ (eVs_one _)
      · rw [this, hrow]
      · intro j v hj
        have hadd : (⟨g, p * 2, none⟩ : Addr).add j = ⟨g, p * 2 + j, none⟩ := by unfold Addr.add; split <;> simp_all
        rw [hadd, cell_blk hW]
        rw [← eVs_drop d p hp, List.getElem?_drop] at hj
        have hlt := (List.getElem?_eq_some_iff.1 hj).1
        rw [eVs_len] at hlt
        have : (cur.toList.take ((d.length + 1) * 2))[p * 2 + j]? = some v := by
          rw [hX, List.getElem?_append_left (by rw [eVs_len]; omega)]; exact hj
        rw [List.getElem?_take, if_pos (by omega)] at this
        simpa using this
      · rw [hEl, ← ho1]
        split <;> omega
    rw [show d.length + 1 - (p + 1) = d.length - p by omega] at hcp
    have Hcp := Lib.hid hcp
    have Hgb := Lib.hid hgb
    have Hup := Lib.hid (cells_up hp (z := [.string ByteArray.empty, .int .i64 0]) rfl hX hXl (n, i))
    have Ho1 := Lib.hid ho1
    clear hcp hgb hX hXl hEl ht ho1 hpc
    have hwr : IntKind.i64.wrap ((p : Int) + 1) = (p : Int) + 1 := by rw [IntKind.wrap_i64]; omega
    refine wp_region_T (Keep No w2) [(0, true), (1, true), (2, true), (3, true), (4, true), (5, true), (6, true), (7, false)] (by kernel_rfl) (by kernel_rfl) (Keep.refl _ _).drew ?_
    iterate 7
      (apply T_read rfl (by rfl)
       (· (intro W hW; go_simp; try with_reducible rfl))
       (simp only [Act.put, List.getElem_toArray, List.getElem_cons_succ, List.getElem_cons_zero, List.setIfInBounds_toArray, List.set_cons_zero, List.set_cons_succ]))
    refine T_do rfl (by rfl) (fun K hK => ?_)
    refine wp_copy_row (vd := .slice (some ⟨g, o1, none⟩) (d.length - p) (c' - (p + 1))) (vs := .slice (some ⟨g, p * 2, none⟩) (d.length + 1 - p) (c' - p)) (.tmp 29) (.tmp 32) 82 82 rfl rfl rfl (Hcp.out w2.drew Hgb.out) ?_
    refine hK _ _ (fun h => absurd rfl h) (T_end ?_)
    have hrw : (w2.drew.setRow g (cur.toList.take ((p + 1) * 2) ++ eVs (d.drop p) ++ cur.toList.drop ((p + 1) * 2 + (eVs (d.drop p)).length)).toArray).heap[g]? = some (.cells (cur.toList.take ((p + 1) * 2) ++ eVs (d.drop p) ++ cur.toList.drop ((p + 1) * 2 + (eVs (d.drop p)).length)).toArray 88 (0, 0)) := setRow_blk (w := w2.drew) Hgb.out _
    have hkw := (Keep.refl (fun k => k = g) w2).drew.setRow (.inl rfl) (cur.toList.take ((p + 1) * 2) ++ eVs (d.drop p) ++ cur.toList.drop ((p + 1) * 2 + (eVs (d.drop p)).length)).toArray
    have hup := Hup.out
    have hrl : (cur.toList.take ((p + 1) * 2) ++ eVs (d.drop p) ++ cur.toList.drop ((p + 1) * 2 + (eVs (d.drop p)).length)).length = cur.size := by
      have := Array.length_toList (xs := cur)
      simp only [List.length_append, List.length_take, List.length_drop, eVs_len, List.length_drop]
      omega
    generalize cur.toList.take ((p + 1) * 2) ++ eVs (d.drop p) ++ cur.toList.drop ((p + 1) * 2 + (eVs (d.drop p)).length) = Y at *
    generalize w2.drew.setRow g Y.toArray = w3 at *
    obtain ⟨y0, hy0⟩ : ∃ y0, w3.cell? ⟨g, p * 2, none⟩ = some y0 := ⟨_, (cell_blk hrw _).trans (by rw [List.getElem?_toArray]; exact List.getElem?_eq_getElem (by omega))⟩
    obtain ⟨y1, hy1⟩ : ∃ y1, w3.cell? ⟨g, p * 2 + 1, none⟩ = some y1 := ⟨_, (cell_blk hrw _).trans (by rw [List.getElem?_toArray]; exact List.getElem?_eq_getElem (by omega))⟩
    have z0 : w3.frozen? ⟨g, p * 2, none⟩ = false := froz_blk hrw _
    have z1 : w3.frozen? ⟨g, p * 2 + 1, none⟩ = false := froz_blk hrw _
    have hplt : (p : Int) < (d.length : Int) + 1 := by omega
    have Hrw := Lib.hid hrw
    have Hkw := Lib.hid hkw
    have Hup' := Lib.hid hup
    clear hrw hkw hup
    go_wp2_with fail
    go_ret
    have hsz1 := Hk1.out.size
    have hsz3 := HK3.out.size
    rw [World.size_alloc] at hsz3
    have k5 := (Hkw.out.setAt rfl (p * 2) (.string n)).setAt rfl (p * 2 + 1) (.int .i64 i)
    have hbA : bk A = some g ∨ (w1.heap.size ≤ g ∧ g < w2.heap.size) := by
      rcases HA.out with h | ⟨h, h2⟩
      · exact .inl (by rw [← h]; rfl)
      · injection h with h
        injection h with h
        rw [World.size_alloc] at h h2
        exact .inr ⟨by omega, by omega⟩
    refine ⟨some ⟨g, 0, none⟩, c', by rw [hlen.out]; rfl, ⟨by rw [eVs_len], .inr ⟨g, _, rfl, set_blk (set_blk Hrw.out _ _) _ _, by rw [hlen.out]; exact h1, h2, by simp; omega, ?_⟩⟩, ?_, ?_⟩
    · rw [hlen.out, Hnew.out, Array.toList_setIfInBounds, Array.toList_setIfInBounds]
      exact Hup'.out
    · refine (Hk1.out.mono (G := fun k => bk A = some k) fun _ _ h => h.elim).trans ((((Keep.refl No w1).alloc (.cells #[.string ByteArray.empty, .int .i64 0] 88)).mono (G := fun k => bk A = some k) fun _ _ h => h.elim).trans (HK3.out.mono (G := fun k => bk A = some k) fun k _ e => e.symm) (fun _ _ h => h) |>.trans k5 (fun k hk e => ?_)) (fun _ _ h => h)
      subst e
      rcases hbA with h | h
      · exact h
      · omega
    · intro k hk
      simp at hk
      subst hk
      rcases hbA with h | h
      · exact .inl h
      · right
        have := k5.size
        exact ⟨by omega, by omega⟩

end Go.Dx

namespace Go.Dx
open Go.RowKit Go.Proofs

theorem run_to82 (w : World) (A : Option Addr) (n c k : Nat) (h : k + 1 ≤ c) : (Instr.slice 82 (.slice A n c) none (some (.int .i64 ((k + 1 : Nat) - 1 : Int))) none).run Try.prog w = .ok (.slice A k c) w := by
  have he : Try.prog.elem 82 = 88 := by kernel_rfl
  have hs : ∀ W, (sizeOf 88).run Try.prog W = .ok 2 W := fun W => by kernel_rfl
  have e : (((k + 1 : Nat) : Int) - 1) = (k : Int) := by omega
  rw [e, run_slice_h w 82 A n c (by rw [he]; exact Try.underlying82) .i64 k (by omega) (by omega), he, hs]
  simp only [Result.andThen]
  rw [sliced_to']

set_option maxRecDepth 100000 in
set_option maxHeartbeats 2000000 in
theorem twin_any {w : World} {S : Nat → Prop} {A : Option Addr} {c : Nat} {d : Dir Nat} (hr : Rd w S A (eVs d)) (hl : d.length ≤ 16777216) :
    Calls Try.prog 59 #[.slice A d.length c] w fun e w' => ∃ A' c', e = .returned (.slice A' d.length c') ∧ Own w' 88 2 A' d.length c' (eVs d) ∧ Keep No w w' ∧ ∀ k, bk A' = some k → New w w' k := by
  have HR := Lib.hid hr
  clear hr
  go_enter Try.func59, Try.ntmps59
  go_wp2_with (
    refine wpList_app (by rfl) (.const (.slice none 0 0)) (.tmp 3) 82 82 rfl (Own.nil w 88 2) Try.underlying82 info88 rfl (by omega) rfl rfl (src_rd (news := eVs d) (m := d.length) Try.underlying82 HR.out (eVs_len d) (by omega) (eVs_one d)) (by unfold maxLen; omega) (by omega) ?_
    intro A' c' w2 hO3 hK3 hA
    have HO3 := Lib.hid hO3
    have HK3 := Lib.hid hK3
    have HA := Lib.hid hA
    clear hO3 hK3 hA)
  go_ret
  have h := HO3.out
  rw [Nat.zero_add, List.nil_append] at h
  refine ⟨A', c', by simp, h, HK3.out.mono fun k _ e => by simp at e, fun k hk => ?_⟩
  rcases HA.out with rfl | ⟨rfl, h2⟩
  · simp at hk
  · simp at hk
    subst hk
    exact ⟨Nat.le_refl _, h2⟩

set_option maxRecDepth 100000 in
set_option maxHeartbeats 4000000 in
theorem without_any {w : World} {A : Option Addr} {c : Nat} {d : Dir Nat} (hO : Own w 88 2 A d.length c (eVs d)) (hs : Sd d) (hl : d.length ≤ 16777216) (n : Nm) :
    Calls Try.prog 69 #[.slice A d.length c, .string n] w (DirR w A (rem d n)) := by
  have hf := find_any hO.rd hs (by omega) c n
  have HO := Lib.hid hO
  have Hs := Lib.hid hs
  have Hf := Lib.hid hf
  clear hO hs hf
  cases hg : (get d n).isSome with
  | false =>
    have hrem : Hid (rem d n = d) := rem_none (by simpa using hg)
    rw [hg] at Hf
    go_enter Try.func69, Try.ntmps69
    go_wp2_with fail
    refine Hf.out.mono ?_
    rintro e w1 ⟨rfl, m, rfl⟩
    have hO1 := HO.out.keep ((Keep.refl No w).drewN m) fun _ _ h => h
    go_wp2_with fail
    go_ret
    rw [hrem.out]
    exact ⟨A, c, rfl, hO1, (Keep.refl _ w).drewN m, fun k hk => .inl hk⟩
  | true =>
    have hp := pos_lt Hs.out hg
    have hcut := rem_cut Hs.out hg
    rw [hg] at Hf
    generalize pos d n = p at *
    have hlen : Hid ((rem d n).length = d.length - 1) := by
      unfold Hid; rw [hcut]
      simp; omega
    have Hcut := Lib.hid hcut
    clear hcut
    go_enter Try.func69, Try.ntmps69
    go_wp2_with fail
    refine Hf.out.mono ?_
    rintro e w1 ⟨rfl, m, rfl⟩
    have hO1 := HO.out.keep ((Keep.refl No w).drewN m) fun _ _ h => h
    have hk1 := (Keep.refl No w).drewN m
    have Hk1 := Lib.hid hk1
    clear hk1
    generalize w.drewN m = w1 at *
    rcases hO1.2 with ⟨_, h0, _⟩ | ⟨g, cur, rfl, hgb, h1, h2, h3, ht⟩
    · omega
    obtain ⟨N, hN⟩ : ∃ N, d.length = N + 1 := ⟨d.length - 1, by omega⟩
    have hsl1 := fun W => run_from W g d.length c (p + 1) (by omega)
    have hsl2 := fun W => run_from W g d.length c p (by omega)
    rw [if_neg (by omega : ¬ c = p)] at hsl2
    obtain ⟨o1, ho1⟩ : ∃ o1, (if c = p + 1 then 0 else (p + 1) * 2) = o1 := ⟨_, rfl⟩
    rw [ho1] at hsl1
    have hpc : ((p + 1 : Nat) : Int) = (p : Int) + 1 := by omega
    rw [hpc] at hsl1
    have hsl3 := fun W => run_to82 W (some ⟨g, 0, none⟩) d.length c N (by omega)
    rw [← hN] at hsl3
    have hX : cur.toList.take (d.length * 2) = eVs d := ht
    have hXl : d.length * 2 ≤ cur.toList.length := by have := Array.length_toList (xs := cur); omega
    have hEl : (eVs (d.drop (p + 1))).length = (d.length - (p + 1)) * 2 := by rw [eVs_len, List.length_drop]
    have hcp : ∀ (W : World), W.heap[g]? = some (.cells cur 88 (0, 0)) → ∀ ty, (Builtin.copy_ #[82, 82] ty #[.slice (some ⟨g, p * 2, none⟩) (d.length - p) (c - p), .slice (some ⟨g, o1, none⟩) (d.length - (p + 1)) (c - (p + 1))]).run Try.prog W =
        .ok (goInt ((d.length - (p + 1) : Nat) : Int)) (W.setRow g (cur.toList.take (p * 2) ++ eVs (d.drop (p + 1)) ++ cur.toList.drop (p * 2 + (eVs (d.drop (p + 1))).length)).toArray) := by
      intro W hW ty
      refine copy_row (P := Try.prog) W 82 82 ty 88 g (p * 2) (d.length - p) (c - p) ⟨g, o1, none⟩ (d.length - (p + 1)) (c - (p + 1)) cur 88 (eVs (d.drop (p + 1))) 2 (d.length - (p + 1)) Try.underlying82 (by kernel_rfl) hW (by show d.length - (p + 1) = min (d.length - (p + 1)) (d.length - p); omega) hEl ?_ ?_ (eVs_one _)
      · intro j v hj
        have hlt := (List.getElem?_eq_some_iff.1 hj).1
        rw [hEl] at hlt
        rw [if_neg (by omega : ¬ c = p + 1)] at ho1
        subst ho1
        have hadd : (⟨g, (p + 1) * 2, none⟩ : Addr).add j = ⟨g, (p + 1) * 2 + j, none⟩ := by unfold Addr.add; split <;> simp_all
        rw [hadd, cell_blk hW]
        rw [← eVs_drop d (p + 1) (by omega), List.getElem?_drop] at hj
        have : (cur.toList.take (d.length * 2))[(p + 1) * 2 + j]? = some v := by rw [hX]; exact hj
        rw [List.getElem?_take, if_pos (by omega)] at this
        simpa using this
      · rw [hEl]; omega
    have Hcp := Lib.hid hcp
    have Hgb := Lib.hid hgb
    have Hdn := Lib.hid (cells_down hp hX hXl)
    clear hcp hgb hX hXl hEl ht ho1 hpc hO1
    have hwr : IntKind.i64.wrap ((p : Int) + 1) = (p : Int) + 1 := by rw [IntKind.wrap_i64]; omega
    have HN := Lib.hid hN
    clear hN
    go_wp2_with fail
    refine wp_region_T (Keep No w1) [(0, true), (1, true), (2, true), (3, true), (4, true), (5, true), (6, true), (7, false)] (by kernel_rfl) (by kernel_rfl) (Keep.refl _ _).drew ?_
    iterate 7
      (apply T_read rfl (by rfl)
       (· (intro W hW; go_simp; try with_reducible rfl))
       (simp only [Act.put, List.getElem_toArray, List.getElem_cons_succ, List.getElem_cons_zero, List.setIfInBounds_toArray, List.set_cons_zero, List.set_cons_succ]))
    refine T_do rfl (by rfl) (fun K hK => ?_)
    refine wp_copy_row (vd := .slice (some ⟨g, p * 2, none⟩) (d.length - p) (c - p)) (vs := .slice (some ⟨g, o1, none⟩) (d.length - (p + 1)) (c - (p + 1))) (.tmp 18) (.tmp 22) 82 82 rfl rfl rfl (Hcp.out w1.drew Hgb.out) ?_
    refine hK _ _ (fun h => absurd rfl h) (T_end ?_)
    have hrw := setRow_blk (w := w1.drew) Hgb.out (cur.toList.take (p * 2) ++ eVs (d.drop (p + 1)) ++ cur.toList.drop (p * 2 + (eVs (d.drop (p + 1))).length)).toArray
    have hkw := (Keep.refl (fun k => k = g) w1).drew.setRow (.inl rfl) (cur.toList.take (p * 2) ++ eVs (d.drop (p + 1)) ++ cur.toList.drop (p * 2 + (eVs (d.drop (p + 1))).length)).toArray
    have hdn := Hdn.out
    have hrl : (cur.toList.take (p * 2) ++ eVs (d.drop (p + 1)) ++ cur.toList.drop (p * 2 + (eVs (d.drop (p + 1))).length)).length = cur.size := by
      have := Array.length_toList (xs := cur)
      simp only [List.length_append, List.length_take, List.length_drop, eVs_len, List.length_drop]
      omega
    generalize cur.toList.take (p * 2) ++ eVs (d.drop (p + 1)) ++ cur.toList.drop (p * 2 + (eVs (d.drop (p + 1))).length) = Y at *
    generalize w1.drew.setRow g Y.toArray = w3 at *
    have Hrw := Lib.hid hrw
    have Hkw := Lib.hid hkw
    have Hdn' := Lib.hid hdn
    clear hrw hkw hdn
    have hN1 : Hid (N = d.length - 1) := by unfold Hid; have := HN.out; omega
    go_wp2_with fail
    go_ret
    refine ⟨some ⟨g, 0, none⟩, c, by rw [hlen.out, ← hN1.out]; rfl, ⟨by rw [eVs_len], .inr ⟨g, _, rfl, Hrw.out, by rw [hlen.out]; omega, h2, by simp; omega, ?_⟩⟩, ?_, fun k hk => .inl hk⟩
    · rw [hlen.out, Hcut.out]
      exact Hdn'.out
    · exact (Hk1.out.mono (G := fun k => bk (some (⟨g, 0, none⟩ : Addr)) = some k) fun _ _ h => h.elim).trans' (Hkw.out.mono fun k _ e => by subst e; rfl)

end Go.Dx

namespace Go.Dx
open Go.RowKit Go.Proofs

structure RL where
  fA : Option Addr
  fC : Nat
  nA : Option Addr
  nC : Nat
  sA : Option Addr
  sC : Nat
  cA : Option Addr
  cC : Nat
  fb : List Nat
  fd : List (Option Addr × Nat)

def ptrsV (fb : List Nat) : List Value := fb.map fun b => .pointer (some ⟨b, 0, none⟩)
def rcV : Ch → List Value
  | .mk n i => [.int .i64 1, .string n, .string ByteArray.empty, .int .i64 i]
  | .ren a b => [.int .i64 2, .string a, .string b, .int .i64 0]
  | .del n => [.int .i64 3, .string n, .string ByteArray.empty, .int .i64 0]
theorem rcV_len (c : Ch) : (rcV c).length = 4 := by cases c <;> rfl
def rcsV (l : List Ch) : List Value := l.flatMap rcV
theorem rcsV_len : ∀ l : List Ch, (rcsV l).length = l.length * 4
  | [] => rfl
  | c :: l => by
    have := rcsV_len l
    unfold rcsV at *
    rw [List.flatMap_cons, List.length_append, this, rcV_len, List.length_cons]; omega
def diskR (s : St) (L : RL) : Array Value :=
  #[.int .i64 s.room, .slice L.fA s.files.length L.fC, .slice L.nA s.now.length L.nC, .slice L.sA s.sure.length L.sC, .slice L.cA s.changes.length L.cC, .int .i64 s.left, .int .i64 s.well, .int .i64 s.fails, .int .i64 s.part, .bool s.down]

structure RDL (w : World) (D : Nat) (s : St) (L : RL) : Prop where
  disk : w.heap[D]? = some (.cells (diskR s L) 85 (0, 0))
  ptrs : Own w 86 1 L.fA s.files.length L.fC (ptrsV L.fb)
  files : FilesAt w 90 s.files L.fb L.fd
  now : Own w 88 2 L.nA s.now.length L.nC (eVs s.now)
  sure : Own w 88 2 L.sA s.sure.length L.sC (eVs s.sure)
  chs : Own w 116 4 L.cA s.changes.length L.cC (rcsV s.changes)
  apart : ∀ k, bk L.nA = some k → bk L.sA ≠ some k

def footR (D : Nat) (L : RL) : Nat → Prop := fun k => k = D ∨ bk L.fA = some k ∨ bk L.nA = some k ∨ bk L.sA = some k ∨ bk L.cA = some k ∨ footF L.fb L.fd k
def DidR (w : World) (D : Nat) (L : RL) (s' : St) (w' : World) : Prop := ∃ L', RDL w' D s' L' ∧ Keep (footR D L) w w' ∧ ∀ k, footR D L' k → footR D L k ∨ New w w' k

section
variable {w w' : World} {D : Nat} {s : St} {L : RL}
theorem RDL.same (h : RDL w D s L) {S : Nat → Prop} (hs : Same S w w') (hS : ∀ k, footR D L k → S k) : RDL w' D s L where
  disk := (hs D (hS D (.inl rfl))).trans h.disk
  ptrs := h.ptrs.same hs fun k hk => hS k (.inr (.inl hk))
  files := h.files.same hs fun k hk => hS k (.inr (.inr (.inr (.inr (.inr hk)))))
  now := h.now.same hs fun k hk => hS k (.inr (.inr (.inl hk)))
  sure := h.sure.same hs fun k hk => hS k (.inr (.inr (.inr (.inl hk))))
  chs := h.chs.same hs fun k hk => hS k (.inr (.inr (.inr (.inr (.inl hk)))))
  apart := h.apart
theorem RDL.lt (h : RDL w D s L) : ∀ k, footR D L k → k < w.heap.size := by
  rintro k (rfl | hk | hk | hk | hk | hk)
  · exact lt_blk h.disk
  · exact h.ptrs.lt hk
  · exact h.now.lt hk
  · exact h.sure.lt hk
  · exact h.chs.lt hk
  · exact h.files.lt k hk
theorem RDL.keep (h : RDL w D s L) {F : Nat → Prop} (hk : Keep F w w') (hF : ∀ k, footR D L k → ¬ F k) : RDL w' D s L :=
  h.same (S := footR D L) (fun k hk' => hk.block k (h.lt k hk') (hF k hk')) fun _ h => h
theorem RDL.keepNo (h : RDL w D s L) (hk : Keep No w w') : RDL w' D s L := h.keep hk fun _ _ h => h
theorem RDL.cell (h : RDL w D s L) (i : Nat) {v : Value} (hv : (diskR s L)[i]? = some v) : w.cell? ⟨D, i, none⟩ = some v := (cell_blk h.disk i).trans hv
theorem RDL.froz (h : RDL w D s L) (i : Nat) : w.frozen? ⟨D, i, none⟩ = false := froz_blk h.disk i
theorem RDL.neD (h : RDL w D s L) : ∀ k, (bk L.fA = some k ∨ bk L.nA = some k ∨ bk L.sA = some k ∨ bk L.cA = some k ∨ footF L.fb L.fd k) → k ≠ D := by
  rintro k (hk | hk | hk | hk | hk)
  · rintro rfl; exact h.ptrs.ne_blk h.disk (by decide) hk
  · rintro rfl; exact h.now.ne_blk h.disk (by decide) hk
  · rintro rfl; exact h.sure.ne_blk h.disk (by decide) hk
  · rintro rfl; exact h.chs.ne_blk h.disk (by decide) hk
  · obtain ⟨cs, t, hb, ht⟩ := h.files.obj k hk
    exact ne_type hb h.disk (by rcases ht with rfl | rfl <;> decide)
/-- The disk's own block is written: its numbers. -/
theorem RDL.reDisk (h : RDL w D s L) {s' : St} (hk : Keep (fun k => k = D) w w') (hd : w'.heap[D]? = some (.cells (diskR s' L) 85 (0, 0)))
    (e1 : s'.files = s.files) (e2 : s'.now = s.now) (e3 : s'.sure = s.sure) (e4 : s'.changes = s.changes) : RDL w' D s' L := by
  have hs : Same (fun k => bk L.fA = some k ∨ bk L.nA = some k ∨ bk L.sA = some k ∨ bk L.cA = some k ∨ footF L.fb L.fd k) w w' := fun k hk' => hk.block k (h.lt k (.inr hk')) (h.neD k hk')
  exact ⟨hd, by rw [e1]; exact h.ptrs.same hs fun k hk => .inl hk, by rw [e1]; exact h.files.same hs fun k hk => .inr (.inr (.inr (.inr hk))), by rw [e2]; exact h.now.same hs fun k hk => .inr (.inl hk), by rw [e3]; exact h.sure.same hs fun k hk => .inr (.inr (.inl hk)),
    by rw [e4]; exact h.chs.same hs fun k hk => .inr (.inr (.inr (.inl hk))), h.apart⟩
theorem DidR.same {s' : St} (h : RDL w' D s' L) (hk : Keep (fun k => k = D) w w') : DidR w D L s' w' := ⟨L, h, hk.mono fun _ _ e => .inl e, fun _ h => .inl h⟩
theorem DidR.after {w0 : World} {s' : St} (hk : Keep (fun k => k = D) w0 w) (h : DidR w D L s' w') : DidR w0 D L s' w' := by
  obtain ⟨L', h1, h2, h3⟩ := h
  refine ⟨L', h1, (hk.mono fun _ _ e => .inl e).trans' h2, fun k hk' => ?_⟩
  rcases h3 k hk' with e | e
  · exact .inl e
  · exact .inr ⟨Nat.le_trans hk.size e.1, e.2⟩
end

/-- Place 3. -/
def St.rig (s : St) : Bool × St := if 0 < s.well then (false, { s with well := s.well - 1 }) else if 0 < s.fails then (true, { s with fails := s.fails - 1 }) else (false, s)
theorem bgn_rig {s : St} (h : s.down = false) : s.bgn true = (if s.rig.1 then 31 else 0, s.rig.2) := by
  unfold St.bgn St.rig
  rw [h]
  simp only [Bool.false_eq_true, if_false]
  by_cases h1 : 0 < s.well
  · simp [h1]
  · by_cases h2 : 0 < s.fails <;> simp [h1, h2]

set_option maxRecDepth 100000 in
set_option maxHeartbeats 1000000 in
theorem rigged_any {w : World} {D : Nat} {s : St} {L : RL} (h : RDL w D s L) (hw : s.well < 9223372036854775808) (hf : s.fails < 9223372036854775808) :
    Calls Try.prog 61 #[.pointer (some ⟨D, 0, none⟩)] w fun e w' => e = .returned (.bool s.rig.1) ∧ RDL w' D s.rig.2 L ∧ Keep (fun k => k = D) w w' := by
  have c6 : w.cell? ⟨D, 6, none⟩ = some (.int .i64 s.well) := h.cell 6 rfl
  have c7 : w.cell? ⟨D, 7, none⟩ = some (.int .i64 s.fails) := h.cell 7 rfl
  have z6 := h.froz 6
  have z7 := h.froz 7
  have H := Lib.hid h
  clear h
  by_cases h1 : 0 < s.well
  · have hfin : Hid (s.rig = (false, { s with well := s.well - 1 })) := by simp [Hid, St.rig, h1]
    have e2 : Hid ((s.well : Int) - 1 = ((s.well - 1 : Nat) : Int)) := by unfold Hid; omega
    have t1 : (0 : Int) < s.well := by omega
    go_enter Try.func61, Try.ntmps61
    go_wp2_with fail
    go_ret
    rw [hfin.out, e2.out]
    have k := (Keep.refl (fun k => k = D) w).setAt rfl 6 (.int .i64 ((s.well - 1 : Nat) : Int))
    exact ⟨rfl, H.out.reDisk k (set_blk H.out.disk 6 _) rfl rfl rfl rfl, k⟩
  · have t1 : (s.well : Int) ≤ 0 := by omega
    by_cases h2 : 0 < s.fails
    · have hfin : Hid (s.rig = (true, { s with fails := s.fails - 1 })) := by simp [Hid, St.rig, h1, h2]
      have e2 : Hid ((s.fails : Int) - 1 = ((s.fails - 1 : Nat) : Int)) := by unfold Hid; omega
      have t2 : (0 : Int) < s.fails := by omega
      go_enter Try.func61, Try.ntmps61
      go_wp2_with fail
      go_ret
      rw [hfin.out, e2.out]
      have k := (Keep.refl (fun k => k = D) w).setAt rfl 7 (.int .i64 ((s.fails - 1 : Nat) : Int))
      exact ⟨rfl, H.out.reDisk k (set_blk H.out.disk 7 _) rfl rfl rfl rfl, k⟩
    · have hfin : Hid (s.rig = (false, s)) := by simp [Hid, St.rig, h1, h2]
      have t2 : (s.fails : Int) ≤ 0 := by omega
      go_enter Try.func61, Try.ntmps61
      go_wp2_with fail
      go_ret
      rw [hfin.out]
      exact ⟨rfl, H.out, Keep.refl _ _⟩

set_option maxRecDepth 100000 in
set_option maxHeartbeats 1000000 in
theorem fallsR_any {w : World} {D : Nat} {s : St} {L : RL} (h : RDL w D s L) (hb : s.left < 9223372036854775808) (cost : Int) (hc : 0 ≤ cost) (hc2 : cost < 9223372036854775808) :
    Calls Try.prog 63 #[.pointer (some ⟨D, 0, none⟩), .int .i64 cost] w fun e w' =>
      e = .returned (.tuple #[.int .i64 ((s.fls cost.toNat).1 : Nat), .bool (s.fls cost.toNat).2.1]) ∧ RDL w' D (s.fls cost.toNat).2.2 L ∧ Keep (fun k => k = D) w w' := by
  have c5 : w.cell? ⟨D, 5, none⟩ = some (.int .i64 s.left) := h.cell 5 rfl
  have c6 : w.cell? ⟨D, 6, none⟩ = some (.int .i64 s.well) := h.cell 6 rfl
  have c7 : w.cell? ⟨D, 7, none⟩ = some (.int .i64 s.fails) := h.cell 7 rfl
  have c8 : w.cell? ⟨D, 8, none⟩ = some (.int .i64 s.part) := h.cell 8 rfl
  have c9 : w.cell? ⟨D, 9, none⟩ = some (.bool s.down) := h.cell 9 rfl
  have z5 := h.froz 5
  have z6 := h.froz 6
  have z7 := h.froz 7
  have z8 := h.froz 8
  have z9 := h.froz 9
  have H := Lib.hid h
  clear h
  by_cases h0 : s.left = 0
  · have hf : Hid (s.fls cost.toNat = (0, false, s)) := by simp [Hid, St.fls, h0]
    have e0 : ((s.left : Int) == 0) = true := by simp [h0]
    clear h0
    go_enter Try.func63, Try.ntmps63
    go_wp2
    go_ret2
    rw [hf.out]
    exact ⟨rfl, H.out, Keep.refl _ _⟩
  · have e0 : ((s.left : Int) == 0) = false := by simp [h0]
    by_cases h1 : cost.toNat < s.left
    · have hf : Hid (s.fls cost.toNat = (0, false, { s with left := s.left - cost.toNat })) := by simp [Hid, St.fls, h0, h1]
      have h1' : cost < s.left := by omega
      have e2 : Hid ((s.left : Int) - cost = ((s.left - cost.toNat : Nat) : Int)) := by unfold Hid; omega
      clear h0
      go_enter Try.func63, Try.ntmps63
      go_wp2
      go_ret2
      rw [hf.out, e2.out]
      have k := (Keep.refl (fun k => k = D) w).setAt rfl 5 (.int .i64 ((s.left - cost.toNat : Nat) : Int))
      exact ⟨rfl, H.out.reDisk k (set_blk H.out.disk 5 _) rfl rfl rfl rfl, k⟩
    · have hf : Hid (s.fls cost.toNat = (s.left - 1, true, { s with left := 0, well := 0, fails := 0, part := 0, down := true })) := by simp [Hid, St.fls, h0, h1]
      have h1' : (s.left : Int) ≤ cost := by omega
      have h1'' : (1 : Int) ≤ s.left := by omega
      have e2 : Hid ((s.left : Int) - 1 = ((s.left - 1 : Nat) : Int)) := by unfold Hid; omega
      clear h0
      go_enter Try.func63, Try.ntmps63
      go_wp2
      go_ret2
      rw [hf.out, e2.out]
      have k := (((((Keep.refl (fun k => k = D) w).setAt rfl 5 (.int .i64 0)).setAt rfl 6 (.int .i64 0)).setAt rfl 7 (.int .i64 0)).setAt rfl 8 (.int .i64 0)).setAt rfl 9 (.bool true)
      have b := set_blk (set_blk (set_blk (set_blk (set_blk H.out.disk 5 (.int .i64 0)) 6 (.int .i64 0)) 7 (.int .i64 0)) 8 (.int .i64 0)) 9 (.bool true)
      exact ⟨rfl, H.out.reDisk k b rfl rfl rfl rfl, k⟩

end Go.Dx

namespace Go.Dx
open Go.RowKit Go.Proofs

theorem pair_of {g : Nat} {w : World} {A : Option Addr} {c : Nat} {d : Dir Nat} (hO : Own w 88 2 A d.length c (eVs d)) (hA : A = some ⟨g, 0, none⟩) {i : Nat} {x : Nm × Nat} (hx : d[i]? = some x) :
    w.cell? ⟨g, i * 2, none⟩ = some (.string x.1) ∧ w.cell? ⟨g, i * 2 + 1, none⟩ = some (.int .i64 x.2) := by
  subst hA
  have hlt := (List.getElem?_eq_some_iff.1 hx).1
  rcases hO.2 with ⟨h0, _⟩ | ⟨g', cur, h0, hg, _, _, _, ht⟩
  · cases h0
  · cases h0
    have q0 := eVs_get d i x hx 0 (by omega)
    have q1 := eVs_get d i x hx 1 (by omega)
    rw [← ht, List.getElem?_take, if_pos (by omega)] at q0 q1
    refine ⟨?_, ?_⟩
    · rw [cell_blk hg]; simpa [eV] using q0
    · rw [cell_blk hg]; simpa [eV] using q1
theorem Own.some_of {w : World} {e : TypeId} {sz : Nat} {A : Option Addr} {n c : Nat} {xs : List Value} (h : Own w e sz A n c xs) (hn : 0 < n) : ∃ g, A = some ⟨g, 0, none⟩ := by
  rcases h.2 with ⟨_, h0, _⟩ | ⟨g, cur, h0, _⟩
  · omega
  · exact ⟨g, h0⟩

section
variable {w : World} {D : Nat} {s : St} {L : RL}
/-- The i-th entry of the directory, and its file. -/
theorem RDL.ent (h : RDL w D s L) (hw : Wf s) {j : Nat} {x : Nm × Nat} (hx : s.now[j]? = some x) :
    ∃ gN gF f b d, L.nA = some ⟨gN, 0, none⟩ ∧ L.fA = some ⟨gF, 0, none⟩ ∧ s.files[x.2]? = some f ∧ L.fb[x.2]? = some b ∧ L.fd[x.2]? = some d ∧
      w.cell? ⟨gN, j * 2, none⟩ = some (.string x.1) ∧ w.cell? ⟨gN, j * 2 + 1, none⟩ = some (.int .i64 x.2) ∧ w.cell? ⟨gF, x.2, none⟩ = some (.pointer (some ⟨b, 0, none⟩)) ∧
      w.heap[b]? = some (.cells (fileC f d) 90 (0, 0)) ∧ Own w 5 1 d.1 f.data.length d.2 (BV f.data) ∧ x.2 < s.files.length := by
  have hjl := (List.getElem?_eq_some_iff.1 hx).1
  have hi := hw.idxN x (List.mem_of_getElem? hx)
  obtain ⟨gN, hN⟩ := h.now.some_of (by omega)
  obtain ⟨gF, hF⟩ := h.ptrs.some_of (by omega)
  obtain ⟨f, b, d, h1, h2, h3, _, h5, h6⟩ := h.files.at hi
  obtain ⟨q0, q1⟩ := pair_of h.now hN hx
  have hp := h.ptrs.cellAt (j := x.2) (u := .pointer (some ⟨b, 0, none⟩)) (by simp [ptrsV, h2])
  obtain ⟨gF', hF', hc⟩ := hp
  rw [hF] at hF'
  cases hF'
  exact ⟨gN, gF, f, b, d, hN, hF, h1, h2, h3, q0, q1, hc, h5, h6, hi⟩
end

def atV (fb : List Nat) : Option Nat → Value
  | some i => ptrV fb i
  | none => .pointer none

set_option maxRecDepth 100000 in
set_option maxHeartbeats 2000000 in
theorem at_any {w : World} {D : Nat} {s : St} {L : RL} (h : RDL w D s L) (hw : Wf s) (n : Nm) :
    Calls Try.prog 62 #[.pointer (some ⟨D, 0, none⟩), .string n] w fun e w' => e = .returned (atV L.fb (get s.now n)) ∧ ∃ m, w' = w.drewN m := by
  have hf := find_any h.now.rd hw.sdN (by have := hw.nlen; omega) L.nC n
  have c1 : w.cell? ⟨D, 1, none⟩ = some (.slice L.fA s.files.length L.fC) := h.cell 1 rfl
  have c2 : w.cell? ⟨D, 2, none⟩ = some (.slice L.nA s.now.length L.nC) := h.cell 2 rfl
  cases hg : get s.now n with
  | none =>
    rw [hg] at hf
    have Hf := Lib.hid hf
    clear hf hg
    go_enter Try.func62, Try.ntmps62
    go_wp2_with fail
    refine Hf.out.mono ?_
    rintro e w1 ⟨rfl, m, rfl⟩
    go_wp2_with fail
    go_ret
    exact ⟨rfl, m, rfl⟩
  | some i =>
    have hpos := hw.sdN.get_pos hg
    obtain ⟨gN, gF, f, b, d, hN, hF, h1, h2, h3, q0, q1, q2, h5, h6, hi⟩ := h.ent hw hpos
    have hp := pos_lt hw.sdN (by rw [hg]; rfl)
    have hfin : Hid (atV L.fb (some i) = .pointer (some ⟨b, 0, none⟩)) := by
      show Value.pointer (some ⟨L.fb.getD i 0, 0, none⟩) = _
      rw [List.getD_eq_getElem?_getD, h2]; rfl
    rw [hg] at hf
    rw [hN] at c2
    rw [hF] at c1
    generalize pos s.now n = p at *
    have hp' : (p : Int) < s.now.length := by omega
    have hi' : (i : Int) < s.files.length := by simp only at hi; omega
    simp only at q1 q2
    have Hf := Lib.hid hf
    have HN := Lib.hid hN
    clear hf hg hpos h1 h2 h3 h5 h6 hN hF
    go_enter Try.func62, Try.ntmps62
    go_wp2_with fail
    rw [← HN.out]
    refine Hf.out.mono ?_
    rintro e w1 ⟨rfl, m, rfl⟩
    go_wp2_with fail
    go_quiet (fail)
    go_wp2_with fail
    go_ret
    rw [hfin.out]
    exact ⟨rfl, _, World.drewN_drewN ..⟩

/-- The bytes of the first j files that have a name. -/
def tot (s : St) (j : Nat) : Nat := ((s.now.take j).map fun x => s.lenAt x.2).sum
theorem tot_succ {s : St} {j : Nat} {x : Nm × Nat} (hx : s.now[j]? = some x) : tot s (j + 1) = tot s j + s.lenAt x.2 := by
  unfold tot
  rw [take_snoc hx]
  simp
theorem tot_le (s : St) (j : Nat) : tot s j ≤ s.total := by
  have : s.total = tot s j + ((s.now.drop j).map fun x => s.lenAt x.2).sum := by
    unfold tot St.total
    rw [← List.sum_append_nat, ← List.map_append, List.take_append_drop]
  omega
theorem tot_all (s : St) : tot s s.now.length = s.total := by unfold tot St.total; rw [List.take_length]

set_option maxRecDepth 100000 in
set_option maxHeartbeats 2000000 in
theorem size_any {w : World} {D : Nat} {s : St} {L : RL} (h : RDL w D s L) (hw : Wf s) :
    Calls Try.prog 74 #[.pointer (some ⟨D, 0, none⟩)] w fun e w' => e = .returned (.int .i64 (s.total : Nat)) ∧ ∃ m, w' = w.drewN m := by
  have c1 : w.cell? ⟨D, 1, none⟩ = some (.slice L.fA s.files.length L.fC) := h.cell 1 rfl
  have c2 : w.cell? ⟨D, 2, none⟩ = some (.slice L.nA s.now.length L.nC) := h.cell 2 rfl
  have htot := total_le hw
  obtain ⟨fA, fC, nA, nC, sA, sC, cA, cC, fb, fd⟩ := L
  simp only at c1 c2
  have H := Lib.hid h
  have Hw := Lib.hid hw
  have hnl := hw.nlen
  clear h hw
  go_enter Try.func74, Try.ntmps74
  go_wp2_with fail
  go_loopw [3, 4] (fun v i wr => ∃ j m : Nat, j ≤ s.now.length ∧ v = .int .i64 (tot s j) ∧ i = .int .i64 j ∧ wr = w.drewN m) (fun _ i _ => s.now.length - (RowKit.intOf i).toNat)
  case atStart => exact ⟨0, 0, Nat.zero_le _, rfl, rfl, rfl⟩
  case round =>
    obtain ⟨j, m, hj, rfl, rfl, rfl⟩ := hrel
    by_cases hlt : j < s.now.length
    · have hlt' : (j : Int) < s.now.length := by omega
      obtain ⟨x, hx⟩ : ∃ x, s.now[j]? = some x := ⟨_, List.getElem?_eq_getElem hlt⟩
      obtain ⟨gN, gF, f, b, d, hN, hF, h1, h2, h3, q0, q1, q2, h5, h6, hi⟩ := H.out.ent Hw.out hx
      simp only at hN hF
      subst hN
      subst hF
      have c0 : w.cell? ⟨b, 0, none⟩ = some (.slice d.1 f.data.length d.2) := (cell_blk h5 0).trans rfl
      have hi' : (x.2 : Int) < s.files.length := by omega
      have hs1 := tot_succ hx
      have hle := tot_le s (j + 1)
      have hla : s.lenAt x.2 = f.data.length := by simp [St.lenAt, h1]
      rw [hla] at hs1
      obtain ⟨t, ht⟩ : ∃ t, tot s (j + 1) = t := ⟨_, rfl⟩
      have hadd : ((tot s j : Nat) : Int) + f.data.length = t := by omega
      have htl : (t : Int) < 9223372036854775808 := by omega
      have Ht := Lib.hid ht
      clear hx h1 h2 h3 h5 h6 hs1 hle hla ht
      go_wp2_with fail
      go_quiet (fail)
      go_wp2_with fail
      go_roundw
      case rel => exact ⟨j + 1, m + nq, by omega, by rw [Ht.out], by go_num, rfl⟩
      case measure => simp [RowKit.intOf]; omega
    · obtain rfl : j = s.now.length := by omega
      have hfin := Lib.hid (tot_all s)
      go_wp2_with fail
      go_ret
      rw [hfin.out]
      exact ⟨rfl, m, rfl⟩

set_option maxRecDepth 100000 in
set_option maxHeartbeats 4000000 in
theorem fullR_any {w : World} {D : Nat} {s : St} {L : RL} (h : RDL w D s L) (hw : Wf s) {i : Nat} {f : FV} {b : Nat} {d : Option Addr × Nat} (hf : s.files[i]? = some f) (hblk : w.heap[b]? = some (.cells (fileC f d) 90 (0, 0))) (n : Nat) (_ : n ≤ 140737488355328) :
    Calls Try.prog 70 #[.pointer (some ⟨D, 0, none⟩), .pointer (some ⟨b, 0, none⟩), .int .i64 n] w fun e w' => e = .returned (.bool (s.full i n)) ∧ ∃ m, w' = w.drewN m := by
  have c0 : w.cell? ⟨D, 0, none⟩ = some (.int .i64 s.room) := h.cell 0 rfl
  have c5 : w.cell? ⟨b, 0, none⟩ = some (.slice d.1 f.data.length d.2) := (cell_blk hblk 0).trans rfl
  have htot := total_le hw
  have hl := (hw.fsure f (List.mem_of_getElem? hf)).2
  have hroom := hw.broom
  have hla : s.lenAt i = f.data.length := by simp [St.lenAt, hf]
  have hfu : Hid (s.full i n = (decide (2147483648 < f.data.length + n) || (decide (s.room ≠ 0) && decide (s.room < s.total + n)))) := by unfold Hid St.full; rw [hla]
  have H := Lib.hid h
  have Hw := Lib.hid hw
  clear h hw hf hblk hla
  have hsz : ∀ m, Calls Try.prog 74 #[.pointer (some ⟨D, 0, none⟩)] (w.drewN m) fun e w' => e = .returned (.int .i64 (s.total : Nat)) ∧ ∃ k, w' = (w.drewN m).drewN k := fun m => size_any (H.out.keepNo ((Keep.refl No w).drewN m)) Hw.out
  generalize s.total = T at *
  have Hsz := Lib.hid hsz
  clear hsz
  by_cases h0 : s.room = 0
  · have t0 : ((s.room : Int) != 0) = false := by simp [h0]
    have hfin : Hid (s.full i n = decide ((2147483648 : Int) - f.data.length < n)) := by
      unfold Hid
      rw [hfu.out, h0]
      simp
      omega
    clear h0
    go_enter Try.func70, Try.ntmps70
    go_wp2_with fail
    go_quiet (fail)
    go_wp2_with fail
    go_ret
    rw [hfin.out]
    exact ⟨rfl, _, rfl⟩
  · have t0 : ((s.room : Int) != 0) = true := by simp [h0]
    by_cases h1 : s.room < T + n
    · have hfin : Hid (s.full i n = true) := by
        unfold Hid
        rw [hfu.out]
        simp [h0, h1]
      have t1 : decide ((s.room : Int) - T < n) = true := decide_eq_true (by omega)
      clear h0 h1
      go_enter Try.func70, Try.ntmps70
      go_wp2_with fail
      go_quiet ((go_at_call 74; exact Calls.quiet_of (Hsz.out _)))
      go_wp2_with fail
      go_ret
      rw [hfin.out]
      exact ⟨rfl, _, rfl⟩
    · have hfin : Hid (s.full i n = decide ((2147483648 : Int) - f.data.length < n)) := by
        unfold Hid
        rw [hfu.out]
        simp [h0, h1]
        omega
      have t1 : decide ((s.room : Int) - T < n) = false := decide_eq_false (by omega)
      clear h0 h1
      go_enter Try.func70, Try.ntmps70
      go_wp2_with fail
      go_quiet ((go_at_call 74; exact Calls.quiet_of (Hsz.out _)))
      go_wp2_with fail
      go_ret
      rw [hfin.out]
      exact ⟨rfl, _, rfl⟩

end Go.Dx

namespace Go.Dx
open Go.RowKit Go.Proofs

theorem bgn_dn {s : St} (h : s.down = true) (ok : Bool) : s.bgn ok = (30, s) := by simp [St.bgn, h]
theorem bgn_nm {s : St} (h : s.down = false) : s.bgn false = (33, s) := by simp [St.bgn, h]
theorem rig_files (s : St) : s.rig.2.files = s.files ∧ s.rig.2.now = s.now ∧ s.rig.2.sure = s.sure ∧ s.rig.2.changes = s.changes ∧ s.rig.2.part = s.part ∧ s.rig.2.left = s.left := by
  unfold St.rig
  repeat' split
  all_goals exact ⟨rfl, rfl, rfl, rfl, rfl, rfl⟩
theorem rig_wf {s : St} (h : Wf s) : Wf s.rig.2 := by
  unfold St.rig
  have hb := h.bwell
  have hf := h.bfails
  split
  · exact { h with bwell := by simp only []; omega }
  · split
    · exact { h with bfails := by simp only []; omega }
    · exact h

/-- Sync, behind what refuses it. -/
def St.syncB (r : St) (n : Nm) : Int × St :=
  match get r.now n with
  | none => (34, r)
  | some i => if (r.fls 1).2.1 then (30, (r.fls 1).2.2) else (0, { (r.fls 1).2.2 with files := (r.fls 1).2.2.files.modify i fun f => ⟨f.data, f.data.length⟩ })
theorem sync_B (s : St) (n : Nm) : s.sync n = if (s.bgn (right n)).1 ≠ 0 then s.bgn (right n) else (s.bgn (right n)).2.syncB n := rfl
theorem bgn_31 {s : St} (h : s.down = false) (hr : s.rig.1 = true) : s.bgn true = (31, s.rig.2) := by rw [bgn_rig h, hr]; rfl
theorem bgn_0 {s : St} (h : s.down = false) (hr : s.rig.1 = false) : s.bgn true = (0, s.rig.2) := by rw [bgn_rig h, hr]; rfl

section
variable {w w' : World} {D : Nat} {s : St} {L : RL}
/-- A file of the disk is written. -/
theorem RDL.updFile (h : RDL w D s L) {i : Nat} {f f' : FV} {b : Nat} {d d' : Option Addr × Nat}
    (hf : s.files[i]? = some f) (hb : L.fb[i]? = some b) (hd : L.fd[i]? = some d) (hk : Keep (fun k => k = b ∨ bk d.1 = some k) w w') (hb' : w'.heap[b]? = some (.cells (fileC f' d') 90 (0, 0)))
    (ho : Own w' 5 1 d'.1 f'.data.length d'.2 (BV f'.data)) (hn : ∀ k, bk d'.1 = some k → bk d.1 = some k ∨ w.heap.size ≤ k) : RDL w' D { s with files := s.files.set i f' } { L with fd := L.fd.set i d' } := by
  have hin : footF L.fb L.fd b := .inl (List.mem_of_getElem? hb)
  have hin2 : ∀ k, bk d.1 = some k → footF L.fb L.fd k := fun k hk => .inr ⟨d, List.mem_of_getElem? hd, hk⟩
  have hobj : ∀ k, (k = b ∨ bk d.1 = some k) → ∃ cs t, w.heap[k]? = some (.cells cs t (0, 0)) ∧ (t = 90 ∨ t = 5) := by
    rintro k (rfl | hk)
    · exact h.files.obj k hin
    · exact h.files.obj k (hin2 k hk)
  refine ⟨?_, ?_, h.files.upd (by decide) hf hb hd hk hb' ho hn, ?_, ?_, ?_, h.apart⟩
  · have := (hk.block D (lt_blk h.disk) fun h1 => ?_).trans h.disk
    · rw [this]
      simp only [diskR, List.length_set]
    · obtain ⟨cs, t, h2, ht⟩ := hobj D h1
      exact ne_type h2 h.disk (by rcases ht with rfl | rfl <;> decide) rfl
  · have := h.ptrs.keep hk fun k hk1 h1 => by
      obtain ⟨cs, t, h2, ht⟩ := hobj _ h1
      exact h.ptrs.ne_blk h2 (by rcases ht with rfl | rfl <;> decide) hk1
    simp only [List.length_set]
    exact this
  · exact h.now.keep hk fun k hk1 h1 => by
      obtain ⟨cs, t, h2, ht⟩ := hobj _ h1
      exact h.now.ne_blk h2 (by rcases ht with rfl | rfl <;> decide) hk1
  · exact h.sure.keep hk fun k hk1 h1 => by
      obtain ⟨cs, t, h2, ht⟩ := hobj _ h1
      exact h.sure.ne_blk h2 (by rcases ht with rfl | rfl <;> decide) hk1
  · exact h.chs.keep hk fun k hk1 h1 => by
      obtain ⟨cs, t, h2, ht⟩ := hobj _ h1
      exact h.chs.ne_blk h2 (by rcases ht with rfl | rfl <;> decide) hk1
theorem RDL.at (h : RDL w D s L) {i : Nat} (hi : i < s.files.length) : ∃ f b d, s.files[i]? = some f ∧ L.fb[i]? = some b ∧ L.fd[i]? = some d ∧ ptrV L.fb i = .pointer (some ⟨b, 0, none⟩) ∧
    w.heap[b]? = some (.cells (fileC f d) 90 (0, 0)) ∧ Own w 5 1 d.1 f.data.length d.2 (BV f.data) := h.files.at hi
end

set_option maxRecDepth 100000 in
set_option maxHeartbeats 2000000 in
theorem syncR_any {w : World} {D : Nat} {s : St} {L : RL} (h : RDL w D s L) (hw : Wf s) (n : Nm) (hn : n.size ≤ 140737488355328) :
    Calls Try.prog 52 #[.pointer (some ⟨D, 0, none⟩), .string n] w fun e w' => e = .returned (.int .i64 (s.sync n).1) ∧ DidR w D L (s.sync n).2 w' := by
  have c9 : w.cell? ⟨D, 9, none⟩ = some (.bool s.down) := h.cell 9 rfl
  have H := Lib.hid h
  have Hw := Lib.hid hw
  clear h hw
  cases hd : s.down with
  | true =>
    have hfin : Hid (s.sync n = (30, s)) := by simp [Hid, St.sync, bgn_dn hd]
    rw [hd] at c9
    clear hd
    go_enter Try.func52, Try.ntmps52
    go_wp2_with fail
    go_ret
    rw [hfin.out]
    exact ⟨rfl, DidR.same H.out (Keep.refl _ _)⟩
  | false =>
    rw [hd] at c9
    cases hr : right n with
    | false =>
      have hfin : Hid (s.sync n = (33, s)) := by simp [Hid, St.sync, hr, bgn_nm hd]
      have hok := okB_any n w hn
      rw [hr] at hok
      have Hok := Lib.hid hok
      clear hd hr hok
      go_enter Try.func52, Try.ntmps52
      go_wp2_with fail
      refine Hok.out.mono ?_
      rintro e w1 ⟨rfl, rfl⟩
      go_wp2_with fail
      go_ret
      rw [hfin.out]
      exact ⟨rfl, DidR.same H.out (Keep.refl _ _)⟩
    | true =>
      have hok := okB_any n w hn
      rw [hr] at hok
      have Hok := Lib.hid hok
      have hrg := rigged_any H.out Hw.out.bwell Hw.out.bfails
      have hw1 := Lib.hid (rig_wf Hw.out)
      have hs31 : s.rig.1 = true → s.sync n = (31, s.rig.2) := fun h => by rw [sync_B, hr, bgn_31 hd h]; rfl
      have hs0 : s.rig.1 = false → s.sync n = s.rig.2.syncB n := fun h => by rw [sync_B, hr, bgn_0 hd h]; rfl
      generalize hR : s.rig = r at *
      have Hrg := Lib.hid hrg
      have Hs31 := Lib.hid hs31
      have Hs0 := Lib.hid hs0
      clear hd hr hok hrg hR hs31 hs0
      go_enter Try.func52, Try.ntmps52
      go_wp2_with fail
      refine Hok.out.mono ?_
      rintro e w1 ⟨rfl, rfl⟩
      go_wp2_with fail
      refine Hrg.out.mono ?_
      rintro e w1 ⟨rfl, h1, k1⟩
      cases hr1 : r.1 with
      | true =>
        have hfin : Hid (s.sync n = (31, r.2)) := Hs31.out hr1
        have H1 := Lib.hid h1
        have K1 := Lib.hid k1
        clear h1 k1
        go_wp2_with fail
        go_ret
        rw [hfin.out]
        exact ⟨rfl, DidR.same H1.out K1.out⟩
      | false =>
        have hsy2 : Hid (s.sync n = r.2.syncB n) := Hs0.out hr1
        have hat := at_any h1 hw1.out n
        have H1 := Lib.hid h1
        have K1 := Lib.hid k1
        clear h1 k1
        cases hg : get r.2.now n with
        | none =>
          have hfin : Hid (s.sync n = (34, r.2)) := by unfold Hid; rw [hsy2.out, St.syncB, hg]
          rw [hg] at hat
          simp only [atV] at hat
          have Hat := Lib.hid hat
          clear hat hg
          go_wp2_with fail
          refine Hat.out.mono ?_
          rintro e w2 ⟨rfl, m, rfl⟩
          go_wp2_with fail
          go_ret
          rw [hfin.out]
          exact ⟨rfl, DidR.same (H1.out.keepNo ((Keep.refl No w1).drewN m)) (K1.out.drewN m)⟩
        | some i =>
          have hi : i < r.2.files.length := hw1.out.idxN _ (get_mem hg)
          obtain ⟨f, b, d, hf, hb, hdd, hp, hblk, hown⟩ := H1.out.at hi
          rw [hg] at hat
          simp only [atV, hp] at hat
          have Hat := Lib.hid hat
          have hsy3 : Hid (s.sync n = if (r.2.fls 1).2.1 then (30, (r.2.fls 1).2.2) else (0, { (r.2.fls 1).2.2 with files := (r.2.fls 1).2.2.files.modify i fun f => ⟨f.data, f.data.length⟩ })) := by unfold Hid; rw [hsy2.out, St.syncB, hg]
          have Hb := Lib.hid hb
          have hfl := Lib.hid (fls_files r.2 1)
          have hF := fun m => fallsR_any (H1.out.keepNo ((Keep.refl No w1).drewN m)) hw1.out.bleft 1 (by omega) (by omega)
          simp only [Int.toNat_one] at hF
          generalize hq : r.2.fls 1 = q at *
          have HF := Lib.hid hF
          have hi := Lib.hid hi
          clear hat hg hf hb hdd hp hblk hown hq hF hsy2
          go_wp2_with fail
          refine Hat.out.mono ?_
          rintro e w2 ⟨rfl, m, rfl⟩
          go_wp2_with fail
          refine (HF.out m).mono ?_
          rintro e w2 ⟨rfl, h2, k2⟩
          have k2 : Keep (fun k => k = D) w1 w2 := ((Keep.refl (fun k => k = D) w1).drewN m).trans' k2
          cases hq2 : q.2.1 with
          | true =>
            have hfin : Hid (s.sync n = (30, q.2.2)) := by unfold Hid; rw [hsy3.out, hq2]; rfl
            have H2 := Lib.hid h2
            have K2 := Lib.hid k2
            clear h2 k2
            go_wp2_with fail
            go_ret
            rw [hfin.out]
            exact ⟨rfl, DidR.same H2.out (K1.out.trans' K2.out)⟩
          | false =>
            obtain ⟨f2, b2, d2, hf2, hb2, hd2, _, hblk2, hown2⟩ := h2.at (i := i) (by rw [hfl.out.1]; exact hi.out)
            rw [Hb.out] at hb2; cases hb2
            have c0 : w2.cell? ⟨b, 0, none⟩ = some (.slice d2.1 f2.data.length d2.2) := (cell_blk hblk2 0).trans rfl
            have cc1 : w2.cell? ⟨b, 1, none⟩ = some (.int .i64 f2.sure) := (cell_blk hblk2 1).trans rfl
            have z1 : w2.frozen? ⟨b, 1, none⟩ = false := froz_blk hblk2 1
            have hfin : Hid (s.sync n = (0, { q.2.2 with files := q.2.2.files.set i ⟨f2.data, f2.data.length⟩ })) := by
              unfold Hid
              rw [hsy3.out, hq2, ← modify_eq_set _ _ (fun f => ⟨f.data, f.data.length⟩) f2 hf2]
              rfl
            have Hf2 := Lib.hid hf2
            have Hd2 := Lib.hid hd2
            have Hblk2 := Lib.hid hblk2
            have Hown2 := Lib.hid hown2
            have H2 := Lib.hid h2
            have K2 := Lib.hid k2
            clear h2 k2 hf2 hd2 hblk2 hown2
            go_wp2_with fail
            go_ret
            rw [hfin.out]
            have k3 := (Keep.refl (fun k => k = b ∨ bk d2.1 = some k) w2).setAt (.inl rfl) 1 (.int .i64 f2.data.length)
            have hsame : L.fd.set i d2 = L.fd := by
              apply List.ext_getElem?
              intro j
              rw [List.getElem?_set]
              split
              · rename_i e; subst e; split
                · exact Hd2.out.symm
                · rename_i h; exact absurd (List.getElem?_eq_some_iff.1 Hd2.out).1 h
              · rfl
            refine ⟨rfl, { L with fd := L.fd.set i d2 }, H2.out.updFile Hf2.out Hb.out Hd2.out k3 (set_blk Hblk2.out 1 _) ?_ (fun k hk => .inl hk), ?_, ?_⟩
            · exact Hown2.out.same (S := fun k => k ≠ b) (fun k hk => set_far hk _) fun k hk e => by subst e; exact Hown2.out.ne_blk Hblk2.out (by decide) hk
            · refine ((K1.out.trans' K2.out).mono fun k _ e => .inl e).trans k3 fun k _ e => ?_
              rcases e with rfl | e
              · exact .inr (.inr (.inr (.inr (.inr (.inl (List.mem_of_getElem? Hb.out))))))
              · exact .inr (.inr (.inr (.inr (.inr (.inr ⟨d2, List.mem_of_getElem? Hd2.out, e⟩)))))
            · intro k hk
              rw [hsame] at hk
              exact .inl hk

end Go.Dx

namespace Go.Dx
open Go.RowKit Go.Proofs

theorem rcV_one (c : Ch) : ∀ u ∈ rcV c, u.oneCell' = true := by
  cases c <;> simp [rcV, Value.oneCell']
theorem rcsV_snoc (l : List Ch) (c : Ch) : rcsV (l ++ [c]) = rcsV l ++ rcV c := by simp [rcsV]

section
variable {w w' : World} {D : Nat} {s : St} {L : RL}
/-- Two rows of a disk never share a block. -/
theorem RDL.rows (h : RDL w D s L) : (∀ k, bk L.nA = some k → bk L.fA ≠ some k) ∧ (∀ k, bk L.nA = some k → bk L.cA ≠ some k) ∧ (∀ k, bk L.sA = some k → bk L.fA ≠ some k) ∧ (∀ k, bk L.sA = some k → bk L.cA ≠ some k) ∧ (∀ k, bk L.cA = some k → bk L.fA ≠ some k) :=
  ⟨h.now.ne h.ptrs (by decide), h.now.ne h.chs (by decide), h.sure.ne h.ptrs (by decide), h.sure.ne h.chs (by decide), h.chs.ne h.ptrs (by decide)⟩
theorem RDL.rowF (h : RDL w D s L) : ∀ k, footF L.fb L.fd k → bk L.nA ≠ some k ∧ bk L.sA ≠ some k ∧ bk L.cA ≠ some k ∧ bk L.fA ≠ some k := by
  intro k hk
  obtain ⟨cs, t, hb, ht⟩ := h.files.obj k hk
  refine ⟨?_, ?_, ?_, ?_⟩
  · exact h.now.ne_blk hb (by rcases ht with rfl | rfl <;> decide)
  · exact h.sure.ne_blk hb (by rcases ht with rfl | rfl <;> decide)
  · exact h.chs.ne_blk hb (by rcases ht with rfl | rfl <;> decide)
  · exact h.ptrs.ne_blk hb (by rcases ht with rfl | rfl <;> decide)
/-- The directory and the changes are written; the files, and the sure directory, are not. -/
theorem RDL.reDir (h : RDL w D s L) {s' : St} {nA' : Option Addr} {nC' : Nat} {cA' : Option Addr} {cC' : Nat} (hk : Keep (fun k => k = D ∨ bk L.nA = some k ∨ bk L.cA = some k) w w')
    (hd : w'.heap[D]? = some (.cells (diskR s' { L with nA := nA', nC := nC', cA := cA', cC := cC' }) 85 (0, 0))) (hn : Own w' 88 2 nA' s'.now.length nC' (eVs s'.now)) (hc : Own w' 116 4 cA' s'.changes.length cC' (rcsV s'.changes))
    (hnA : ∀ k, bk nA' = some k → bk L.nA = some k ∨ w.heap.size ≤ k) (e1 : s'.files = s.files) (e3 : s'.sure = s.sure) : RDL w' D s' { L with nA := nA', nC := nC', cA := cA', cC := cC' } := by
  refine ⟨hd, ?_, ?_, hn, ?_, hc, ?_⟩
  · rw [e1]
    exact h.ptrs.keep hk fun k hk1 e => by
      rcases e with e | e | e
      · exact h.neD k (.inl hk1) e
      · exact h.rows.1 k e hk1
      · exact h.rows.2.2.2.2 k e hk1
  · rw [e1]
    exact h.files.same (S := footF L.fb L.fd) (fun k hk1 => hk.block k (h.files.lt k hk1) (by
      rintro (e | e | e)
      · exact h.neD k (.inr (.inr (.inr (.inr hk1)))) e
      · exact (h.rowF k hk1).1 e
      · exact (h.rowF k hk1).2.2.1 e)) fun _ h => h
  · rw [e3]
    exact h.sure.keep hk fun k hk1 e => by
      rcases e with e | e | e
      · exact h.neD k (.inr (.inr (.inl hk1))) e
      · exact h.apart k e hk1
      · exact h.rows.2.2.2.1 k hk1 e
  · intro k hk1 hk2
    rcases hnA k hk1 with e | e
    · exact h.apart k e hk2
    · have := h.sure.lt hk2; omega
end

end Go.Dx

namespace Go.Dx
open Go.RowKit Go.Proofs

def St.deleteB (r : St) (n : Nm) : Int × St :=
  if (get r.now n).isNone then (34, r) else if (r.fls 1).2.1 then (30, (r.fls 1).2.2) else (0, { (r.fls 1).2.2 with now := rem (r.fls 1).2.2.now n, changes := (r.fls 1).2.2.changes ++ [.del n] })
theorem delete_B (s : St) (n : Nm) : s.delete n = if (s.bgn (right n)).1 ≠ 0 then s.bgn (right n) else (s.bgn (right n)).2.deleteB n := rfl

set_option maxRecDepth 100000 in
set_option maxHeartbeats 4000000 in
theorem deleteR_any {w : World} {D : Nat} {s : St} {L : RL} (h : RDL w D s L) (hw : Wf s) (hch : s.changes.length ≤ 1000000) (n : Nm) (hn : n.size ≤ 140737488355328) :
    Calls Try.prog 54 #[.pointer (some ⟨D, 0, none⟩), .string n] w fun e w' => e = .returned (.int .i64 (s.delete n).1) ∧ DidR w D L (s.delete n).2 w' := by
  have c9 : w.cell? ⟨D, 9, none⟩ = some (.bool s.down) := h.cell 9 rfl
  have H := Lib.hid h
  have Hw := Lib.hid hw
  clear h hw
  cases hd : s.down with
  | true =>
    have hfin : Hid (s.delete n = (30, s)) := by simp [Hid, St.delete, bgn_dn hd]
    rw [hd] at c9
    clear hd
    go_enter Try.func54, Try.ntmps54
    go_wp2_with fail
    go_ret
    rw [hfin.out]
    exact ⟨rfl, DidR.same H.out (Keep.refl _ _)⟩
  | false =>
    rw [hd] at c9
    cases hr : right n with
    | false =>
      have hfin : Hid (s.delete n = (33, s)) := by simp [Hid, St.delete, hr, bgn_nm hd]
      have hok := okB_any n w hn
      rw [hr] at hok
      have Hok := Lib.hid hok
      clear hd hr hok
      go_enter Try.func54, Try.ntmps54
      go_wp2_with fail
      refine Hok.out.mono ?_
      rintro e w1 ⟨rfl, rfl⟩
      go_wp2_with fail
      go_ret
      rw [hfin.out]
      exact ⟨rfl, DidR.same H.out (Keep.refl _ _)⟩
    | true =>
      have hok := okB_any n w hn
      rw [hr] at hok
      have Hok := Lib.hid hok
      have hrg := rigged_any H.out Hw.out.bwell Hw.out.bfails
      have hw1 := Lib.hid (rig_wf Hw.out)
      have hrf := Lib.hid (rig_files s)
      have hs31 : s.rig.1 = true → s.delete n = (31, s.rig.2) := fun h => by rw [delete_B, hr, bgn_31 hd h]; rfl
      have hs0 : s.rig.1 = false → s.delete n = s.rig.2.deleteB n := fun h => by rw [delete_B, hr, bgn_0 hd h]; rfl
      generalize hR : s.rig = r at *
      have Hrg := Lib.hid hrg
      have Hs31 := Lib.hid hs31
      have Hs0 := Lib.hid hs0
      clear hd hr hok hrg hR hs31 hs0
      go_enter Try.func54, Try.ntmps54
      go_wp2_with fail
      refine Hok.out.mono ?_
      rintro e w1 ⟨rfl, rfl⟩
      go_wp2_with fail
      refine Hrg.out.mono ?_
      rintro e w1 ⟨rfl, h1, k1⟩
      cases hr1 : r.1 with
      | true =>
        have hfin : Hid (s.delete n = (31, r.2)) := Hs31.out hr1
        have H1 := Lib.hid h1
        have K1 := Lib.hid k1
        clear h1 k1
        go_wp2_with fail
        go_ret
        rw [hfin.out]
        exact ⟨rfl, DidR.same H1.out K1.out⟩
      | false =>
        have hsy2 : Hid (s.delete n = r.2.deleteB n) := Hs0.out hr1

        have hat := at_any h1 hw1.out n
        have H1 := Lib.hid h1
        have K1 := Lib.hid k1
        clear h1 k1
        cases hg : get r.2.now n with
        | none =>
          have hfin : Hid (s.delete n = (34, r.2)) := by unfold Hid; rw [hsy2.out, St.deleteB, hg]; rfl
          rw [hg] at hat
          simp only [atV] at hat
          have Hat := Lib.hid hat
          clear hat hg
          go_wp2_with fail
          refine Hat.out.mono ?_
          rintro e w2 ⟨rfl, m, rfl⟩
          go_wp2_with fail
          go_ret
          rw [hfin.out]
          exact ⟨rfl, DidR.same (H1.out.keepNo ((Keep.refl No w1).drewN m)) (K1.out.drewN m)⟩
        | some i =>
          rw [hg] at hat
          simp only [atV, ptrV] at hat
          have Hat := Lib.hid hat
          have hsy3 : Hid (s.delete n = if (r.2.fls 1).2.1 then (30, (r.2.fls 1).2.2) else (0, { (r.2.fls 1).2.2 with now := rem (r.2.fls 1).2.2.now n, changes := (r.2.fls 1).2.2.changes ++ [.del n] })) := by unfold Hid; rw [hsy2.out, St.deleteB, hg]; rfl
          have hfl := Lib.hid (fls_files r.2 1)
          have hF := fun m => fallsR_any (H1.out.keepNo ((Keep.refl No w1).drewN m)) hw1.out.bleft 1 (by omega) (by omega)
          simp only [Int.toNat_one] at hF
          generalize hq : r.2.fls 1 = q at *
          have HF := Lib.hid hF
          clear hat hg hq hF hsy2
          go_wp2_with fail
          refine Hat.out.mono ?_
          rintro e w2 ⟨rfl, m, rfl⟩
          go_wp2_with fail
          refine (HF.out m).mono ?_
          rintro e w2 ⟨rfl, h2, k2⟩
          have k2 : Keep (fun k => k = D) w1 w2 := ((Keep.refl (fun k => k = D) w1).drewN m).trans' k2
          have H2 := Lib.hid h2
          have K2 := Lib.hid (K1.out.trans' k2)
          clear h2 k2
          cases hq2 : q.2.1 with
          | true =>
            have hfin : Hid (s.delete n = (30, q.2.2)) := by unfold Hid; rw [hsy3.out, hq2]; rfl
            go_wp2_with fail
            go_ret
            rw [hfin.out]
            exact ⟨rfl, DidR.same H2.out K2.out⟩
          | false =>
            have hfin : Hid (s.delete n = (0, { q.2.2 with now := rem q.2.2.now n, changes := q.2.2.changes ++ [.del n] })) := by unfold Hid; rw [hsy3.out, hq2]; rfl
            have hnl := hw1.out.nlen
            rw [← hfl.out.2.1] at hnl
            have hwo := without_any H2.out.now (by rw [hfl.out.2.1]; exact hw1.out.sdN) (by omega) n
            have c2 : w2.cell? ⟨D, 2, none⟩ = some (.slice L.nA q.2.2.now.length L.nC) := H2.out.cell 2 rfl
            have Hwo := Lib.hid hwo
            clear hwo
            go_wp2_with fail
            refine Hwo.out.mono ?_
            rintro e w3 ⟨A', c', rfl, hO3, hk3, hA3⟩
            have hD3 : w3.heap[D]? = some (.cells (diskR q.2.2 L) 85 (0, 0)) := (hk3.block D (lt_blk H2.out.disk) (H2.out.now.ne_blk H2.out.disk (by decide))).trans H2.out.disk
            have d2 : w3.cell? ⟨D, 2, none⟩ = some (.slice L.nA q.2.2.now.length L.nC) := (cell_blk hD3 2).trans rfl
            have d4 : w3.cell? ⟨D, 4, none⟩ = some (.slice L.cA q.2.2.changes.length L.cC) := (cell_blk hD3 4).trans rfl
            have z2 : w3.frozen? ⟨D, 2, none⟩ = false := froz_blk hD3 2
            have hC3 := H2.out.chs.keep hk3 fun k hk e => H2.out.rows.2.1 k e hk
            have hD4 := set_blk hD3 2 (.slice A' (rem q.2.2.now n).length c')
            have hk4 := (Keep.refl (fun k => k = D) w3).setAt rfl 2 (.slice A' (rem q.2.2.now n).length c')
            have hC4 := hC3.keep hk4 fun k hk e => H2.out.neD k (.inr (.inr (.inr (.inl hk)))) e
            have hO4 := hO3.keep hk4 fun k hk e => hO3.ne_blk hD3 (by decide) (by rw [← e]; exact hk)
            have hcl : q.2.2.changes.length ≤ 1000000 := by rw [hfl.out.2.2.2.1, hrf.out.2.2.2.1]; exact hch
            have HD4 := Lib.hid hD4
            have Hk4 := Lib.hid hk4
            have HC4 := Lib.hid hC4
            have HO4 := Lib.hid hO4
            have Hk3 := Lib.hid hk3
            have HA3 := Lib.hid hA3
            clear hD4 hk4 hC4 hC3 hD3 hk3 hA3 hO3 hO4
            have d4' : (w3.setCell ⟨D, 2, none⟩ (.slice A' (rem q.2.2.now n).length c')).cell? ⟨D, 4, none⟩ = some (.slice L.cA q.2.2.changes.length L.cC) := (cell_blk HD4.out 4).trans rfl
            go_wp2_with (
              (have hsz5 : (w3.setCell ⟨D, 2, none⟩ (.slice A' (rem q.2.2.now n).length c')).heap.size = w3.heap.size := by simp [World.setCell]
               have hnw5 : ((w3.setCell ⟨D, 2, none⟩ (.slice A' (rem q.2.2.now n).length c')).alloc (.cells #[.int .i64 3, .string n, .string ByteArray.empty, .int .i64 0] 116)).heap[w3.heap.size]? = some (.cells #[.int .i64 3, .string n, .string ByteArray.empty, .int .i64 0] 116 (0, 0)) := by
                 have h := alloc_new (w3.setCell ⟨D, 2, none⟩ (.slice A' (rem q.2.2.now n).length c')) (.cells #[.int .i64 3, .string n, .string ByteArray.empty, .int .i64 0] 116)
                 rw [hsz5] at h
                 exact h
               have hR5 : Rd ((w3.setCell ⟨D, 2, none⟩ (.slice A' (rem q.2.2.now n).length c')).alloc (.cells #[.int .i64 3, .string n, .string ByteArray.empty, .int .i64 0] 116)) (fun k => k = w3.heap.size) (some ⟨w3.heap.size, 0, none⟩) [.int .i64 3, .string n, .string ByteArray.empty, .int .i64 0] := fun _ => ⟨_, 0, rfl, rfl, Run.of_blk hnw5⟩
               have hO5 := HC4.out.keep ((Keep.refl No _).alloc (.cells #[.int .i64 3, .string n, .string ByteArray.empty, .int .i64 0] 116)) fun _ _ h => h
               refine wpList_app (by rfl) (.tmp 39) (.tmp 42) 83 83 rfl hO5 Try.underlying83 info116 rfl (by omega) rfl rfl (src_rd (news := [.int .i64 3, .string n, .string ByteArray.empty, .int .i64 0]) (m := 1) Try.underlying83 hR5 rfl (by omega) (by intro u hu; simp at hu; rcases hu with rfl | rfl | rfl | rfl <;> rfl)) (by unfold maxLen; omega) (by omega) ?_
               intro A5 c5 w5 hO6 hK6 hA6
               have hk46 : Keep (fun k => bk L.cA = some k) (w3.setCell ⟨D, 2, none⟩ (.slice A' (rem q.2.2.now n).length c')) w5 := ((Keep.refl (fun k => bk L.cA = some k) _).alloc (.cells #[.int .i64 3, .string n, .string ByteArray.empty, .int .i64 0] 116)).trans' (hK6.mono fun k _ e => e.symm)
               have hD5 := (hk46.block D (lt_blk HD4.out) (H2.out.chs.ne_blk H2.out.disk (by decide))).trans HD4.out
               have d45 : w5.cell? ⟨D, 4, none⟩ = some (.slice L.cA q.2.2.changes.length L.cC) := (cell_blk hD5 4).trans rfl
               have z45 : w5.frozen? ⟨D, 4, none⟩ = false := froz_blk hD5 4
               have HD5 := Lib.hid hD5
               have HO6 := Lib.hid hO6
               have HK6 := Lib.hid hK6
               have HA6 := Lib.hid hA6
               have Hk46 := Lib.hid hk46
               clear hR5 hnw5 hsz5 hO5 hO6 hK6 hA6 hk46 hD5))
            go_ret
            rw [hfin.out]
            have k6 := (Keep.refl (fun k => k = D) w5).setAt rfl 4 (.slice A5 (q.2.2.changes.length + 1) c5)
            have hO56 := HO4.out.keep Hk46.out fun k hk e => HO4.out.ne HC4.out (by decide) k hk e
            have hO57 := hO56.keep k6 fun k hk e => hO56.ne_blk HD5.out (by decide) (by rw [← e]; exact hk)
            have hC57 := HO6.out.keep k6 fun k hk e => HO6.out.ne_blk HD5.out (by decide) (by rw [← e]; exact hk)
            have kall : Keep (fun k => k = D ∨ bk L.nA = some k ∨ bk L.cA = some k) w2 (w5.setCell ⟨D, 4, none⟩ (.slice A5 (q.2.2.changes.length + 1) c5)) :=
              (((Hk3.out.mono fun k _ e => .inr (.inl e)).trans' (Hk4.out.mono fun k _ e => .inl e)).trans' (Hk46.out.mono fun k _ e => .inr (.inr e))).trans' (k6.mono fun k _ e => .inl e)
            have hs3 := Hk3.out.size
            have hs4 := Hk4.out.size
            have hs5 := Hk46.out.size
            have hs6 := k6.size
            have hs0 := K2.out.size
            refine ⟨rfl, { L with nA := A', nC := c', cA := A5, cC := c5 }, H2.out.reDir (s' := { q.2.2 with now := rem q.2.2.now n, changes := q.2.2.changes ++ [.del n] }) kall ?_ hO57 ?_ (fun k hk => ?_) rfl rfl, ?_, ?_⟩
            · have h := set_blk HD5.out 4 (.slice A5 (q.2.2.changes.length + 1) c5)
              rw [h]
              simp only [diskR, List.length_append, List.length_cons, List.length_nil]
              rfl
            · rw [rcsV_snoc, List.length_append]
              exact hC57
            · rcases HA3.out k hk with e | e
              · exact .inl e
              · exact .inr e.1
            · refine (K2.out.mono fun k _ e => .inl e).trans' (kall.mono fun k _ e => ?_)
              rcases e with e | e | e
              · exact .inl e
              · exact .inr (.inr (.inl e))
              · exact .inr (.inr (.inr (.inr (.inl e))))
            · rintro k (e | e | e | e | e | e)
              · exact .inl (.inl e)
              · exact .inl (.inr (.inl e))
              · rcases HA3.out k e with e | e
                · exact .inl (.inr (.inr (.inl e)))
                · exact .inr ⟨Nat.le_trans hs0 e.1, by have := e.2; omega⟩
              · exact .inl (.inr (.inr (.inr (.inl e))))
              · rcases HA6.out with e2 | ⟨e2, h6⟩
                · rw [e2] at e
                  exact .inl (.inr (.inr (.inr (.inr (.inl e)))))
                · right
                  rw [e2] at e
                  have hszS : (w3.setCell ⟨D, 2, none⟩ (.slice A' (rem q.2.2.now n).length c')).heap.size = w3.heap.size := by simp [World.setCell]
                  rw [World.size_alloc, hszS] at h6
                  simp only [bk_some, Option.some.injEq, World.size_alloc, hszS] at e
                  exact ⟨by omega, by omega⟩
              · exact .inl (.inr (.inr (.inr (.inr (.inr e)))))

end Go.Dx
