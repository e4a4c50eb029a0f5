/- The disk as plain data: each call keeps what holds of every disk. No program in sight. No condition. The program's disk: Files, Arm, Fail. No condition. The program's disk: Image. No condition. The disk as plain data: what comes up behind a fall, and what a disk begins with. No program in sight. No condition. The program's disk: Fall. No condition. The program's disk: what New is handed. No condition. The program's disk: New. No condition. The document's disk: how it lies in memory; find. No condition. -/
import Derived.Test.YtlkgkckejfkblaaGa
import Derived.Test.YtlkgkckejfkblaaGd
namespace Go.Dx

def chOk : Ch → Prop
  | .mk n _ => right n = true
  | .ren _ b => right b = true
  | .del _ => True
structure Nms (s : St) : Prop where
  now : ∀ x ∈ s.now, right x.1 = true
  sure : ∀ x ∈ s.sure, right x.1 = true
  chs : ∀ c ∈ s.changes, chOk c
theorem right_size {n : Nm} (h : right n = true) : n.size ≤ 24 := by
  unfold right at h
  simp only [Bool.and_eq_true, decide_eq_true_eq] at h
  exact h.1.2
theorem lay1_nms {d : Dir Nat} (h : ∀ x ∈ d, right x.1 = true) {c : Ch} (hc : chOk c) : ∀ x ∈ lay1 d c, right x.1 = true := by
  intro x hx
  cases c with
  | mk n i =>
    rcases mem_ins.1 hx with rfl | ⟨hx, _⟩
    · exact hc
    · exact h x hx
  | ren a b =>
    simp only [lay1] at hx
    split at hx
    · rcases mem_ins.1 hx with rfl | ⟨hx, _⟩
      · exact hc
      · exact h x (mem_rem.1 hx).1
    · exact h x hx
  | del n => exact h x (mem_rem.1 hx).1
theorem lays_nms : ∀ (l : List Ch) (d : Dir Nat), (∀ x ∈ d, right x.1 = true) → (∀ c ∈ l, chOk c) → ∀ x ∈ lays d l, right x.1 = true
  | [], _, h, _ => h
  | c :: l, d, h, hc => lays_nms l (lay1 d c) (lay1_nms h (hc c List.mem_cons_self)) fun c' hc' => hc c' (List.mem_cons_of_mem _ hc')

/-- What holds of a disk to which at most n changes are open. -/
structure Good (s : St) (n : Nat) : Prop where
  wf : Wf s
  nm : Nms s
  ch : s.changes.length ≤ n

section
variable {s : St} {n : Nat}
theorem Good.mono (h : Good s n) {m : Nat} (hm : n ≤ m) : Good s m := ⟨h.wf, h.nm, Nat.le_trans h.ch hm⟩
theorem Nms.of (h : Nms s) {s' : St} (e2 : s'.now = s.now) (e3 : s'.sure = s.sure) (e4 : s'.changes = s.changes) : Nms s' := ⟨by rw [e2]; exact h.now, by rw [e3]; exact h.sure, by rw [e4]; exact h.chs⟩
theorem Good.bgn (h : Good s n) (ok : Bool) : Good (s.bgn ok).2 n := by
  have hb := bgn_files s ok
  exact ⟨bgn_wf h.wf ok, h.nm.of hb.2.1 hb.2.2.1 hb.2.2.2.1, by rw [hb.2.2.2.1]; exact h.ch⟩
theorem Good.fls (h : Good s n) (c : Nat) : Good (s.fls c).2.2 n := by
  have hb := fls_files s c
  exact ⟨fls_wf h.wf c, h.nm.of hb.2.1 hb.2.2.1 hb.2.2.2.1, by rw [hb.2.2.2.1]; exact h.ch⟩
theorem Good.app (h : Good s n) (i : Nat) (b : List UInt8) (hb : s.lenAt i + b.length ≤ 2147483648) : Good (s.app i b) n := ⟨app_wf h.wf i b hb, h.nm.of rfl rfl rfl, h.ch⟩

theorem bgn_right {s : St} {ok : Bool} (h : (s.bgn ok).1 = 0) : ok = true := by
  unfold St.bgn at h
  split at h
  · cases h
  · split at h
    · cases h
    · rename_i h2; simpa using h2

/-- A change is done. -/
theorem Good.chg (h : Good s n) {c : Ch} (hi : ∀ m i, c = .mk m i → i < s.files.length) (ho : chOk c) (hv : Valid s.now [c]) (hl : (lay1 s.now c).length ≤ 8388608) : Good { s with now := lay1 s.now c, changes := s.changes ++ [c] } (n + 1) := by
  have hE : lays s.sure (s.changes ++ [c]) = lay1 s.now c := by rw [lays_append, h.wf.eq]; rfl
  refine ⟨{ h.wf with sdN := lay1_sd h.wf.sdN c, idxN := lay1_idx h.wf.idxN hi, idxC := ?_, val := ?_, eq := hE, nlen := hl, pre := ?_ }, ⟨lay1_nms h.nm.now ho, h.nm.sure, ?_⟩, ?_⟩
  · intro m i hm
    rcases List.mem_append.1 hm with hm | hm
    · exact h.wf.idxC m i hm
    · exact hi m i (by simpa using (List.mem_singleton.1 hm).symm)
  · exact (valid_append _ _ _).2 ⟨h.wf.val, by rw [h.wf.eq]; exact hv⟩
  · intro k
    by_cases hk : k ≤ s.changes.length
    · simp only []
      rw [List.take_append_of_le_length hk]
      exact h.wf.pre k
    · simp only []
      rw [List.take_of_length_le (by simp; omega), hE]
      exact hl
  · intro c' hc'
    rcases List.mem_append.1 hc' with hc' | hc'
    · exact h.nm.chs c' hc'
    · rw [List.mem_singleton.1 hc']; exact ho
  · have := h.ch
    simp only [List.length_append, List.length_cons, List.length_nil]
    omega

theorem Good.create (h : Good s n) (x : Nm) : Good (s.create x).2 (n + 1) := by
  unfold St.create
  have hb := h.bgn (right x)
  have hr := @bgn_right s (right x)
  generalize s.bgn (right x) = r at *
  simp only []
  split
  · exact hb.mono (by omega)
  · rename_i h0
    split
    · exact hb.mono (by omega)
    · rename_i hg
      split
      · exact hb.mono (by omega)
      · rename_i hful
        have hq := hb.fls 1
        have hqf := fls_files r.2 1
        generalize r.2.fls 1 = q at *
        split
        · exact hq.mono (by omega)
        · have hadd : Good { q.2.2 with files := q.2.2.files ++ [⟨[], 0⟩] } n := by
            refine ⟨{ hq.wf with idxN := ?_, idxS := ?_, idxC := ?_, fsure := ?_ }, hq.nm.of rfl rfl rfl, hq.ch⟩
            · intro y hy
              have := hq.wf.idxN y hy
              simp only [List.length_append]; omega
            · intro y hy
              have := hq.wf.idxS y hy
              simp only [List.length_append]; omega
            · intro m i hm
              have := hq.wf.idxC m i hm
              simp only [List.length_append]; omega
            · intro f hf
              rcases List.mem_append.1 hf with hf | hf
              · exact hq.wf.fsure f hf
              · rw [List.mem_singleton.1 hf]; simp
          refine hadd.chg (c := .mk x q.2.2.files.length) ?_ (hr (by simpa using h0)) ?_ ?_
          · intro m i e
            injection e with _ e
            subst e
            simp
          · exact ⟨trivial, trivial⟩
          · simp only [lay1]
            rw [ins_length hq.wf.sdN]
            have h2 := hqf.2.1
            rw [h2]
            rw [Bool.not_eq_true, Option.isSome_eq_false_iff, Option.isNone_iff_eq_none] at hg
            rw [hg]
            simp only [Option.isSome_none, Bool.false_eq_true, if_false]
            omega

theorem full_bound {s : St} {i n : Nat} (h : s.full i n = false) : s.lenAt i + n ≤ 2147483648 := by
  unfold St.full at h
  simp only [Bool.or_eq_false_iff, decide_eq_false_iff_not] at h
  omega
theorem fls_lt {s : St} {c : Nat} (h : (s.fls c).2.1 = true) : (s.fls c).1 < c := by
  unfold St.fls at *
  split at h
  · cases h
  · split at h
    · cases h
    · rw [if_neg ‹_›, if_neg ‹_›]
      simp only []
      omega
theorem lenAt_of {s t : St} (e : s.files = t.files) (i : Nat) : s.lenAt i = t.lenAt i := by unfold St.lenAt; rw [e]

theorem Good.append (h : Good s n) (x : Nm) (b : List UInt8) : Good (s.append x b).2 n := by
  unfold St.append
  have hb := h.bgn (right x)
  generalize s.bgn (right x) = r at *
  simp only []
  split
  · split
    · rename_i i _
      split
      · exact hb
      · rename_i hf
        refine hb.app i _ ?_
        have := full_bound (by simpa using hf)
        rw [List.length_take]
        omega
    · exact hb
  · split
    · exact hb
    · split
      · exact hb
      · rename_i i _
        split
        · exact hb
        · rename_i hf
          have hf := full_bound (by simpa using hf)
          have hq := hb.fls (1 + b.length)
          have hqf := lenAt_of (fls_files r.2 (1 + b.length)).1 i
          have hlt := @fls_lt r.2 (1 + b.length)
          generalize r.2.fls (1 + b.length) = q at *
          split
          · rename_i hq2
            have := hlt hq2
            refine hq.app i _ ?_
            rw [hqf, List.length_take]
            omega
          · refine hq.app i _ ?_
            rw [hqf]
            exact hf

theorem Good.sync (h : Good s n) (x : Nm) : Good (s.sync x).2 n := by
  unfold St.sync
  have hb := h.bgn (right x)
  generalize s.bgn (right x) = r at *
  simp only []
  split
  · exact hb
  · split
    · exact hb
    · rename_i i _
      have hq := hb.fls 1
      generalize r.2.fls 1 = q at *
      split
      · exact hq
      · refine ⟨{ hq.wf with idxN := by simpa using hq.wf.idxN, idxS := by simpa using hq.wf.idxS, idxC := by simpa using hq.wf.idxC, fsure := ?_ }, hq.nm.of rfl rfl rfl, hq.ch⟩
        intro f hf
        simp only [] at hf
        obtain ⟨j, hj⟩ := List.mem_iff_getElem?.1 hf
        rw [List.getElem?_modify] at hj
        cases hg : q.2.2.files[j]? with
        | none => rw [hg] at hj; simp at hj
        | some g =>
          rw [hg] at hj
          have hgm := hq.wf.fsure g (List.mem_of_getElem? hg)
          by_cases e : i = j
          · simp only [if_pos e, Option.map_eq_map, Option.map_some, Option.some.injEq] at hj
            subst hj
            exact ⟨Nat.le_refl _, hgm.2⟩
          · simp only [if_neg e, Option.map_eq_map, Option.map_some, Option.some.injEq] at hj
            subst hj; exact hgm

theorem Good.rename (h : Good s n) (a b : Nm) : Good (s.rename a b).2 (n + 1) := by
  unfold St.rename
  have hb := h.bgn (right a && right b)
  have hr := @bgn_right s (right a && right b)
  generalize s.bgn (right a && right b) = r at *
  simp only []
  split
  · exact hb.mono (by omega)
  · rename_i h0
    split
    · exact hb.mono (by omega)
    · rename_i i hg
      have hq := hb.fls 1
      have hqf := (fls_files r.2 1).2.1
      generalize r.2.fls 1 = q at *
      split
      · exact hq.mono (by omega)
      · split
        · exact hq.mono (by omega)
        · rename_i hab
          have hg' : get q.2.2.now a = some i := by rw [hqf]; exact hg
          have hl : lay1 q.2.2.now (.ren a b) = ins (rem q.2.2.now a) b i := by simp only [lay1, hg']
          have := hq.chg (c := .ren a b) (fun m i e => by cases e) (by
            have := hr (by simpa using h0)
            rw [Bool.and_eq_true] at this
            exact this.2) ⟨⟨by rw [hg']; rfl, hab⟩, trivial⟩ (by
            rw [hl, ins_length (rem_sd hq.wf.sdN a)]
            have h1 := rem_length hq.wf.sdN a
            rw [hg'] at h1
            simp only [Option.isSome_some, if_true] at h1
            have h2 := hq.wf.nlen
            have h3 : 0 < q.2.2.now.length := List.length_pos_of_mem (get_mem hg')
            split <;> omega)
          rw [hl] at this
          exact this

theorem Good.delete (h : Good s n) (x : Nm) : Good (s.delete x).2 (n + 1) := by
  unfold St.delete
  have hb := h.bgn (right x)
  generalize s.bgn (right x) = r at *
  simp only []
  split
  · exact hb.mono (by omega)
  · split
    · exact hb.mono (by omega)
    · have hq := hb.fls 1
      generalize r.2.fls 1 = q at *
      split
      · exact hq.mono (by omega)
      · refine hq.chg (c := .del x) (fun m i e => by cases e) trivial ⟨trivial, trivial⟩ ?_
        have h1 := rem_length hq.wf.sdN x
        have h2 := hq.wf.nlen
        simp only [lay1]
        split at h1 <;> omega

theorem Good.syncDir (h : Good s n) : Good s.syncDir.2 n := by
  unfold St.syncDir
  have hb := h.bgn true
  generalize s.bgn true = r at *
  simp only []
  split
  · exact hb
  · have hq := hb.fls 1
    generalize r.2.fls 1 = q at *
    split
    · exact hq
    · exact ⟨{ hq.wf with sdS := hq.wf.sdN, idxS := hq.wf.idxN, idxC := (fun m i hm => by cases hm), val := trivial, eq := rfl, pre := fun k => by simp [lays]; exact hq.wf.nlen }, ⟨hq.nm.now, hq.nm.now, fun c hc => by cases hc⟩, Nat.zero_le _⟩

theorem Good.arm (h : Good s n) (a : Int) (ha : a < 9223372036854775808) : Good (s.arm a) n := ⟨{ h.wf with bleft := by simp only [St.arm]; omega }, h.nm.of rfl rfl rfl, h.ch⟩
theorem Good.fail (h : Good s n) (a b c : Int) (ha : a < 9223372036854775808) (hb : b < 9223372036854775808) (hc : c < 9223372036854775808) : Good (s.fail a b c) n :=
  ⟨{ h.wf with bwell := by simp only [St.fail]; omega, bfails := by simp only [St.fail]; omega, bpart := by simp only [St.fail]; omega }, h.nm.of rfl rfl rfl, h.ch⟩
theorem rest_len (h : Wf s) (dir : Int) : (s.rest dir).length ≤ 8388608 := h.pre _
theorem rest_nms (h : Nms s) (dir : Int) : ∀ x ∈ s.rest dir, right x.1 = true := lays_nms _ _ h.sure fun c hc => h.chs c (List.mem_of_mem_take hc)
end

end Go.Dx

namespace Go.Dx
open Go.RowKit Go.Proofs

def ToldR (w : World) (l : List FT) (e : Ending) (w' : World) : Prop := ∃ A c ds, e = .returned (.slice A l.length c) ∧ Told w' l A c ds ∧ Keep No w w' ∧ ∀ k, footT A ds k → New w w' k

set_option maxRecDepth 100000 in
set_option maxHeartbeats 1000000 in
theorem files_any {w : World} {D : Nat} {s : St} {L : PL} {n : Nat} (h : PDL w D s L) (hg : Good s n) :
    Calls Try.prog 12 #[.pointer (some ⟨D, 0, none⟩)] w (ToldR w s.filesOf) := by
  have c1 : w.cell? ⟨D, 1, none⟩ = some (.map (some L.m1)) := h.cell 1 rfl
  have hT := told_any h.now h.files hg.wf.sdN hg.wf.idxN (fun f hf => (hg.wf.fsure f hf).2) (fun x hx => right_size (hg.nm.now x hx)) hg.wf.nlen
  have HT := Lib.hid hT
  clear hT h hg
  go_enter Try.func12, Try.ntmps12
  go_wp2_with fail
  refine HT.out.mono ?_
  rintro e w1 ⟨A, c, ds, rfl, hT, hk, hn⟩
  have hl : s.filesOf.length = s.now.length := by simp [St.filesOf, St.told]
  go_wp2_with fail
  go_ret
  exact ⟨A, c, ds, by rw [hl]; rfl, hT, hk, hn⟩

theorem PDL.reNums {w : World} {D : Nat} {s : St} {L : PL} (h : PDL w D s L) {s' : St} {w' : World} (hk : Keep (fun k => k = D) w w') (hd : w'.heap[D]? = some (.cells (diskC s' L) 80 (0, 0)))
    (e1 : s'.files = s.files) (e2 : s'.now = s.now) (e3 : s'.sure = s.sure) (e4 : s'.changes = s.changes) : Did w D L s' w' := Did.same (h.reDisk hk hd e1 e2 e3 e4) hk

set_option maxRecDepth 100000 in
set_option maxHeartbeats 1000000 in
theorem arm_any {w : World} {D : Nat} {s : St} {L : PL} (h : PDL w D s L) (a : Int) :
    Calls Try.prog 33 #[.pointer (some ⟨D, 0, none⟩), .int .i64 a] w fun e w' => e = .returned (.tuple #[]) ∧ Did w D L (s.arm a) w' := by
  have c4 : w.cell? ⟨D, 4, none⟩ = some (.int .i64 s.left) := h.cell 4 rfl
  have z4 := h.froz 4
  have H := Lib.hid h
  clear h
  go_enter Try.func33, Try.ntmps33
  go_wp2_with fail
  go_end0
  refine ⟨rfl, H.out.reNums ((Keep.refl (fun k => k = D) w).setAt rfl 4 (.int .i64 (max a 0))) ?_ rfl rfl rfl rfl⟩
  rw [← Int.toNat_eq_max]
  exact set_blk H.out.disk 4 _

set_option maxRecDepth 100000 in
set_option maxHeartbeats 1000000 in
theorem fail_any {w : World} {D : Nat} {s : St} {L : PL} (h : PDL w D s L) (a b c : Int) :
    Calls Try.prog 37 #[.pointer (some ⟨D, 0, none⟩), .int .i64 a, .int .i64 b, .int .i64 c] w fun e w' => e = .returned (.tuple #[]) ∧ Did w D L (s.fail a b c) w' := by
  have c5 : w.cell? ⟨D, 5, none⟩ = some (.int .i64 s.well) := h.cell 5 rfl
  have c6 : w.cell? ⟨D, 6, none⟩ = some (.int .i64 s.fails) := h.cell 6 rfl
  have c7 : w.cell? ⟨D, 7, none⟩ = some (.int .i64 s.part) := h.cell 7 rfl
  have z5 := h.froz 5
  have z6 := h.froz 6
  have z7 := h.froz 7
  have H := Lib.hid h
  clear h
  go_enter Try.func37, Try.ntmps37
  go_wp2_with fail
  go_end0
  have k := (((Keep.refl (fun k => k = D) w).setAt rfl 5 (.int .i64 (max a 0))).setAt rfl 6 (.int .i64 (max b 0))).setAt rfl 7 (.int .i64 (max c 0))
  refine ⟨rfl, H.out.reNums k ?_ rfl rfl rfl rfl⟩
  rw [← Int.toNat_eq_max, ← Int.toNat_eq_max, ← Int.toNat_eq_max]
  exact set_blk (set_blk (set_blk H.out.disk 5 (.int .i64 a.toNat)) 6 (.int .i64 b.toNat)) 7 (.int .i64 c.toNat)

/-- One more write: the i-th file of a list is cut to its first n bytes. -/
theorem Own.cutTo {w : World} {e : TypeId} {A : Option Addr} {n c : Nat} {xs : List Value} (h : Own w e 1 A n c xs) (m : Nat) (hm : m ≤ n) : Own w e 1 A m m (xs.take m) := by
  refine ⟨by rw [List.length_take, h.1]; omega, ?_⟩
  rcases h.2 with ⟨rfl, rfl, rfl⟩ | ⟨g, cur, rfl, hg, h1, h2, h3, ht⟩
  · exact .inl ⟨rfl, by omega, by omega⟩
  · refine .inr ⟨g, cur, rfl, hg, Nat.le_refl _, by omega, by omega, ?_⟩
    rw [← ht, List.take_take, Nat.mul_one, Nat.min_eq_left (by omega)]

def cutF (x : FT) (n : Nat) : FT := (x.1, x.2.1.take n, n)
theorem tsV_get : ∀ (l : List FT) (ds : List (Option Addr × Nat)) (i : Nat) (x : FT) (d : Option Addr × Nat), l[i]? = some x → ds[i]? = some d → ∀ q, q < 3 → (tsV l ds)[i * 3 + q]? = (tV x d)[q]?
  | [], _, _, _, _, h, _, _, _ => by simp at h
  | _ :: _, [], _, _, _, _, h, _, _ => by simp at h
  | y :: l, e :: ds, 0, x, d, h, h2, q, hq => by
    simp at h h2; subst h; subst h2
    unfold tsV
    rw [List.zip_cons_cons, List.flatMap_cons, List.getElem?_append_left (by simp [tV]; omega), Nat.zero_mul, Nat.zero_add]
  | y :: l, e :: ds, i + 1, x, d, h, h2, q, hq => by
    simp at h h2
    have := tsV_get l ds i x d h h2 q hq
    unfold tsV at *
    rw [List.zip_cons_cons, List.flatMap_cons, List.getElem?_append_right (by simp [tV]; omega)]
    rw [← this]
    congr 1
    simp [tV]; omega
theorem tsV_set : ∀ (l : List FT) (ds : List (Option Addr × Nat)) (i : Nat) (x : FT) (d : Option Addr × Nat) (n : Nat), l[i]? = some x → ds[i]? = some d → n ≤ x.2.1.length →
    ((tsV l ds).set (i * 3 + 1) (.slice d.1 n n)).set (i * 3 + 2) (.int .i64 n) = tsV (l.set i (cutF x n)) (ds.set i (d.1, n))
  | [], _, _, _, _, _, h, _, _ => by simp at h
  | _ :: _, [], _, _, _, _, _, h, _ => by simp at h
  | y :: l, e :: ds, 0, x, d, n, h, h2, hn => by
    simp at h h2; subst h; subst h2
    unfold tsV
    have hl : (y.2.1.take n).length = n := List.length_take_of_le hn
    simp [tV, cutF, hl]
  | y :: l, e :: ds, i + 1, x, d, n, h, h2, hn => by
    simp at h h2
    have := tsV_set l ds i x d n h h2 hn
    unfold tsV at *
    rw [List.set_cons_succ, List.set_cons_succ, List.zip_cons_cons, List.flatMap_cons, List.zip_cons_cons, List.flatMap_cons, ← this]
    have e1 : (i + 1) * 3 + 1 = (i * 3 + 1) + 3 := by omega
    have e2 : (i + 1) * 3 + 2 = (i * 3 + 2) + 3 := by omega
    rw [e1, e2]
    simp [tV]

/-- The i-th file of a list that is told is cut. -/
theorem Told.cut {w : World} {l : List FT} {A : Option Addr} {c : Nat} {ds : List (Option Addr × Nat)} (h : Told w l A c ds) {i : Nat} {x : FT} (hx : l[i]? = some x) {n : Nat} (hn : n ≤ x.2.1.length) :
    ∃ g d, A = some ⟨g, 0, none⟩ ∧ ds[i]? = some d ∧ Told ((w.setCell ⟨g, i * 3 + 1, none⟩ (.slice d.1 n n)).setCell ⟨g, i * 3 + 2, none⟩ (.int .i64 n)) (l.set i (cutF x n)) A c (ds.set i (d.1, n)) ∧
      w.cell? ⟨g, i * 3 + 1, none⟩ = some (.slice d.1 x.2.1.length d.2) ∧ w.cell? ⟨g, i * 3 + 2, none⟩ = some (.int .i64 x.2.2) ∧ (∀ q, w.frozen? ⟨g, q, none⟩ = false) := by
  have hil := (List.getElem?_eq_some_iff.1 hx).1
  have hdl : i < ds.length := by rw [h.dl]; exact hil
  have hd : ds[i]? = some ds[i] := List.getElem?_eq_getElem hdl
  generalize ds[i] = d at hd
  rcases h.row.2 with ⟨_, h0, _⟩ | ⟨g, cur, rfl, hg, h1, h2, h3, ht⟩
  · omega
  refine ⟨g, d, rfl, hd, ⟨⟨?_, .inr ⟨g, _, rfl, set_blk (set_blk hg _ _) _ _, ?_, h2, ?_, ?_⟩⟩, by simp [h.dl], fun j y d' hy hd' => ?_, fun j j' a b hne ha hb k hk1 hk2 => ?_⟩, ?_, ?_, fun q => froz_blk hg q⟩
  · rw [tsV_len (by simp [h.dl])]
  · simpa using h1
  · simp only [Array.size_setIfInBounds]; exact h3
  · rw [← tsV_set l ds i x d n hx hd hn, ← ht]
    simp only [Array.toList_setIfInBounds, List.length_set]
    rw [List.take_set, List.take_set]
  · have hown : ∀ (W : World), W.heap[g]? ≠ none → True := fun _ _ => trivial
    have hfar : ∀ (d2 : Option Addr × Nat) nn xs, Own w 5 1 d2.1 nn d2.2 xs → Own ((w.setCell ⟨g, i * 3 + 1, none⟩ (.slice d.1 n n)).setCell ⟨g, i * 3 + 2, none⟩ (.int .i64 n)) 5 1 d2.1 nn d2.2 xs := fun d2 nn xs ho =>
      ho.same (S := fun k => k ≠ g) (fun k hk => (set_far (a := ⟨g, i * 3 + 2, none⟩) hk _).trans (set_far (a := ⟨g, i * 3 + 1, none⟩) hk _)) fun k hk e => by subst e; exact ho.ne_blk hg (by decide) hk
    rw [List.getElem?_set] at hy hd'
    by_cases e : i = j
    · subst e
      rw [if_pos rfl, if_pos hil] at hy
      rw [if_pos rfl, if_pos hdl] at hd'
      cases hy; cases hd'
      have ho := (h.own i x d hx hd).cutTo n hn
      rw [BV_take] at ho
      have hl : (x.2.1.take n).length = n := List.length_take_of_le hn
      simp only [cutF, hl]
      exact hfar (d.1, n) n _ ho
    · rw [if_neg e] at hy hd'
      exact hfar d' _ _ (h.own j y d' hy hd')
  · have key : ∀ (q : Nat) (z : Option Addr × Nat), (ds.set i (d.1, n))[q]? = some z → ∃ z' : Option Addr × Nat, ds[q]? = some z' ∧ z'.1 = z.1 := fun q z hz => by
      rw [List.getElem?_set] at hz
      split at hz
      · rename_i e; subst e
        cases hz; exact ⟨d, hd, rfl⟩
      · exact ⟨z, hz, rfl⟩
    obtain ⟨a', ha', ea⟩ := key j a ha
    obtain ⟨b', hb', eb⟩ := key j' b hb
    exact h.apart j j' a' b' hne ha' hb' k (by rw [ea]; exact hk1) (by rw [eb]; exact hk2)
  · have h4 := tsV_get l ds i x d hx hd 1 (by omega)
    rw [cell_blk hg]
    have h5 : (cur.toList.take (l.length * 3))[i * 3 + 1]? = some (.slice d.1 x.2.1.length d.2) := by rw [ht, h4]; rfl
    rw [List.getElem?_take, if_pos (by omega)] at h5
    simpa using h5
  · have h4 := tsV_get l ds i x d hx hd 2 (by omega)
    rw [cell_blk hg]
    have h5 : (cur.toList.take (l.length * 3))[i * 3 + 2]? = some (.int .i64 x.2.2) := by rw [ht, h4]; rfl
    rw [List.getElem?_take, if_pos (by omega)] at h5
    simpa using h5

end Go.Dx

namespace Go.Dx
open Go.RowKit Go.Proofs

def IV (l : List Int) : List Value := l.map (.int .i64)
theorem MapP.keepF {w w' : World} {F : Nat → Prop} {r : Nat} {kv : Dir Value} (h : MapP w r kv) (hk : Keep F w w') (hr : ¬ F r) : MapP w' r kv := h.same (hk.block r h.lt hr)

theorem run_max2 (ts : Array TypeId) (t : TypeId) (x y : Int) (w : World) : (Builtin.max_ ts t #[.int .i64 x, .int .i64 y]).run Try.prog w = .ok (.int .i64 (max x y)) w := by
  rw [run_max_int2]
  congr 2
  split <;> omega
theorem run_min2 (ts : Array TypeId) (t : TypeId) (x y : Int) (w : World) : (Builtin.min_ ts t #[.int .i64 x, .int .i64 y]).run Try.prog w = .ok (.int .i64 (min x y)) w := by
  rw [run_min_int2]
  congr 2
  split <;> omega
theorem sliced_to' (A : Option Addr) (c k sz : Nat) : sliced A 0 (k : Int).toNat c sz = .slice A k c := by
  unfold sliced
  rw [Int.toNat_natCast, Nat.zero_mul, Nat.sub_zero, Nat.sub_zero]
  congr 1
  split
  · rfl
  · cases A
    · rfl
    · simp [addr_add0]
theorem run_to76 (w : World) (A : Option Addr) (n c k : Nat) (h : k ≤ c) : (Instr.slice 76 (.slice A n c) none (some (.int .i64 k)) none).run Try.prog w = .ok (.slice A k c) w := by
  have he : Try.prog.elem 76 = 94 := by kernel_rfl
  have hs : ∀ W, (sizeOf 94).run Try.prog W = .ok 4 W := fun W => by kernel_rfl
  rw [run_slice_h w 76 A n c (by rw [he]; exact Try.underlying76) .i64 k (by omega) (by omega), he, hs]
  simp only [Result.andThen]
  rw [sliced_to']

theorem chV_ptr (c : Ch) (fb : List Nat) : ∃ (k : Int) (a b : ByteArray) (p : Option Addr), chV fb c = [.int .i64 k, .string a, .string b, .pointer p] := by
  cases c with
  | mk n i => exact ⟨0, n, _, _, rfl⟩
  | ren a b => exact ⟨1, a, b, _, rfl⟩
  | del n => exact ⟨2, n, _, _, rfl⟩
theorem chsV_get (fb : List Nat) : ∀ (l : List Ch) (j : Nat) (c : Ch), l[j]? = some c → ∀ q, q < 4 → (chsV fb l)[4 * j + q]? = (chV fb c)[q]?
  | [], _, _, h, _, _ => by simp at h
  | x :: l, 0, c, h, q, hq => by
    simp at h; subst h
    unfold chsV
    rw [List.flatMap_cons, List.getElem?_append_left (by rw [chV_len]; omega), Nat.mul_zero, Nat.zero_add]
  | x :: l, j + 1, c, h, q, hq => by
    simp at h
    have := chsV_get fb l j c h q hq
    unfold chsV at *
    rw [List.flatMap_cons, List.getElem?_append_right (by rw [chV_len]; omega), ← this, chV_len]
    congr 1
    omega
/-- The cells of the j-th change. -/
theorem PDL.chAt {w : World} {D : Nat} {s : St} {L : PL} (h : PDL w D s L) {j : Nat} {c : Ch} (hj : s.changes[j]? = some c) : ∃ g, L.cA = some ⟨g, 0, none⟩ ∧ ∀ q, q < 4 → w.cell? ⟨g, j * 4 + q, none⟩ = (chV L.fb c)[q]? := by
  have hlt := (List.getElem?_eq_some_iff.1 hj).1
  rcases h.chs.2 with ⟨_, h0, _⟩ | ⟨g, cur, hA, hg, _, _, _, ht⟩
  · omega
  · refine ⟨g, hA, fun q hq => ?_⟩
    have h4 := chsV_get L.fb s.changes j c hj q hq
    rw [cell_blk hg, ← h4, ← ht, List.getElem?_take, if_pos (by omega), Nat.mul_comm j 4]
    simp

theorem run_toto (w : World) (A : Option Addr) (n c k : Nat) (h : k ≤ c) : (Instr.slice 43 (.slice A n c) none (some (.int .i64 k)) (some (.int .i64 k))).run Try.prog w = .ok (.slice A k k) w := by
  have he : Try.prog.elem 43 = 5 := by kernel_rfl
  have hs : ∀ W, (sizeOf 5).run Try.prog W = .ok 1 W := fun W => by kernel_rfl
  rw [run_slice_hm w 43 A n c (by rw [he]; exact Try.underlying43) .i64 .i64 k k (by omega) (by omega) (by omega), he, hs]
  simp only [Result.andThen]
  rw [sliced_to', Int.toNat_natCast]

theorem valid_ok : ∀ (l : List Ch) (d : Dir Nat), Valid d l → ∀ j c, l[j]? = some c → okCh (lays d (l.take j)) c
  | [], _, _, j, c, h => by simp at h
  | x :: l, d, hv, 0, c, h => by
    simp at h; subst h
    cases x <;> simp only [okCh, lays, List.take_zero, List.foldl_nil]
    exact hv.1
  | x :: l, d, hv, j + 1, c, h => by
    simp at h
    exact valid_ok l (lay1 d x) hv.2 j c h

/-- The first j files are cut, the others not yet. -/
def upto (ks : List Int) (l : List FT) (j : Nat) : List FT := l.mapIdx fun q x => if q < j then St.cut ks q x else x
theorem cut_eq (ks : List Int) (i : Nat) (x : FT) : St.cut ks i x = cutF x (x.2.2 + St.more ks i x.2.1.length x.2.2) := rfl
theorem upto_len (ks : List Int) (l : List FT) (j : Nat) : (upto ks l j).length = l.length := by simp [upto]
theorem upto_zero (ks : List Int) (l : List FT) : upto ks l 0 = l := by
  apply List.ext_getElem?
  intro i
  simp [upto]
theorem upto_all (ks : List Int) (l : List FT) : upto ks l l.length = l.mapIdx fun i x => St.cut ks i x := by
  apply List.ext_getElem?
  intro i
  simp only [upto, List.getElem?_mapIdx]
  cases h : l[i]? with
  | none => rfl
  | some x =>
    have := (List.getElem?_eq_some_iff.1 h).1
    simp [this]
theorem upto_get {ks : List Int} {l : List FT} {j : Nat} {x : FT} (h : l[j]? = some x) : (upto ks l j)[j]? = some x := by simp [upto, h]
theorem upto_set {ks : List Int} {l : List FT} {j : Nat} {x : FT} (h : l[j]? = some x) : (upto ks l j).set j (St.cut ks j x) = upto ks l (j + 1) := by
  apply List.ext_getElem?
  intro i
  rw [List.getElem?_set]
  simp only [upto, List.getElem?_mapIdx, List.length_mapIdx]
  have hlt := (List.getElem?_eq_some_iff.1 h).1
  split
  · rename_i e; subst e
    rw [h]
    simp []
  · rename_i e
    cases l[i]? with
    | none => rfl
    | some y =>
      simp only [Option.map_some]
      by_cases h1 : i < j
      · rw [if_pos h1, if_pos (by omega)]
      · rw [if_neg h1, if_neg (by omega)]
theorem more_le (ks : List Int) (i len sure : Nat) : St.more ks i len sure ≤ len - sure := by
  unfold St.more
  split
  · omega
  · exact Nat.min_le_right _ _

set_option maxRecDepth 100000 in
set_option maxHeartbeats 4000000 in
theorem image_any {w : World} {D : Nat} {s : St} {L : PL} {n : Nat} (h : PDL w D s L) (hg : Good s n) (hn : n ≤ 1000000) (dir : Int) {S : Nat → Prop} {B : Option Addr} {ks : List Int} {cb : Nat} (hb : Rd w S B (IV ks)) (hS : ∀ k, S k → k < w.heap.size) (hkl : ks.length ≤ 140737488355328) :
    Calls Try.prog 14 #[.pointer (some ⟨D, 0, none⟩), .int .i64 dir, .slice B ks.length cb] w (ToldR w (s.image dir ks)) := by
  obtain ⟨m1, m2, cA, cC, fb, fd⟩ := L
  have c2 : w.cell? ⟨D, 2, none⟩ = some (.map (some m2)) := h.cell 2 rfl
  have hcl := mclone h.sure
  simp only at hcl
  have H := Lib.hid h
  have HG := Lib.hid hg
  have HB := Lib.hid hb
  have Hcl := Lib.hid hcl
  clear h hg hb hcl
  go_enter Try.func14, Try.ntmps14
  go_wp2_with fail
  refine Hcl.out.mono ?_
  rintro e w1 ⟨rfl, hm1, hk1, hz1⟩
  have h1 := H.out.keepNo hk1
  have c3 : w1.cell? ⟨D, 3, none⟩ = some (.slice cA s.changes.length cC) := h1.cell 3 rfl
  have H1 := Lib.hid h1
  have K1 := Lib.hid hk1
  have Hm1 := Lib.hid hm1
  clear h1 hk1 hm1
  obtain ⟨m, hm⟩ : ∃ m : Nat, dir.toNat = m := ⟨_, rfl⟩
  obtain ⟨k, hk⟩ : ∃ k : Nat, min m s.changes.length = k := ⟨_, rfl⟩
  have hmx : ∀ ts t W, (Builtin.max_ ts t #[.int .i64 dir, .int .i64 0]).run Try.prog W = .ok (.int .i64 m) W := fun ts t W => by rw [run_max2, ← Int.toNat_eq_max, hm]
  have hmn : ∀ ts t W, (Builtin.min_ ts t #[.int .i64 m, .int .i64 s.changes.length]).run Try.prog W = .ok (.int .i64 k) W := fun ts t W => by rw [run_min2]; congr 2; omega
  have hsl := fun W => run_to76 W cA s.changes.length cC k (by have : s.changes.length ≤ cC := H1.out.chs.le.1; omega)
  have hkb : k ≤ 1000000 := by have := HG.out.ch; omega
  have Hm := Lib.hid hm
  have Hk := Lib.hid hk
  clear hm hk
  go_wp2_with fail
  go_quiet (fail)
  have hm1 : MapP (w1.drewN nq) w.heap.size (dirV fb s.sure) := Hm1.out
  have hk1 : Keep No w (w1.drewN nq) := K1.out.drewN nq
  have Hm1 := Lib.hid hm1
  have K1 := Lib.hid hk1
  have hz1 : (w1.drewN nq).heap.size = w.heap.size + 1 := hz1
  clear hm1 hk1 hmx hmn hsl H1 c3
  generalize w1.drewN nq = W1 at *
  go_wp2_with fail
  go_loopw [32] (fun i wr => ∃ j : Nat, j ≤ k ∧ i = .int .i64 j ∧ Hid (MapP wr w.heap.size (dirV fb (lays s.sure (s.changes.take j))) ∧ Keep No w wr)) (fun i _ => k - (RowKit.intOf i).toNat)
  case atStart => exact ⟨0, Nat.zero_le _, rfl, Hm1.out, K1.out⟩
  case round =>
    obtain ⟨j, hj, rfl, hR⟩ := hrel
    by_cases hlt : j < k
    · have hlt' : (j : Int) < k := by omega
      obtain ⟨c, hc⟩ : ∃ c, s.changes[j]? = some c := ⟨_, List.getElem?_eq_getElem (by have := Hk.out; omega)⟩
      have hp := H.out.keepNo hR.out.2
      obtain ⟨g, hA, hcell⟩ := hp.chAt hc
      simp only at hA hcell
      subst hA
      have hok := valid_ok _ _ HG.out.wf.val j c hc
      have hsd : Sd (lays s.sure (s.changes.take j)) := lays_sd HG.out.wf.sdS _
      have hlay := fun (W : World) (h : MapP W w.heap.size (dirV fb (lays s.sure (s.changes.take j)))) => lay_any h hsd c hok
      obtain ⟨k0, a, b, p, hcv⟩ := chV_ptr c fb
      have q0 := hcell 0 (by omega)
      have q1 := hcell 1 (by omega)
      have q2 := hcell 2 (by omega)
      have q3 := hcell 3 (by omega)
      rw [hcv] at hlay q0 q1 q2 q3
      simp only [List.getElem?_cons_zero, List.getElem?_cons_succ, Nat.add_zero] at q0 q1 q2 q3
      have Hlay := Lib.hid hlay
      have Hc := Lib.hid hc
      clear hlay hcell hok hsd hcv hc hp
      go_wp2_with fail
      have hR1 : MapP (wr.alloc (.cells #[.int .i64 k0, .string a, .string b, .pointer p] 94)) w.heap.size (dirV fb (lays s.sure (s.changes.take j))) := hR.out.1.keepNo ((Keep.refl No wr).alloc _)
      refine (Hlay.out _ hR1).mono ?_
      rintro e w2 ⟨rfl, hM, hk2⟩
      have htk : lay1 (lays s.sure (s.changes.take j)) c = lays s.sure (s.changes.take (j + 1)) := by
        obtain ⟨hlt3, e⟩ := List.getElem?_eq_some_iff.1 Hc.out
        rw [List.take_succ_eq_append_getElem hlt3, lays_append, e]; rfl
      rw [htk] at hM
      have hk02 : Keep No w w2 := (hR.out.2.alloc _).trans hk2 fun i hi e => by omega
      have HR2 := Lib.hid (And.intro hM hk02)
      clear htk hM hk02 hk2 hR1
      go_wp2_with fail
      go_roundw
      case rel => exact ⟨j + 1, by omega, by go_num, HR2⟩
      case measure => simp [RowKit.intOf]; omega
    · obtain rfl : j = k := by omega
      have hp := H.out.keepNo hR.out.2
      have hd : lays s.sure (s.changes.take j) = s.rest dir := by
        have h1 := Hm.out
        have h2 := Hk.out
        unfold St.rest
        rw [h1, ← h2]
        by_cases hle : m ≤ s.changes.length
        · rw [Nat.min_eq_left hle]
        · rw [Nat.min_eq_right (by omega), List.take_of_length_le (Nat.le_refl _), List.take_of_length_le (by omega)]
      have hT := told_any (by rw [← hd]; exact hR.out.1) hp.files (HG.out.wf.rest_sd dir) (HG.out.wf.rest_idx dir) (fun f hf => (HG.out.wf.fsure f hf).2) (fun x hx => right_size (rest_nms HG.out.nm dir x hx)) (rest_len HG.out.wf dir)
      have hlen : (s.told (s.rest dir)).length = (s.rest dir).length := by simp [St.told]
      have hrl := rest_len HG.out.wf dir
      generalize (s.rest dir).length = N at hT hlen hrl
      subst hlen
      have HT := Lib.hid hT
      clear hT hp hd
      go_wp2_with fail
      refine HT.out.mono ?_
      rintro e w2 ⟨A, c, ds, rfl, hT2, hk2, hn2⟩
      have hsz : w.heap.size ≤ wr.heap.size := hR.out.2.size
      have HT2 : Hid (Told w2 (s.told (s.rest dir)) A c ds ∧ Keep No w w2 ∧ ∀ k, footT A ds k → New w w2 k) := ⟨hT2, hR.out.2.trans' hk2, fun k hk => ⟨by have := (hn2 k hk).1; omega, (hn2 k hk).2⟩⟩
      have hsd : Hid (∀ x ∈ s.told (s.rest dir), x.2.2 ≤ x.2.1.length ∧ x.2.1.length ≤ 2147483648) := by
        intro x hx
        obtain ⟨y, hy, rfl⟩ := List.mem_map.1 hx
        have hi := HG.out.wf.rest_idx dir y hy
        have hf := HG.out.wf.fsure _ (List.getElem_mem hi)
        simp only [St.dataAt, St.sureAt, List.getElem?_eq_getElem hi]
        exact hf
      clear hT2 hk2 hn2
      have himg : Hid (s.image dir ks = upto ks (s.told (s.rest dir)) (s.told (s.rest dir)).length) := by
        unfold Hid; rw [upto_all]; rfl
      generalize s.told (s.rest dir) = tl at *
      go_wp2_with fail
      go_loopw [44] (fun i wr => ∃ (q : Nat) (ds : List (Option Addr × Nat)), q ≤ tl.length ∧ i = .int .i64 q ∧ Hid (Told wr (upto ks tl q) A c ds ∧ Keep No w wr ∧ ∀ k, footT A ds k → New w wr k)) (fun i _ => tl.length - (RowKit.intOf i).toNat)
      case atStart => exact ⟨0, ds, Nat.zero_le _, rfl, by rw [upto_zero]; exact HT2.out⟩
      case round =>
        obtain ⟨q, ds, hq, rfl, hQ⟩ := hrel
        by_cases hqlt : q < tl.length
        · have hqlt' : (q : Int) < tl.length := by omega
          obtain ⟨x, hx⟩ : ∃ x, tl[q]? = some x := ⟨_, List.getElem?_eq_getElem hqlt⟩
          have hxs := hsd.out x (List.mem_of_getElem? hx)
          have hmo := more_le ks q x.2.1.length x.2.2
          obtain ⟨g, d, hA, hd, hT', q1, q2, hz⟩ := hQ.out.1.cut (upto_get hx) (n := x.2.2 + St.more ks q x.2.1.length x.2.2) (by omega)
          rw [← cut_eq, upto_set hx] at hT'
          subst hA
          have hdd : d ∈ ds := List.mem_of_getElem? hd
          have hown := hQ.out.1.own q x d (upto_get hx) hd
          have hg : w.heap.size ≤ g := (hQ.out.2.2 g (.inl rfl)).1
          have hlc : x.2.1.length ≤ d.2 := hown.le.1
          obtain ⟨x1, xd, xs⟩ := x
          simp only at hxs hmo hT' q1 q2 hlc
          have hz1 := hz (q * 3 + 1)
          have hz2 := hz (q * 3 + 2)
          have HF : ∀ v1 v2, Told ((wr.setCell ⟨g, q * 3 + 1, none⟩ v1).setCell ⟨g, q * 3 + 2, none⟩ v2) (upto ks tl (q + 1)) (some ⟨g, 0, none⟩) c (ds.set q (d.1, xs + St.more ks q xd.length xs)) →
              Hid (Told ((wr.setCell ⟨g, q * 3 + 1, none⟩ v1).setCell ⟨g, q * 3 + 2, none⟩ v2) (upto ks tl (q + 1)) (some ⟨g, 0, none⟩) c (ds.set q (d.1, xs + St.more ks q xd.length xs)) ∧ Keep No w ((wr.setCell ⟨g, q * 3 + 1, none⟩ v1).setCell ⟨g, q * 3 + 2, none⟩ v2) ∧
                ∀ k, footT (some ⟨g, 0, none⟩) (ds.set q (d.1, xs + St.more ks q xd.length xs)) k → New w ((wr.setCell ⟨g, q * 3 + 1, none⟩ v1).setCell ⟨g, q * 3 + 2, none⟩ v2) k) := by
            intro v1 v2 hT
            have hsz : ((wr.setCell ⟨g, q * 3 + 1, none⟩ v1).setCell ⟨g, q * 3 + 2, none⟩ v2).heap.size = wr.heap.size := by simp [World.setCell]
            refine ⟨hT, (hQ.out.2.1.setNew hg _ _).setNew hg _ _, fun k hk => ?_⟩
            unfold New
            rw [hsz]
            rcases hk with hk | ⟨z, hz, hk⟩
            · exact hQ.out.2.2 k (.inl hk)
            · obtain ⟨i, hi⟩ := List.mem_iff_getElem?.1 hz
              rw [List.getElem?_set] at hi
              split at hi
              · split at hi
                · cases hi; exact hQ.out.2.2 k (.inr ⟨d, hdd, hk⟩)
                · cases hi
              · exact hQ.out.2.2 k (.inr ⟨z, List.mem_of_getElem? hi, hk⟩)
          have HF2 := HF _ _ hT'
          clear HF hT' hd hown hz
          by_cases hk0 : ks.length = 0
          · have hm0 : St.more ks q xd.length xs = 0 := by simp [St.more, hk0]
            rw [hm0, Nat.add_zero] at HF2
            have hslc := fun W => run_toto W d.1 xd.length d.2 xs (by omega)
            clear hm0 hmo
            go_wp2_with fail
            go_roundw
            case rel => exact ⟨q + 1, _, by omega, by go_num, HF2⟩
            case measure => simp [RowKit.intOf]; omega
          · have hkpos : (0 : Int) < ks.length := by omega
            obtain ⟨bb, o, rfl, hSb, hrun⟩ := HB.out (by simp [IV]; omega)
            have hmod : q % ks.length < ks.length := Nat.mod_lt _ (by omega)
            have hmore : St.more ks q xd.length xs = min (ks.getD (q % ks.length) 0).toNat (xd.length - xs) := by simp [St.more, hk0]
            obtain ⟨r, hr⟩ : ∃ r, q % ks.length = r := ⟨_, rfl⟩
            have htm : Int.tmod (q : Int) ks.length = r := by rw [Int.tmod_eq_emod_of_nonneg (by omega)]; omega
            have hem : (q : Int) % ks.length = r := by omega
            rw [hr] at hmod hmore
            obtain ⟨kv, hkv⟩ : ∃ kv, ks[r]? = some kv := ⟨_, List.getElem?_eq_getElem hmod⟩
            rw [List.getD_eq_getElem?_getD, hkv, Option.getD_some] at hmore
            have hcell : wr.cell? ⟨bb, o + r, none⟩ = some (.int .i64 kv) := by
              rw [hQ.out.2.1.cell (a := ⟨bb, o + r, none⟩) (hS bb hSb) id]
              exact hrun _ _ (by simp [IV, hkv])
            obtain ⟨m3, hm3⟩ : ∃ m : Nat, kv.toNat = m := ⟨_, rfl⟩
            rw [hm3] at hmore
            obtain ⟨mr, hmr⟩ : ∃ mr : Nat, St.more ks q xd.length xs = mr := ⟨_, rfl⟩
            rw [hmr] at hmore HF2 hmo
            obtain ⟨nn, hnn⟩ : ∃ nn : Nat, xs + mr = nn := ⟨_, rfl⟩
            rw [hnn] at HF2
            have hmx : ∀ ts t W, (Builtin.max_ ts t #[.int .i64 kv, .int .i64 0]).run Try.prog W = .ok (.int .i64 m3) W := fun ts t W => by rw [run_max2, ← Int.toNat_eq_max, hm3]
            have hmn : ∀ ts t W, (Builtin.min_ ts t #[.int .i64 m3, .int .i64 ((xd.length : Int) - xs)]).run Try.prog W = .ok (.int .i64 mr) W := fun ts t W => by rw [run_min2]; congr 2; omega
            have hadd : (xs : Int) + mr = nn := by omega
            have hslc := fun W => run_toto W d.1 xd.length d.2 nn (by omega)
            have hrlt : (r : Int) < ks.length := by omega
            clear hrun hkv hm3 hmr hmore hr
            have HF3 : ∀ nq, Hid (Told (((wr.drewN nq).setCell ⟨g, q * 3 + 1, none⟩ (.slice d.1 nn nn)).setCell ⟨g, q * 3 + 2, none⟩ (.int .i64 nn)) (upto ks tl (q + 1)) (some ⟨g, 0, none⟩) c (ds.set q (d.1, nn)) ∧
                Keep No w (((wr.drewN nq).setCell ⟨g, q * 3 + 1, none⟩ (.slice d.1 nn nn)).setCell ⟨g, q * 3 + 2, none⟩ (.int .i64 nn)) ∧
                ∀ k, footT (some ⟨g, 0, none⟩) (ds.set q (d.1, nn)) k → New w (((wr.drewN nq).setCell ⟨g, q * 3 + 1, none⟩ (.slice d.1 nn nn)).setCell ⟨g, q * 3 + 2, none⟩ (.int .i64 nn)) k) := fun nq =>
              ⟨HF2.out.1.same (S := fun _ => True) (fun _ _ => rfl) (fun _ _ => trivial), HF2.out.2.1.drewN nq, HF2.out.2.2⟩
            go_wp2_with fail
            go_quiet (fail)
            have HF4 := HF3 nq
            clear HF3 HF2
            go_wp2_with fail
            go_roundw
            case rel => exact ⟨q + 1, _, by omega, by go_num, HF4⟩
            case measure => simp [RowKit.intOf]; omega
        · obtain rfl : q = tl.length := by omega
          go_wp2_with fail
          go_ret
          rw [himg.out]
          exact ⟨A, c, ds, by rw [upto_len]; rfl, hQ.out.1, hQ.out.2.1, hQ.out.2.2⟩

end Go.Dx

namespace Go.Dx

section
variable {α : Type}
def nowOf (l : List (Nm × α)) : Dir Nat := l.mapIdx fun i x => (x.1, i)
def insUp (l : List (Nm × α)) : Dir Nat := (nowOf l).foldl (fun d x => ins d x.1 x.2) []
theorem nowOf_snoc (l : List (Nm × α)) (x : Nm × α) : nowOf (l ++ [x]) = nowOf l ++ [(x.1, l.length)] := by
  simp [nowOf, List.mapIdx_append]
theorem insUp_snoc (l : List (Nm × α)) (x : Nm × α) : insUp (l ++ [x]) = ins (insUp l) x.1 l.length := by
  unfold insUp
  rw [nowOf_snoc, List.foldl_append]
  rfl
theorem nowOf_len (l : List (Nm × α)) : (nowOf l).length = l.length := by simp [nowOf]
theorem nowOf_names (l : List (Nm × α)) : (nowOf l).map (·.1) = l.map (·.1) := by
  apply List.ext_getElem?
  intro i
  simp only [nowOf, List.getElem?_map, List.getElem?_mapIdx]
  cases l[i]? <;> rfl
theorem sd_names {d : Dir α} : Sd d ↔ (d.map (·.1)).Pairwise fun a b => nlt a b = true := by
  unfold Sd
  rw [List.pairwise_map]
theorem nowOf_sd {l : List (Nm × α)} (h : Sd l) : Sd (nowOf l) := by
  rw [sd_names, nowOf_names]
  exact sd_names.1 h
theorem nowOf_idx (l : List (Nm × α)) : ∀ x ∈ nowOf l, x.2 < l.length := by
  intro x hx
  obtain ⟨i, hi⟩ := List.mem_iff_getElem?.1 hx
  simp only [nowOf, List.getElem?_mapIdx] at hi
  cases h : l[i]? with
  | none => rw [h] at hi; cases hi
  | some y =>
    rw [h] at hi
    simp at hi
    subst hi
    exact (List.getElem?_eq_some_iff.1 h).1
theorem nowOf_mem {l : List (Nm × α)} {x : Nm × Nat} (h : x ∈ nowOf l) : ∃ y ∈ l, y.1 = x.1 := by
  have : x.1 ∈ (nowOf l).map (·.1) := List.mem_map.2 ⟨x, h, rfl⟩
  rw [nowOf_names] at this
  obtain ⟨y, hy, e⟩ := List.mem_map.1 this
  exact ⟨y, hy, e⟩
theorem ins_last {d : Dir α} {n : Nm} (i : α) (h : ∀ x ∈ d, nlt x.1 n = true) : ins d n i = d ++ [(n, i)] := by
  have h1 : low d n = d := List.filter_eq_self.2 h
  have h2 : high d n = [] := List.filter_eq_nil_iff.2 fun x hx => by
    have := nlt_asymm (h x hx)
    simp [this]
  unfold ins
  rw [h1, h2]
theorem take_snoc {l : List α} {k : Nat} {x : α} (h : l[k]? = some x) : l.take (k + 1) = l.take k ++ [x] := by
  obtain ⟨hlt, e⟩ := List.getElem?_eq_some_iff.1 h
  rw [List.take_succ_eq_append_getElem hlt, e]
theorem insUp_sorted {l : List (Nm × α)} (h : Sd l) : insUp l = nowOf l := by
  have key : ∀ k, k ≤ l.length → insUp (l.take k) = nowOf (l.take k) := by
    intro k
    induction k with
    | zero => intro _; rfl
    | succ k ih =>
      intro hk
      have hx : l[k]? = some l[k] := List.getElem?_eq_getElem (by omega)
      generalize l[k] = x at hx
      rw [take_snoc hx, insUp_snoc, nowOf_snoc, ih (by omega), ins_last]
      intro y hy
      obtain ⟨z, hz, e⟩ := nowOf_mem hy
      rw [← e]
      have hp : Sd (l.take (k + 1)) := List.Pairwise.sublist (List.take_sublist _ _) h
      rw [take_snoc hx] at hp
      exact (List.pairwise_append.1 hp).2.2 z hz x (by simp)
  have := key l.length (Nat.le_refl _)
  rwa [List.take_length] at this
theorem insUp_sd (l : List (Nm × α)) : ∀ k, k ≤ l.length → Sd (insUp (l.take k)) := by
  intro k
  induction k with
  | zero => intro _; exact List.Pairwise.nil
  | succ k ih =>
    intro hk
    have hx : l[k]? = some l[k] := List.getElem?_eq_getElem (by omega)
    generalize l[k] = x at hx
    rw [take_snoc hx, insUp_snoc]
    exact ins_sd (ih (by omega)) _ _
theorem insUp_idx (l : List (Nm × α)) : ∀ k, k ≤ l.length → ∀ x ∈ insUp (l.take k), x.2 < k := by
  intro k
  induction k with
  | zero => intro _ x hx; cases hx
  | succ k ih =>
    intro hk y hy
    have hx : l[k]? = some l[k] := List.getElem?_eq_getElem (by omega)
    generalize l[k] = x at hx
    rw [take_snoc hx, insUp_snoc] at hy
    rcases mem_ins.1 hy with rfl | ⟨hy, _⟩
    · simp only [List.length_take]; omega
    · have := ih (by omega) y hy; omega
theorem insUp_names (l : List (Nm × α)) : ∀ k, k ≤ l.length → ∀ x ∈ insUp (l.take k), ∃ y ∈ l.take k, y.1 = x.1 := by
  intro k
  induction k with
  | zero => intro _ x hx; cases hx
  | succ k ih =>
    intro hk y hy
    have hx : l[k]? = some l[k] := List.getElem?_eq_getElem (by omega)
    generalize l[k] = x at hx
    rw [take_snoc hx, insUp_snoc] at hy
    rw [take_snoc hx]
    rcases mem_ins.1 hy with rfl | ⟨hy, _⟩
    · exact ⟨x, by simp, rfl⟩
    · obtain ⟨z, hz, e⟩ := ih (by omega) y hy
      exact ⟨z, List.mem_append_left _ hz, e⟩
theorem insUp_length (l : List (Nm × α)) : ∀ k, k ≤ l.length → (insUp (l.take k)).length ≤ k := by
  intro k
  induction k with
  | zero => intro _; simp [insUp, nowOf]
  | succ k ih =>
    intro hk
    have hx : l[k]? = some l[k] := List.getElem?_eq_getElem (by omega)
    have h1 := ih (by omega)
    have h2 := insUp_sd l k (by omega)
    generalize l[k] = x at hx
    rw [take_snoc hx, insUp_snoc, ins_length h2]
    split <;> omega
/-- What is found while it grows: just the names so far. -/
theorem insUp_get (l : List (Nm × α)) (n : Nm) : ∀ k, k ≤ l.length → ((get (insUp (l.take k)) n).isSome = true ↔ ∃ y ∈ l.take k, y.1 = n) := by
  intro k
  induction k with
  | zero => intro _; simp [insUp, nowOf, get]
  | succ k ih =>
    intro hk
    have hx : l[k]? = some l[k] := List.getElem?_eq_getElem (by omega)
    have h1 := ih (by omega)
    generalize l[k] = x at hx
    rw [take_snoc hx, insUp_snoc, get_ins]
    by_cases e : x.1 = n
    · rw [if_pos e]
      simp [e]
    · rw [if_neg e, h1]
      constructor
      · rintro ⟨y, hy, e2⟩
        exact ⟨y, List.mem_append_left _ hy, e2⟩
      · rintro ⟨y, hy, e2⟩
        rcases List.mem_append.1 hy with hy | hy
        · exact ⟨y, hy, e2⟩
        · simp at hy; subst hy; exact absurd e2 e
end

section
variable {s : St} {n : Nat}
theorem image_names (s : St) (dir : Int) (ks : List Int) : (s.image dir ks).map (·.1) = (s.rest dir).map (·.1) := by
  unfold St.image St.told
  apply List.ext_getElem?
  intro i
  simp only [List.getElem?_map, List.getElem?_mapIdx]
  cases (s.rest dir)[i]? <;> rfl
theorem image_len (s : St) (dir : Int) (ks : List Int) : (s.image dir ks).length = (s.rest dir).length := by
  have := congrArg List.length (image_names s dir ks)
  simpa using this
theorem image_sd (h : Wf s) (dir : Int) (ks : List Int) : Sd (s.image dir ks) := by
  rw [sd_names, image_names]
  exact sd_names.1 (h.rest_sd dir)
theorem image_right (h : Nms s) (dir : Int) (ks : List Int) : ∀ x ∈ s.image dir ks, right x.1 = true := by
  intro x hx
  have : x.1 ∈ (s.image dir ks).map (·.1) := List.mem_map.2 ⟨x, hx, rfl⟩
  rw [image_names] at this
  obtain ⟨y, hy, e⟩ := List.mem_map.1 this
  rw [← e]
  exact rest_nms h dir y hy
theorem image_files (h : Wf s) (dir : Int) (ks : List Int) : ∀ x ∈ s.image dir ks, x.2.2 = x.2.1.length ∧ x.2.1.length ≤ 2147483648 := by
  intro x hx
  obtain ⟨i, hi⟩ := List.mem_iff_getElem?.1 hx
  unfold St.image St.told at hi
  simp only [List.getElem?_mapIdx, List.getElem?_map] at hi
  cases hr : (s.rest dir)[i]? with
  | none => rw [hr] at hi; cases hi
  | some y =>
    rw [hr] at hi
    simp only [Option.map_some, Option.some.injEq] at hi
    subst hi
    have hlt := h.rest_idx dir y (List.mem_of_getElem? hr)
    have hf := h.fsure _ (List.getElem_mem hlt)
    simp only [St.cut, St.dataAt, St.sureAt, List.getElem?_eq_getElem hlt]
    have hm : St.more ks i s.files[y.2].data.length s.files[y.2].sure ≤ s.files[y.2].data.length - s.files[y.2].sure := by
      unfold St.more
      split
      · omega
      · exact Nat.min_le_right _ _
    rw [List.length_take]
    omega

theorem Good.fall (h : Good s n) (dir : Int) (ks : List Int) (m : Nat) : Good (s.fall dir ks) m := by
  have hsd := nowOf_sd (image_sd h.wf dir ks)
  have hidx := nowOf_idx (s.image dir ks)
  have hl : (s.image dir ks).length ≤ 8388608 := by rw [image_len]; exact rest_len h.wf dir
  have hnm : ∀ x ∈ nowOf (s.image dir ks), right x.1 = true := fun x hx => by
    obtain ⟨y, hy, e⟩ := nowOf_mem hx
    rw [← e]
    exact image_right h.nm dir ks y hy
  refine ⟨⟨hsd, hsd, ?_, ?_, ?_, ?_, trivial, rfl, ?_, ?_, h.wf.broom, ?_, ?_, ?_, ?_⟩, ⟨hnm, hnm, fun c hc => by cases hc⟩, Nat.zero_le _⟩
  · intro x hx
    simp only [St.fall, List.length_map]
    exact hidx x hx
  · intro x hx
    simp only [St.fall, List.length_map]
    exact hidx x hx
  · intro a i hm; cases hm
  · intro f hf
    simp only [St.fall] at hf
    obtain ⟨x, hx, rfl⟩ := List.mem_map.1 hf
    have := image_files h.wf dir ks x hx
    simp only
    omega
  · simp only [St.fall, List.length_mapIdx]; exact hl
  · intro k
    simp only [St.fall, List.take_nil, lays, List.foldl_nil, List.length_mapIdx]
    exact hl
  all_goals (simp only [St.fall]; omega)
end

end Go.Dx

namespace Go.Dx
open Go.RowKit Go.Proofs

/-- One file more: a block of its own, bytes that no other file holds. -/
theorem FilesAt.push {w w' : World} {e : TypeId} {fs : List FV} {fb : List Nat} {fd : List (Option Addr × Nat)} (h : FilesAt w e fs fb fd) (_ : e ≠ 5) {F : Nat → Prop} (hk : Keep F w w') (hF : ∀ k, footF fb fd k → ¬ F k) {f : FV} {b : Nat} {d : Option Addr × Nat}
    (hb : w'.heap[b]? = some (.cells (fileC f d) e (0, 0))) (ho : Own w' 5 1 d.1 f.data.length d.2 (BV f.data)) (hnb : b ∉ fb) (hfar : ∀ k, bk d.1 = some k → ∀ x ∈ fd, bk x.1 ≠ some k) : FilesAt w' e (fs ++ [f]) (fb ++ [b]) (fd ++ [d]) := by
  have h' := h.same (w' := w') (S := footF fb fd) (fun k hk1 => hk.block k (h.lt k hk1) (hF k hk1)) fun _ h => h
  refine ⟨by simp [h.fbl], by simp [h.fdl], fun i g hg => ?_, ?_, fun i j x y hne hx hy k hk1 hk2 => ?_⟩
  · rw [List.getElem?_append] at hg
    split at hg
    · rename_i hi
      obtain ⟨b', d', h1, h2, h3, h4⟩ := h'.file i g hg
      exact ⟨b', d', by rw [List.getElem?_append, if_pos (by rw [h.fbl]; exact hi)]; exact h1, by rw [List.getElem?_append, if_pos (by rw [h.fdl]; exact hi)]; exact h2, h3, h4⟩
    · rename_i hi
      have hi0 : i - fs.length = 0 := by
        rcases Nat.eq_zero_or_pos (i - fs.length) with h0 | h0
        · exact h0
        · rw [List.getElem?_eq_none (by simp; omega)] at hg; cases hg
      rw [hi0] at hg
      simp at hg
      subst hg
      refine ⟨b, d, ?_, ?_, hb, ho⟩
      · rw [List.getElem?_append, if_neg (by rw [h.fbl]; exact hi), h.fbl, hi0]; rfl
      · rw [List.getElem?_append, if_neg (by rw [h.fdl]; exact hi), h.fdl, hi0]; rfl
  · refine List.nodup_append.2 ⟨h.nod, by simp, fun a ha c hc e => ?_⟩
    simp at hc
    subst hc; subst e
    exact hnb ha
  · have key : ∀ (q : Nat) (z : Option Addr × Nat), (fd ++ [d])[q]? = some z → (q < fd.length ∧ fd[q]? = some z) ∨ (q = fd.length ∧ z = d) := by
      intro q z hz
      rw [List.getElem?_append] at hz
      split at hz
      · rename_i hq; exact .inl ⟨hq, hz⟩
      · rename_i hq
        have h0 : q - fd.length = 0 := by
          rcases Nat.eq_zero_or_pos (q - fd.length) with h0 | h0
          · exact h0
          · rw [List.getElem?_eq_none (by simp; omega)] at hz; cases hz
        rw [h0] at hz
        simp at hz
        exact .inr ⟨by omega, hz.symm⟩
    rcases key i x hx with ⟨_, hx'⟩ | ⟨hi, ex⟩ <;> rcases key j y hy with ⟨_, hy'⟩ | ⟨hj, ey⟩
    · exact h.apart i j x y hne hx' hy' k hk1 hk2
    · rw [ey] at hk2; exact hfar k hk2 x (List.mem_of_getElem? hx') hk1
    · rw [ex] at hk1; exact hfar k hk1 y (List.mem_of_getElem? hy') hk2
    · omega

def fvOf (x : FT) : FV := ⟨x.2.1, x.2.2⟩
/-- The cells of the j-th file that is told. -/
theorem Told.at {w : World} {l : List FT} {A : Option Addr} {c : Nat} {ds : List (Option Addr × Nat)} (h : Told w l A c ds) {i : Nat} {x : FT} (hx : l[i]? = some x) :
    ∃ g d, A = some ⟨g, 0, none⟩ ∧ ds[i]? = some d ∧ w.cell? ⟨g, i * 3, none⟩ = some (.string x.1) ∧ w.cell? ⟨g, i * 3 + 1, none⟩ = some (.slice d.1 x.2.1.length d.2) ∧ w.cell? ⟨g, i * 3 + 2, none⟩ = some (.int .i64 x.2.2) ∧
      Own w 5 1 d.1 x.2.1.length d.2 (BV x.2.1) := by
  have hil := (List.getElem?_eq_some_iff.1 hx).1
  have hdl : i < ds.length := by rw [h.dl]; exact hil
  have hd : ds[i]? = some ds[i] := List.getElem?_eq_getElem hdl
  generalize ds[i] = d at hd
  rcases h.row.2 with ⟨_, h0, _⟩ | ⟨g, cur, rfl, hg, h1, h2, h3, ht⟩
  · omega
  have key : ∀ q, q < 3 → w.cell? ⟨g, i * 3 + q, none⟩ = (tV x d)[q]? := fun q hq => by
    have h4 := tsV_get l ds i x d hx hd q hq
    rw [cell_blk hg, ← h4, ← ht, List.getElem?_take, if_pos (by omega)]
    simp
  exact ⟨g, d, rfl, hd, key 0 (by omega), key 1 (by omega), key 2 (by omega), h.own i x d hx hd⟩

/-- What a new directory holds so far: the files l. -/
structure Part (w : World) (mm : Nat) (l : List FT) (fb : List Nat) (fd : List (Option Addr × Nat)) : Prop where
  map : MapP w mm (dirV fb (insUp l))
  files : FilesAt w 100 (l.map fvOf) fb fd
theorem Part.nil (w : World) (mm : Nat) (h : MapP w mm []) : Part w mm [] [] [] := ⟨h, ⟨rfl, rfl, fun i f hf => by simp at hf, List.nodup_nil, fun i j x y _ hx => by simp at hx⟩⟩
theorem Part.keep {w w' : World} {mm : Nat} {l : List FT} {fb : List Nat} {fd : List (Option Addr × Nat)} (h : Part w mm l fb fd) {F : Nat → Prop} (hk : Keep F w w') (hm : ¬ F mm) (hF : ∀ k, footF fb fd k → ¬ F k) : Part w' mm l fb fd :=
  ⟨h.map.keepF hk hm, h.files.same (S := footF fb fd) (fun k hk1 => hk.block k (h.files.lt k hk1) (hF k hk1)) fun _ h => h⟩
theorem Part.push {w w' : World} {mm : Nat} {l : List FT} {fb : List Nat} {fd : List (Option Addr × Nat)} (h : Part w mm l fb fd) (x : FT) {b : Nat} {d : Option Addr × Nat}
    (hb : w.heap[b]? = some (.cells (fileC (fvOf x) d) 100 (0, 0))) (ho : Own w 5 1 d.1 x.2.1.length d.2 (BV x.2.1)) (hnb : b ∉ fb) (hfar : ∀ k, bk d.1 = some k → ∀ y ∈ fd, bk y.1 ≠ some k)
    (hM : MapP w' mm (rem (dirV fb (insUp l)) x.1 ++ [(x.1, .pointer (some ⟨b, 0, none⟩))])) (hk : Keep (fun k => k = mm) w w') : Part w' mm (l ++ [x]) (fb ++ [b]) (fd ++ [d]) := by
  have hfl : fb.length = l.length := by have := h.files.fbl; simpa using this
  have hidx := insUp_idx l l.length (Nat.le_refl _)
  have hsd := insUp_sd l l.length (Nat.le_refl _)
  rw [List.take_length] at hidx hsd
  refine ⟨?_, ?_⟩
  · have hp : ptrV (fb ++ [b]) l.length = .pointer (some ⟨b, 0, none⟩) := by
      unfold ptrV
      rw [← hfl]
      simp [List.getD_eq_getElem?_getD]
    rw [insUp_snoc]
    have := lay_mk_perm (fb := fb ++ [b]) hsd x.1 l.length
    rw [dirV_app (by rw [hfl]; exact hidx), hp] at this
    exact hM.perm this
  · rw [List.map_append]
    refine h.files.push (by decide) hk (fun k hk1 e => ?_) ?_ ?_ hnb hfar
    · obtain ⟨cs, t, hc, _⟩ := h.files.obj k hk1
      exact h.map.ne_cells hc e.symm
    · exact (hk.block b (lt_blk hb) (h.map.ne_cells hb).symm).trans hb
    · exact ho.keep hk fun k hk1 e => by
        subst e
        obtain ⟨es, ck, hb, _⟩ := h.map
        exact ho.ne_map hb hk1

set_option maxRecDepth 100000 in
set_option maxHeartbeats 4000000 in
theorem fall_any {w : World} {D : Nat} {s : St} {L : PL} {n : Nat} (h : PDL w D s L) (hg : Good s n) (hn : n ≤ 1000000) (dir : Int) {S : Nat → Prop} {B : Option Addr} {ks : List Int} {cb : Nat} (hb : Rd w S B (IV ks)) (hS : ∀ k, S k → k < w.heap.size) (hkl : ks.length ≤ 140737488355328) :
    Calls Try.prog 30 #[.pointer (some ⟨D, 0, none⟩), .int .i64 dir, .slice B ks.length cb] w fun e w' => e = .returned (.tuple #[]) ∧ Did w D L (s.fall dir ks) w' := by
  have hI := image_any (cb := cb) h hg hn dir hb hS hkl
  have hlen : (s.image dir ks).length ≤ 8388608 := by rw [image_len]; exact rest_len hg.wf dir
  have hsd := Lib.hid (image_sd hg.wf dir ks)
  have hfin : Hid (s.fall dir ks = { room := s.room, files := (s.image dir ks).map fvOf, now := nowOf (s.image dir ks), sure := nowOf (s.image dir ks), changes := [], left := 0, well := 0, fails := 0, part := 0, down := false }) := rfl
  have H := Lib.hid h
  have HI := Lib.hid hI
  clear h hg hI hb
  generalize s.image dir ks = l at *
  go_enter Try.func30, Try.ntmps30
  go_wp2_with fail
  refine HI.out.mono ?_
  rintro e w1 ⟨A, c, ds, rfl, hT, hk1, hn1⟩
  have h1 := H.out.keepNo hk1
  have h1a := h1.keepNo ((Keep.refl No w1).alloc (.map #[] 0))
  have z1 := h1a.froz 1
  have c1 : (w1.alloc (.map #[] 0)).cell? ⟨D, 1, none⟩ = some (.map (some L.m1)) := h1a.cell 1 rfl
  have hDlt : D < w.heap.size := lt_blk H.out.disk
  have hmk : ∀ W, (Instr.makeMap 75 none).run Try.prog W = .ok (.map (some W.heap.size)) (W.alloc (.map #[] 0)) := fun W => rfl
  have H1 := Lib.hid h1
  have K1 := Lib.hid hk1
  have HT := Lib.hid hT
  clear h1 h1a hk1 hT
  go_wp2_with fail
  have hstart : Hid ((((w1.alloc (.map #[] 0)).setCell ⟨D, 1, none⟩ (.map (some w1.heap.size))).heap[D]? = some (.cells (diskC s { L with m1 := w1.heap.size }) 80 (0, 0))) ∧
      Part ((w1.alloc (.map #[] 0)).setCell ⟨D, 1, none⟩ (.map (some w1.heap.size))) w1.heap.size (l.take 0) [] (ds.take 0) ∧
      Told ((w1.alloc (.map #[] 0)).setCell ⟨D, 1, none⟩ (.map (some w1.heap.size))) l A c ds ∧ Keep (fun k => k = D) w ((w1.alloc (.map #[] 0)).setCell ⟨D, 1, none⟩ (.map (some w1.heap.size))) ∧
      (∀ b ∈ ([] : List Nat), New w ((w1.alloc (.map #[] 0)).setCell ⟨D, 1, none⟩ (.map (some w1.heap.size))) b) ∧ New w ((w1.alloc (.map #[] 0)).setCell ⟨D, 1, none⟩ (.map (some w1.heap.size))) w1.heap.size) := by
    have hz := K1.out.size
    have hne : w1.heap.size ≠ D := by omega
    have hsz : ((w1.alloc (.map #[] 0)).setCell ⟨D, 1, none⟩ (.map (some w1.heap.size))).heap.size = w1.heap.size + 1 := by simp [World.setCell]
    have hb : (w1.alloc (.map #[] 0)).heap[D]? = some (.cells (diskC s L) 80 (0, 0)) := (alloc_old w1 _ (by omega)).trans H1.out.disk
    refine ⟨set_blk hb 1 _, Part.nil _ _ ((MapP.made w1).same (set_far (a := ⟨D, 1, none⟩) hne _)), ?_, ?_, (fun b hb => by cases hb), ⟨by omega, by omega⟩⟩
    · have h2 := HT.out.keep (Keep.refl No w1 |>.alloc (.map #[] 0)) fun _ _ h => h
      exact h2.keep ((Keep.refl (fun k => k = D) _).setAt rfl 1 _) fun k hk e => by
        have := (hn1 k hk).1
        omega
    · exact ((K1.out.alloc (.map #[] 0)).mono (G := fun k => k = D) fun _ _ h => h.elim).setAt rfl 1 _
  clear z1 c1
  go_loopw [19] (fun i wr => ∃ (j : Nat) (fb : List Nat), j ≤ l.length ∧ i = .int .i64 j ∧ Hid (wr.heap[D]? = some (.cells (diskC s { L with m1 := w1.heap.size }) 80 (0, 0)) ∧ Part wr w1.heap.size (l.take j) fb (ds.take j) ∧ Told wr l A c ds ∧ Keep (fun k => k = D) w wr ∧ (∀ b ∈ fb, New w wr b) ∧ New w wr w1.heap.size)) (fun i _ => l.length - (RowKit.intOf i).toNat)
  case atStart => exact ⟨0, [], Nat.zero_le _, rfl, hstart⟩
  case round =>
    clear hstart hmk
    obtain ⟨j, fb, hj, rfl, hR⟩ := hrel
    by_cases hlt : j < l.length
    · have hlt' : (j : Int) < l.length := by omega
      obtain ⟨x, hx⟩ : ∃ x, l[j]? = some x := ⟨_, List.getElem?_eq_getElem hlt⟩
      obtain ⟨g, d, rfl, hd, q0, q1, q2, hown⟩ := hR.out.2.2.1.at hx
      have Hx := Lib.hid hx
      have Hd := Lib.hid hd
      have Hown := Lib.hid hown
      clear hx hd hown
      go_wp2_with fail
      obtain ⟨xn, xd, xs⟩ := x
      simp only at q0 q1 q2 Hown ⊢
      have hka : Keep No wr (wr.alloc (.cells #[.string xn, .slice d.1 xd.length d.2, .int .i64 xs] 60)) := (Keep.refl No wr).alloc _
      have hnew : (wr.alloc (.cells #[.string xn, .slice d.1 xd.length d.2, .int .i64 xs] 60)).heap[wr.heap.size]? = some (.cells #[.string xn, .slice d.1 xd.length d.2, .int .i64 xs] 60 (0, 0)) := alloc_new wr _
      have hsza : (wr.alloc (.cells #[.string xn, .slice d.1 xd.length d.2, .int .i64 xs] 60)).heap.size = wr.heap.size + 1 := World.size_alloc _ _
      have hDa : (wr.alloc (.cells #[.string xn, .slice d.1 xd.length d.2, .int .i64 xs] 60)).heap[D]? = some (.cells (diskC s { L with m1 := w1.heap.size }) 80 (0, 0)) := (hka.block D (lt_blk hR.out.1) id).trans hR.out.1
      have hPa := hR.out.2.1.keep hka id fun _ _ h => h
      have hMa := hPa.map
      have hTa := hR.out.2.2.1.keep hka fun _ _ h => h
      have hOa := Hown.out.keep hka fun _ _ h => h
      generalize wr.alloc (.cells #[.string xn, .slice d.1 xd.length d.2, .int .i64 xs] 60) = wa at *
      have hcells : Hid (∀ W, Keep (fun k => k = w1.heap.size) wa W → (W.cell? ⟨wr.heap.size, 0, none⟩ = some (.string xn) ∧ W.cell? ⟨wr.heap.size, 1, none⟩ = some (.slice d.1 xd.length d.2) ∧ W.cell? ⟨wr.heap.size, 2, none⟩ = some (.int .i64 xs) ∧ W.cell? ⟨D, 1, none⟩ = some (.map (some w1.heap.size)))) := by
        intro W hW
        have hb : W.heap[wr.heap.size]? = some (.cells #[.string xn, .slice d.1 xd.length d.2, .int .i64 xs] 60 (0, 0)) := (hW.block _ (lt_blk hnew) (hMa.ne_cells hnew).symm).trans hnew
        have hD : W.heap[D]? = some (.cells (diskC s { L with m1 := w1.heap.size }) 80 (0, 0)) := (hW.block _ (lt_blk hDa) (hMa.ne_cells hDa).symm).trans hDa
        exact ⟨(cell_blk hb 0).trans rfl, (cell_blk hb 1).trans rfl, (cell_blk hb 2).trans rfl, (cell_blk hD 1).trans rfl⟩
      refine wp_region_T (Keep (fun k => k = w1.heap.size) wa) [(0, true), (1, true), (2, true), (3, true), (4, true), (5, true), (6, true), (7, true), (8, true), (9, true), (10, true), (11, false), (12, false)] (by kernel_rfl) (by kernel_rfl) (Keep.refl _ _).drew ?_
      iterate 11
        (apply T_read rfl (by rfl)
         (· (intro W hW; have hc := hcells.out W hW; go_simp; try with_reducible rfl))
         (simp only [Act.put, List.getElem_toArray, List.getElem_cons_succ, List.getElem_cons_zero, List.setIfInBounds_toArray, List.set_cons_zero, List.set_cons_succ]))
      refine T_do rfl (by rfl) (fun K hK => ?_)
      go_simp
      refine hK _ _ (fun _ => (Keep.refl _ wa).drew.alloc _) ?_
      try (simp only [Act.put, List.getElem_toArray, List.getElem_cons_succ, List.getElem_cons_zero, List.setIfInBounds_toArray, List.set_cons_zero, List.set_cons_succ])
      refine T_do rfl (by rfl) (fun K hK => ?_)
      have hkb : Keep No wa (wa.drew.alloc (.cells #[.slice d.1 xd.length d.2, .int .i64 xs] 100)) := (Keep.refl No wa).drew.alloc _
      have hMb := hMa.keepNo hkb
      refine wp_mapUpdate (s := xn) (u := .pointer (some ⟨wr.heap.size + 1, 0, none⟩)) (.tmp 26) (.tmp 28) (.tmp 34) rfl hMb Try.underlying75 Try.underlying9 rfl rfl rfl (fun w2 hM hK2 => ?_)
      have hPb := hPa.keep hkb id fun _ _ h => h
      have hblk : (wa.drew.alloc (.cells #[.slice d.1 xd.length d.2, .int .i64 xs] 100)).heap[wr.heap.size + 1]? = some (.cells (fileC (fvOf (xn, xd, xs)) d) 100 (0, 0)) := by rw [← hsza]; exact alloc_new wa.drew _
      have hszb : (wa.drew.alloc (.cells #[.slice d.1 xd.length d.2, .int .i64 xs] 100)).heap.size = wa.heap.size + 1 := World.size_alloc _ _
      have hOb := hOa.keep hkb fun _ _ h => h
      have hszr : w.heap.size ≤ wr.heap.size := hR.out.2.2.2.1.size
      have hmmr := hR.out.2.2.2.2.2
      have hP2 := hPb.push (xn, xd, xs) hblk hOb (fun hm => by have := (hR.out.2.2.2.2.1 _ hm).2; omega) (fun k hk y hy e => by
        obtain ⟨q, hq⟩ := List.mem_iff_getElem?.1 hy
        rw [List.getElem?_take] at hq
        split at hq
        · exact hR.out.2.2.1.apart j q d y (by omega) Hd.out hq k hk e
        · cases hq) hM hK2
      rw [← take_snoc Hx.out, ← take_snoc Hd.out] at hP2
      have hk02 : Keep (fun k => k = D) w w2 := ((hR.out.2.2.2.1.trans (hka.trans' hkb) (fun _ _ h => h.elim)).trans hK2 fun i hi e => by have := hmmr.1; omega)
      have hsz2 : wr.heap.size + 2 ≤ w2.heap.size := by
        have := hK2.size
        rw [World.size_drew, World.size_alloc] at this
        omega
      have HR2 : Hid (w2.heap[D]? = some (.cells (diskC s { L with m1 := w1.heap.size }) 80 (0, 0)) ∧ Part w2 w1.heap.size (l.take (j + 1)) (fb ++ [wr.heap.size + 1]) (ds.take (j + 1)) ∧ Told w2 l (some ⟨g, 0, none⟩) c ds ∧ Keep (fun k => k = D) w w2 ∧ (∀ b ∈ fb ++ [wr.heap.size + 1], New w w2 b) ∧ New w w2 w1.heap.size) := by
        refine ⟨?_, hP2, ?_, hk02, ?_, hmmr.1, by have := hmmr.2; omega⟩
        · have hDb : (wa.drew.alloc (.cells #[.slice d.1 xd.length d.2, .int .i64 xs] 100)).heap[D]? = some (.cells (diskC s { L with m1 := w1.heap.size }) 80 (0, 0)) := (hkb.block D (lt_blk hDa) id).trans hDa
          exact (hK2.block D (lt_blk hDb) (hMb.ne_cells hDb).symm).trans hDb
        · exact (hTa.keep hkb fun _ _ h => h).keep hK2 fun k hk e => by
            subst e
            obtain ⟨es, ck, hb, _⟩ := hMb
            rcases hk with hk | ⟨z, hz, hk⟩
            · exact (hTa.keep hkb fun _ _ h => h).row.ne_map hb hk
            · obtain ⟨n1, xs1, ho⟩ := (hTa.keep hkb fun _ _ h => h).obj hz
              exact ho.ne_map hb hk
        · intro b hb
          rcases List.mem_append.1 hb with hb | hb
          · have := hR.out.2.2.2.2.1 b hb
            exact ⟨this.1, by have := this.2; omega⟩
          · simp at hb
            subst hb
            exact ⟨by omega, by omega⟩
      clear hP2 hk02 hM hK2 hPb hblk hOb hMb hkb hPa hMa hTa hOa hcells hDa hnew hka
      refine hK _ _ (fun h => absurd rfl h) (T_end ?_)
      go_wp2_with fail
      go_roundw
      case rel => exact ⟨j + 1, fb ++ [wr.heap.size + 1], by omega, by go_num, HR2⟩
      case measure => simp [RowKit.intOf]; omega
    · obtain rfl : j = l.length := by omega
      have hP := hR.out.2.1
      rw [List.take_length, List.take_of_length_le (by rw [hR.out.2.2.1.dl]; exact Nat.le_refl _)] at hP
      have hmap := hP.map
      rw [insUp_sorted hsd.out] at hmap
      have hD := hR.out.1
      have c1 : wr.cell? ⟨D, 1, none⟩ = some (.map (some w1.heap.size)) := (cell_blk hD 1).trans rfl
      have Hcl := Lib.hid (mclone hmap)
      have Hmap := Lib.hid hmap
      have HP := Lib.hid hP
      clear hmap hP hD
      go_wp2_with fail
      refine Hcl.out.mono ?_
      rintro e w2 ⟨rfl, hm2, hk2, hz2⟩
      have hD2 : w2.heap[D]? = some (.cells (diskC s { L with m1 := w1.heap.size }) 80 (0, 0)) := (hk2.block D (lt_blk hR.out.1) id).trans hR.out.1
      have hne2 : wr.heap.size ≠ D := fun e => by have := lt_blk hR.out.1; omega
      have d2 : w2.cell? ⟨D, 2, none⟩ = some (.map (some L.m2)) := (cell_blk hD2 2).trans rfl
      have d3 : w2.cell? ⟨D, 3, none⟩ = some (.slice L.cA s.changes.length L.cC) := (cell_blk hD2 3).trans rfl
      have d4 : w2.cell? ⟨D, 4, none⟩ = some (.int .i64 s.left) := (cell_blk hD2 4).trans rfl
      have d5 : w2.cell? ⟨D, 5, none⟩ = some (.int .i64 s.well) := (cell_blk hD2 5).trans rfl
      have d6 : w2.cell? ⟨D, 6, none⟩ = some (.int .i64 s.fails) := (cell_blk hD2 6).trans rfl
      have d7 : w2.cell? ⟨D, 7, none⟩ = some (.int .i64 s.part) := (cell_blk hD2 7).trans rfl
      have d8 : w2.cell? ⟨D, 8, none⟩ = some (.bool s.down) := (cell_blk hD2 8).trans rfl
      have z : ∀ q, w2.frozen? ⟨D, q, none⟩ = false := fun q => froz_blk hD2 q
      have z2 := z 2
      have z3 := z 3
      have z4 := z 4
      have z5 := z 5
      have z6 := z 6
      have z7 := z 7
      have z8 := z 8
      have Hm2 := Lib.hid hm2
      have Hk2 := Lib.hid hk2
      have HD2 := Lib.hid hD2
      clear hm2 hk2 hD2 z
      go_wp2_with fail
      go_end0
      rw [hfin.out]
      have k4 := (((((((Keep.refl (fun k => k = D) w2).setAt rfl 2 (.map (some wr.heap.size))).setAt rfl 3 (.slice none 0 0)).setAt rfl 4 (.int .i64 0)).setAt rfl 5 (.int .i64 0)).setAt rfl 6 (.int .i64 0)).setAt rfl 7 (.int .i64 0)).setAt rfl 8 (.bool false)
      have hb := set_blk (set_blk (set_blk (set_blk (set_blk (set_blk (set_blk HD2.out 2 (.map (some wr.heap.size))) 3 (.slice none 0 0)) 4 (.int .i64 0)) 5 (.int .i64 0)) 6 (.int .i64 0)) 7 (.int .i64 0)) 8 (.bool false)
      have k24 := (Hk2.out.mono (G := fun k => k = D) fun _ _ h => h.elim).trans' k4
      have kall := hR.out.2.2.2.1.trans' k24
      have hsz4 := k4.size
      generalize (((((((w2.setCell ⟨D, 2, none⟩ (.map (some wr.heap.size))).setCell ⟨D, 3, none⟩ (.slice none 0 0)).setCell ⟨D, 4, none⟩ (.int .i64 0)).setCell ⟨D, 5, none⟩ (.int .i64 0)).setCell ⟨D, 6, none⟩ (.int .i64 0)).setCell ⟨D, 7, none⟩ (.int .i64 0)).setCell ⟨D, 8, none⟩ (.bool false)) = w4 at *
      have hneM : w1.heap.size ≠ D := by have := hR.out.2.2.2.2.2.1; omega
      have hneF : ∀ k, footF fb ds k → k ≠ D := by
        rintro k (hk | ⟨z, hz, hk⟩)
        · have := (hR.out.2.2.2.2.1 k hk).1; omega
        · have := (hn1 k (.inr ⟨z, hz, hk⟩)).1; omega
      have hszr : w.heap.size ≤ wr.heap.size := hR.out.2.2.2.1.size
      have hszN : ∀ k, New w wr k → New w w4 k := fun k hk => ⟨hk.1, by have := hk.2; omega⟩
      refine ⟨rfl, { m1 := w1.heap.size, m2 := wr.heap.size, cA := none, cC := 0, fb := fb, fd := ds }, ⟨hb, ?_, ?_, Own.nil _ _ _, ?_, ?_⟩, kall.mono fun _ _ e => .inl e, ?_⟩
      · exact Hmap.out.keepF k24 hneM
      · exact Hm2.out.keepF k4 hne2
      · exact HP.out.files.same (S := footF fb ds) (fun k hk => k24.block k (HP.out.files.lt k hk) (hneF k hk)) fun _ h => h
      · have := hR.out.2.2.2.2.2.2
        simp only
        omega
      · rintro k (e | e | e | e | e)
        · exact .inl (.inl e)
        · subst e; exact .inr (hszN _ hR.out.2.2.2.2.2)
        · subst e; exact .inr ⟨hszr, by simp only; omega⟩
        · simp at e
        · rcases e with e | ⟨z, hz, e⟩
          · exact .inr (hszN _ (hR.out.2.2.2.2.1 k e))
          · have := hn1 k (.inr ⟨z, hz, e⟩)
            have h3 : w1.heap.size < wr.heap.size := hR.out.2.2.2.2.2.2
            exact .inr ⟨this.1, by have := this.2; omega⟩

end Go.Dx

namespace Go.Dx
open Go.RowKit Go.Proofs

abbrev FI := Nm × List UInt8 × Int
def tVI (x : FI) (d : Option Addr × Nat) : List Value := [.string x.1, .slice d.1 x.2.1.length d.2, .int .i64 x.2.2]
def tsVI (l : List FI) (ds : List (Option Addr × Nat)) : List Value := (l.zip ds).flatMap fun p => tVI p.1 p.2
/-- .. with whatever numbers of sure bytes. -/
structure TI (w : World) (l : List FI) (A : Option Addr) (c : Nat) (ds : List (Option Addr × Nat)) : Prop where
  row : Own w 60 3 A l.length c (tsVI l ds)
  dl : ds.length = l.length
  own : ∀ (i : Nat) (x : FI) (d : Option Addr × Nat), l[i]? = some x → ds[i]? = some d → Own w 5 1 d.1 x.2.1.length d.2 (BV x.2.1)
  apart : ∀ (i j : Nat) (x y : Option Addr × Nat), i ≠ j → ds[i]? = some x → ds[j]? = some y → ∀ k, bk x.1 = some k → bk y.1 ≠ some k
section
variable {w w' : World} {l : List FI} {A : Option Addr} {c : Nat} {ds : List (Option Addr × Nat)}
theorem tsVI_len (h : ds.length = l.length) : (tsVI l ds).length = l.length * 3 := by
  unfold tsVI
  induction l generalizing ds with
  | nil => simp
  | cons x l ih =>
    cases ds with
    | nil => simp at h
    | cons d ds =>
      simp only [List.length_cons, Nat.add_right_cancel_iff] at h
      have := ih h
      simp only [List.zip_cons_cons, List.flatMap_cons, List.length_append, List.length_cons] at *
      rw [this]
      simp only [tVI, List.length_cons, List.length_nil]
      omega
theorem tsVI_app (h : ds.length = l.length) (x : FI) (d : Option Addr × Nat) : tsVI (l ++ [x]) (ds ++ [d]) = tsVI l ds ++ tVI x d := by
  unfold tsVI
  rw [List.zip_append h.symm, List.flatMap_append]
  simp
theorem TI.nil (w : World) : TI w [] none 0 [] := ⟨Own.nil _ _ _, rfl, fun i x d h => by simp at h, fun i j x y _ h => by simp at h⟩
theorem TI.same (h : TI w l A c ds) {S : Nat → Prop} (hs : Same S w w') (hS : ∀ k, footT A ds k → S k) : TI w' l A c ds :=
  ⟨h.row.same hs fun k hk => hS k (.inl hk), h.dl, fun i x d hx hd => (h.own i x d hx hd).same hs fun k hk => hS k (.inr ⟨d, List.mem_of_getElem? hd, hk⟩), h.apart⟩
theorem TI.obj (h : TI w l A c ds) {d : Option Addr × Nat} (hd : d ∈ ds) : ∃ n xs, Own w 5 1 d.1 n d.2 xs := by
  obtain ⟨i, hi⟩ := List.mem_iff_getElem?.1 hd
  have hlt := (List.getElem?_eq_some_iff.1 hi).1
  rw [h.dl] at hlt
  exact ⟨_, _, h.own i _ d (List.getElem?_eq_getElem hlt) hi⟩
theorem TI.lt (h : TI w l A c ds) : ∀ k, footT A ds k → k < w.heap.size := by
  rintro k (hk | ⟨d, hd, hk⟩)
  · exact h.row.lt hk
  · obtain ⟨n, xs, ho⟩ := h.obj hd
    exact ho.lt hk
theorem TI.keep (h : TI w l A c ds) {F : Nat → Prop} (hk : Keep F w w') (hF : ∀ k, footT A ds k → ¬ F k) : TI w' l A c ds :=
  h.same (S := footT A ds) (fun k hk' => hk.block k (h.lt k hk') (hF k hk')) fun _ h => h
theorem TI.push (h : TI w l A c ds) {A' : Option Addr} {c' : Nat} {x : FI} {d : Option Addr × Nat} (hk : Keep (fun k => bk A = some k) w w') (hrow : Own w' 60 3 A' (l.length + 1) c' (tsVI l ds ++ tVI x d))
    (hd : Own w 5 1 d.1 x.2.1.length d.2 (BV x.2.1)) (hfar : ∀ k, bk d.1 = some k → ¬ footT A ds k) : TI w' (l ++ [x]) A' c' (ds ++ [d]) := by
  have hfar2 : ∀ d2 ∈ ds, ∀ k, bk d2.1 = some k → bk A ≠ some k := fun d2 hd2 k hk1 hk2 => by
    obtain ⟨n, xs, ho⟩ := h.obj hd2
    exact ho.ne h.row (by decide) k hk1 hk2
  have hl := h.dl
  refine ⟨by rw [tsVI_app h.dl, List.length_append]; exact hrow, by simp [h.dl], fun i y d2 hy hd2 => ?_, fun i j a b hij ha hb k hk1 hk2 => ?_⟩
  · by_cases hi : i < l.length
    · rw [List.getElem?_append_left hi] at hy
      rw [List.getElem?_append_left (by omega)] at hd2
      exact (h.own i y d2 hy hd2).keep hk fun k hk1 hk2 => hfar2 d2 (List.mem_of_getElem? hd2) k hk1 hk2
    · rw [List.getElem?_append_right (by omega)] at hy
      rw [List.getElem?_append_right (by omega)] at hd2
      have h0 : i - l.length = 0 := by
        have := (List.getElem?_eq_some_iff.1 hy).1
        simp at this; omega
      have h0' : i - ds.length = 0 := by omega
      rw [h0] at hy
      rw [h0'] at hd2
      simp at hy hd2
      subst hy; subst hd2
      exact hd.keep hk fun k hk1 hk2 => hfar k hk1 (.inl hk2)
  · by_cases hi : i < ds.length
    · rw [List.getElem?_append_left hi] at ha
      by_cases hj : j < ds.length
      · rw [List.getElem?_append_left hj] at hb
        exact h.apart i j a b hij ha hb k hk1 hk2
      · rw [List.getElem?_append_right (by omega)] at hb
        have h0 : j - ds.length = 0 := by
          have := (List.getElem?_eq_some_iff.1 hb).1
          simp at this; omega
        rw [h0] at hb
        simp at hb; subst hb
        exact hfar k hk2 (.inr ⟨a, List.mem_of_getElem? ha, hk1⟩)
    · rw [List.getElem?_append_right (by omega)] at ha
      have h0 : i - ds.length = 0 := by
        have := (List.getElem?_eq_some_iff.1 ha).1
        simp at this; omega
      rw [h0] at ha
      simp at ha; subst ha
      by_cases hj : j < ds.length
      · rw [List.getElem?_append_left hj] at hb
        exact hfar k hk1 (.inr ⟨b, List.mem_of_getElem? hb, hk2⟩)
      · rw [List.getElem?_append_right (by omega)] at hb
        have h1 := (List.getElem?_eq_some_iff.1 hb).1
        simp at h1
        omega
end


/-- A list of files that is read: each file's bytes are read too, all in S. -/
structure ArgF (w : World) (S : Nat → Prop) (A : Option Addr) (l : List FI) (fa : List (Option Addr × Nat)) : Prop where
  row : Rd w S A (tsVI l fa)
  len : fa.length = l.length
  data : ∀ (i : Nat) (x : FI) (d : Option Addr × Nat), l[i]? = some x → fa[i]? = some d → ArgB w S d.1 d.2 x.2.1
  lt : ∀ k, S k → k < w.heap.size
  name : ∀ x ∈ l, x.1.size ≤ 140737488355328
theorem ArgF.keep {w w' : World} {S F : Nat → Prop} {A : Option Addr} {l : List FI} {fa : List (Option Addr × Nat)} (h : ArgF w S A l fa) (hk : Keep F w w') (hF : ∀ k, S k → ¬ F k) : ArgF w' S A l fa :=
  ⟨h.row.same (T := S) (fun k hk' => hk.block k (h.lt k hk') (hF k hk')) fun _ h => h, h.len, fun i x d hx hd => (h.data i x d hx hd).keep hk hF, fun k hk' => Nat.lt_of_lt_of_le (h.lt k hk') hk.size, h.name⟩
theorem tsVI_get : ∀ (l : List FI) (ds : List (Option Addr × Nat)) (i : Nat) (x : FI) (d : Option Addr × Nat), l[i]? = some x → ds[i]? = some d → ∀ q, q < 3 → (tsVI l ds)[i * 3 + q]? = (tVI x d)[q]?
  | [], _, _, _, _, h, _, _, _ => by simp at h
  | _ :: _, [], _, _, _, _, h, _, _ => by simp at h
  | y :: l, e :: ds, 0, x, d, h, h2, q, hq => by
    simp at h h2; subst h; subst h2
    unfold tsVI
    rw [List.zip_cons_cons, List.flatMap_cons, List.getElem?_append_left (by simp [tVI]; omega), Nat.zero_mul, Nat.zero_add]
  | y :: l, e :: ds, i + 1, x, d, h, h2, q, hq => by
    simp at h h2
    have := tsVI_get l ds i x d h h2 q hq
    unfold tsVI at *
    rw [List.zip_cons_cons, List.flatMap_cons, List.getElem?_append_right (by simp [tVI]; omega)]
    rw [← this]
    congr 1
    simp [tVI]; omega
theorem ArgF.at {w : World} {S : Nat → Prop} {A : Option Addr} {l : List FI} {fa : List (Option Addr × Nat)} (h : ArgF w S A l fa) {i : Nat} {x : FI} (hx : l[i]? = some x) :
    ∃ b o d, A = some ⟨b, o, none⟩ ∧ S b ∧ fa[i]? = some d ∧ w.cell? ⟨b, o + i * 3, none⟩ = some (.string x.1) ∧ w.cell? ⟨b, o + i * 3 + 1, none⟩ = some (.slice d.1 x.2.1.length d.2) ∧ w.cell? ⟨b, o + i * 3 + 2, none⟩ = some (.int .i64 x.2.2) ∧ ArgB w S d.1 d.2 x.2.1 := by
  have hil := (List.getElem?_eq_some_iff.1 hx).1
  have hdl : i < fa.length := by rw [h.len]; exact hil
  have hd : fa[i]? = some fa[i] := List.getElem?_eq_getElem hdl
  generalize fa[i] = d at hd
  have key := fun q hq => tsVI_get l fa i x d hx hd q hq
  obtain ⟨b, o, hA, hS, hr⟩ := h.row (by rw [tsVI_len h.len]; omega)
  refine ⟨b, o, d, hA, hS, hd, ?_, ?_, ?_, h.data i x d hx hd⟩
  · exact hr (i * 3) _ (key 0 (by omega))
  · have := hr (i * 3 + 1) _ (key 1 (by omega))
    rwa [← Nat.add_assoc] at this
  · have := hr (i * 3 + 2) _ (key 2 (by omega))
    rwa [← Nat.add_assoc] at this

/-! ### which lists a disk can begin with -/
def okF (l : List FI) (x : FI) : Prop := right x.1 = true ∧ (∀ y ∈ l, y.1 ≠ x.1) ∧ x.2.1.length ≤ 2147483648 ∧ 0 ≤ x.2.2 ∧ x.2.2 ≤ x.2.1.length
def okFs (l : List FI) : Prop := ∀ j x, l[j]? = some x → okF (l.take j) x
def sumF (l : List FI) : Nat := (l.map fun x => x.2.1.length).sum
def newOk (room : Int) (l : List FI) : Prop := 0 ≤ room ∧ l.length ≤ 8388608 ∧ okFs l ∧ (room = 0 ∨ (sumF l : Int) ≤ room)
def toN (x : FI) : FT := (x.1, x.2.1, x.2.2.toNat)
/-- The disk that begins so. -/
def St.mkI (room : Int) (l : List FI) : St := { room := room.toNat, files := l.map fun x => fvOf (toN x), now := insUp l, sure := insUp l, changes := [], left := 0, well := 0, fails := 0, part := 0, down := false }
theorem sumF_take {l : List FI} {j : Nat} {x : FI} (h : l[j]? = some x) : sumF (l.take (j + 1)) = sumF (l.take j) + x.2.1.length := by
  unfold sumF
  rw [take_snoc h]
  simp
theorem sumF_le (l : List FI) (j : Nat) : sumF (l.take j) ≤ sumF l := by
  have : sumF l = sumF (l.take j) + sumF (l.drop j) := by
    unfold sumF
    rw [← List.sum_append_nat, ← List.map_append, List.take_append_drop]
  omega
theorem sumF_bound {l : List FI} (h : okFs l) (hl : l.length ≤ 8388608) : sumF l ≤ 18014398509481984 := by
  have := sum_le (fun x : FI => x.2.1.length) 2147483648 l fun x hx => by
    obtain ⟨i, hi⟩ := List.mem_iff_getElem?.1 hx
    exact (h i x hi).2.2.1
  unfold sumF
  have h3 : l.length * 2147483648 ≤ 8388608 * 2147483648 := Nat.mul_le_mul_right _ hl
  omega
theorem insUp_map {α β : Type} (f : Nm × α → Nm × β) (hf : ∀ x, (f x).1 = x.1) (l : List (Nm × α)) : insUp (l.map f) = insUp l := by
  unfold insUp
  congr 1
  unfold nowOf
  apply List.ext_getElem?
  intro i
  simp only [List.getElem?_mapIdx, List.getElem?_map]
  cases l[i]? with
  | none => rfl
  | some x => simp [hf]

end Go.Dx

namespace Go.Dx
open Go.RowKit Go.Proofs

def newC (room : Int) (mm : Nat) : Array Value := #[.int .i64 room, .map (some mm), .map none, .slice none 0 0, .int .i64 0, .int .i64 0, .int .i64 0, .int .i64 0, .bool false]
/-- What New has come to. -/
def NewR (w : World) (room : Int) (l : List FI) (e : Ending) (w' : World) : Prop :=
  (¬ newOk room l ∧ e = .returned (.tuple #[.pointer none, .int .i64 36]) ∧ Keep No w w') ∨
  (newOk room l ∧ ∃ D L, e = .returned (.tuple #[.pointer (some ⟨D, 0, none⟩), .int .i64 0]) ∧ PDL w' D (St.mkI room l) L ∧ Keep No w w' ∧ ∀ k, foot D L k → New w w' k)

set_option maxRecDepth 100000 in
set_option maxHeartbeats 8000000 in
theorem new_any {w : World} (room : Int) (hr63 : room < 9223372036854775808) {S : Nat → Prop} {A : Option Addr} {c : Nat} {l : List FI} {fa : List (Option Addr × Nat)} (ha : ArgF w S A l fa) (hl63 : l.length < 9223372036854775808) :
    Calls Try.prog 17 #[.int .i64 room, .slice A l.length c] w (NewR w room l) := by
  have hmk : ∀ W, (Instr.makeMap 75 none).run Try.prog W = .ok (.map (some W.heap.size)) (W.alloc (.map #[] 0)) := fun W => rfl
  have HA := Lib.hid ha
  clear ha
  by_cases hro : room < 0
  · have hno : Hid (¬ newOk room l) := fun h => by have := h.1; omega
    go_enter Try.func17, Try.ntmps17
    go_wp2_with fail
    go_ret2
    exact .inl ⟨hno.out, rfl, ((Keep.refl No w).alloc _).alloc _⟩
  · have hro' : (0 : Int) ≤ room := by omega
    by_cases hlen : 8388608 < l.length
    · have hno : Hid (¬ newOk room l) := fun h => by have := h.2.1; omega
      have hlen' : decide ((8388608 : Int) < l.length) = true := decide_eq_true (by omega)
      go_enter Try.func17, Try.ntmps17
      go_wp2_with fail
      go_ret2
      exact .inl ⟨hno.out, rfl, ((Keep.refl No w).alloc _).alloc _⟩
    · have hlen' : decide ((8388608 : Int) < l.length) = false := decide_eq_false (by omega)
      have hlen2 : l.length ≤ 8388608 := by omega
      go_enter Try.func17, Try.ntmps17
      go_wp2_with fail
      have hstart : Hid (((w.alloc (.map #[] 0)).alloc (.cells (newC room w.heap.size) 80)).heap[w.heap.size + 1]? = some (.cells (newC room w.heap.size) 80 (0, 0)) ∧ Part ((w.alloc (.map #[] 0)).alloc (.cells (newC room w.heap.size) 80)) w.heap.size ((l.take 0).map toN) [] [] ∧
          Keep No w ((w.alloc (.map #[] 0)).alloc (.cells (newC room w.heap.size) 80)) ∧ (∀ k, footF [] [] k → New w ((w.alloc (.map #[] 0)).alloc (.cells (newC room w.heap.size) 80)) k) ∧ New w ((w.alloc (.map #[] 0)).alloc (.cells (newC room w.heap.size) 80)) w.heap.size ∧ okFs (l.take 0) ∧ (room = 0 ∨ (sumF (l.take 0) : Int) ≤ room)) := by
        have hsz : ((w.alloc (.map #[] 0)).alloc (.cells (newC room w.heap.size) 80)).heap.size = w.heap.size + 2 := by simp
        refine ⟨?_, Part.nil _ _ ((MapP.made w).same (alloc_old _ _ (by simp))), ((Keep.refl No w).alloc _).alloc _, ?_, ⟨Nat.le_refl _, by omega⟩, ?_, ?_⟩
        · have := alloc_new (w.alloc (.map #[] 0)) (.cells (newC room w.heap.size) 80)
          rw [World.size_alloc] at this
          exact this
        · rintro k (hk | ⟨x, hx, _⟩)
          · cases hk
          · cases hx
        · intro j x hx; simp at hx
        · simp [sumF]; omega
      go_loopw [7, 23] (fun v i wr => ∃ (j : Nat) (fb : List Nat) (fd : List (Option Addr × Nat)), j ≤ l.length ∧ v = .int .i64 (sumF (l.take j)) ∧ i = .int .i64 j ∧ Hid (wr.heap[w.heap.size + 1]? = some (.cells (newC room w.heap.size) 80 (0, 0)) ∧ Part wr w.heap.size ((l.take j).map toN) fb fd ∧
          Keep No w wr ∧ (∀ k, footF fb fd k → New w wr k) ∧ New w wr w.heap.size ∧ okFs (l.take j) ∧ (room = 0 ∨ (sumF (l.take j) : Int) ≤ room))) (fun _ i _ => l.length - (RowKit.intOf i).toNat)
      case atStart => exact ⟨0, [], [], Nat.zero_le _, rfl, rfl, hstart⟩
      case round =>
        clear hstart hmk
        obtain ⟨j, fb, fd, hj, rfl, rfl, hR⟩ := hrel
        by_cases hlt : j < l.length
        · have hlt' : (j : Int) < l.length := by omega
          obtain ⟨x, hx⟩ : ∃ x, l[j]? = some x := ⟨_, List.getElem?_eq_getElem hlt⟩
          have hAr := HA.out.keep hR.out.2.2.1 fun _ _ h => h
          obtain ⟨b, o, d, rfl, hSb, hd, q0, q1, q2, hArg⟩ := hAr.at hx
          obtain ⟨xn, xd, xs⟩ := x
          have hnm := HA.out.name _ (List.mem_of_getElem? hx)
          simp only at q0 q1 q2 hArg hnm
          have Hok := Lib.hid (fun W => okA_any xn W hnm)
          have Hx := Lib.hid hx
          have HArg := Lib.hid hArg
          clear hx hd hArg hAr
          go_wp2_with fail
          have hka : Keep No wr (wr.alloc (.cells #[.string xn, .slice d.1 xd.length d.2, .int .i64 xs] 60)) := (Keep.refl No wr).alloc _
          have hnew : (wr.alloc (.cells #[.string xn, .slice d.1 xd.length d.2, .int .i64 xs] 60)).heap[wr.heap.size]? = some (.cells #[.string xn, .slice d.1 xd.length d.2, .int .i64 xs] 60 (0, 0)) := alloc_new wr _
          have hsza : (wr.alloc (.cells #[.string xn, .slice d.1 xd.length d.2, .int .i64 xs] 60)).heap.size = wr.heap.size + 1 := World.size_alloc _ _
          generalize wr.alloc (.cells #[.string xn, .slice d.1 xd.length d.2, .int .i64 xs] 60) = wa at *
          have hDa : wa.heap[w.heap.size + 1]? = some (.cells (newC room w.heap.size) 80 (0, 0)) := (hka.block _ (lt_blk hR.out.1) id).trans hR.out.1
          have hPa := hR.out.2.1.keep hka id fun _ _ h => h
          have hcells : Hid (∀ W, Keep No wa W → (W.cell? ⟨wr.heap.size, 0, none⟩ = some (.string xn) ∧ W.cell? ⟨wr.heap.size, 1, none⟩ = some (.slice d.1 xd.length d.2) ∧ W.cell? ⟨wr.heap.size, 2, none⟩ = some (.int .i64 xs) ∧ W.cell? ⟨w.heap.size + 1, 1, none⟩ = some (.map (some w.heap.size)) ∧
              (Instr.lookup 75 (.map (some w.heap.size)) (.string xn) false).run Try.prog W = .ok (lookV fb (get (insUp (l.take j)) xn)) W)) := by
            intro W hW
            have hb : W.heap[wr.heap.size]? = some (.cells #[.string xn, .slice d.1 xd.length d.2, .int .i64 xs] 60 (0, 0)) := (hW.block _ (lt_blk hnew) id).trans hnew
            have hD : W.heap[w.heap.size + 1]? = some (.cells (newC room w.heap.size) 80 (0, 0)) := (hW.block _ (lt_blk hDa) id).trans hDa
            have hM := (hPa.keep hW id fun _ _ h => h).map
            rw [insUp_map toN (fun _ => rfl)] at hM
            exact ⟨(cell_blk hb 0).trans rfl, (cell_blk hb 1).trans rfl, (cell_blk hb 2).trans rfl, (cell_blk hD 1).trans rfl, run_look hM xn⟩
          have hdup := insUp_get l xn j hj
          have Hdup := Lib.hid hdup
          have Hnew := Lib.hid hnew
          have HDa := Lib.hid hDa
          have HPa := Lib.hid hPa
          have Hka := Lib.hid hka
          clear hdup hnew hDa hPa hka
          cases hrt : right xn with
          | false =>
            have hno : Hid (¬ newOk room l) := fun h => by
              have := (h.2.2.1 j _ Hx.out).1
              simp only at this
              rw [hrt] at this; cases this
            rw [hrt] at Hok
            clear hrt
            refine wp_region_T (Keep No wa) [(0, true), (1, true), (2, false), (3, true), (4, true), (5, true), (6, true), (7, true), (8, true), (9, true), (10, true), (11, true), (12, true), (13, true), (14, true), (15, true), (16, true), (17, true), (18, true), (19, true), (20, true), (21, true), (22, true), (23, true), (24, true), (25, true), (26, true), (27, true), (28, true), (29, true), (30, true), (31, true), (32, false)] (by kernel_rfl) (by kernel_rfl) (Keep.refl _ _).drew ?_
            iterate 2
              (apply T_read rfl (by rfl)
               (· (intro W hW; have hc := hcells.out W hW; go_simp; try with_reducible rfl))
               (simp only [Act.put, List.getElem_toArray, List.getElem_cons_succ, List.getElem_cons_zero, List.setIfInBounds_toArray, List.set_cons_zero, List.set_cons_succ]))
            refine T_do rfl (by rfl) (fun K hK => ?_)
            go_simp
            refine (Hok.out _).mono ?_
            rintro e w2 ⟨rfl, hk2⟩
            have hk2 := hk2.of_drew
            refine hK _ _ (fun _ => hk2) ?_
            try (simp only [Act.put, List.getElem_toArray, List.getElem_cons_succ, List.getElem_cons_zero, List.setIfInBounds_toArray, List.set_cons_zero, List.set_cons_succ])
            iterate 29
              first
                | (apply T_read rfl (by rfl)
                   (· (intro W hW; have hc := hcells.out W hW; go_simp; try with_reducible rfl))
                   (simp only [Act.put, List.getElem_toArray, List.getElem_cons_succ, List.getElem_cons_zero, List.setIfInBounds_toArray, List.set_cons_zero, List.set_cons_succ]))
                | (apply T_skip rfl (by rfl)
                   (simp only [Act.put, List.getElem_toArray, List.getElem_cons_succ, List.getElem_cons_zero, List.setIfInBounds_toArray, List.set_cons_zero, List.set_cons_succ]))
            refine T_do rfl (by rfl) (fun K hK => ?_)
            go_simp
            refine hK _ _ (fun h => absurd rfl h) (T_end ?_)
            go_wp2_with fail
            go_ret2
            exact .inl ⟨hno.out, rfl, hR.out.2.2.1.trans' (Hka.out.trans' hk2)⟩
          | true =>
            rw [hrt] at Hok
            cases hgt : get (insUp (l.take j)) xn with
            | some i0 =>
              have hno : Hid (¬ newOk room l) := fun h => by
                obtain ⟨y, hy, e⟩ := Hdup.out.1 (by rw [hgt]; rfl)
                exact (h.2.2.1 j _ Hx.out).2.1 y hy e
              rw [hgt] at hcells
              simp only [lookV, ptrV] at hcells
              clear hrt hgt
              refine wp_region_T (Keep No wa) [(0, true), (1, true), (2, false), (3, true), (4, true), (5, true), (6, true), (7, true), (8, true), (9, true), (10, true), (11, true), (12, true), (13, true), (14, true), (15, true), (16, true), (17, true), (18, true), (19, true), (20, true), (21, true), (22, true), (23, true), (24, true), (25, true), (26, true), (27, true), (28, true), (29, true), (30, true), (31, true), (32, false)] (by kernel_rfl) (by kernel_rfl) (Keep.refl _ _).drew ?_
              iterate 2
                (apply T_read rfl (by rfl)
                 (· (intro W hW; have hc := hcells.out W hW; go_simp; try with_reducible rfl))
                 (simp only [Act.put, List.getElem_toArray, List.getElem_cons_succ, List.getElem_cons_zero, List.setIfInBounds_toArray, List.set_cons_zero, List.set_cons_succ]))
              refine T_do rfl (by rfl) (fun K hK => ?_)
              go_simp
              refine (Hok.out _).mono ?_
              rintro e w2 ⟨rfl, hk2⟩
              have hk2 := hk2.of_drew
              refine hK _ _ (fun _ => hk2) ?_
              try (simp only [Act.put, List.getElem_toArray, List.getElem_cons_succ, List.getElem_cons_zero, List.setIfInBounds_toArray, List.set_cons_zero, List.set_cons_succ])
              iterate 29
                first
                  | (apply T_read rfl (by rfl)
                     (· (intro W hW; have hc := hcells.out W hW; go_simp; try with_reducible rfl))
                     (simp only [Act.put, List.getElem_toArray, List.getElem_cons_succ, List.getElem_cons_zero, List.setIfInBounds_toArray, List.set_cons_zero, List.set_cons_succ]))
                  | (apply T_skip rfl (by rfl)
                     (simp only [Act.put, List.getElem_toArray, List.getElem_cons_succ, List.getElem_cons_zero, List.setIfInBounds_toArray, List.set_cons_zero, List.set_cons_succ]))
              refine T_do rfl (by rfl) (fun K hK => ?_)
              go_simp
              refine hK _ _ (fun h => absurd rfl h) (T_end ?_)
              go_wp2_with fail
              go_ret2
              exact .inl ⟨hno.out, rfl, hR.out.2.2.1.trans' (Hka.out.trans' hk2)⟩
            | none =>
              rw [hgt] at hcells
              simp only [lookV] at hcells
              by_cases hx3 : 2147483648 < xd.length
              · have t3 : decide ((2147483648 : Int) < xd.length) = true := decide_eq_true (by omega)
                have hno : Hid (¬ newOk room l) := fun h => by
                  have := (h.2.2.1 j _ Hx.out).2.2.1
                  simp only at this
                  omega
                clear hrt hgt hx3
                refine wp_region_T (Keep No wa) [(0, true), (1, true), (2, false), (3, true), (4, true), (5, true), (6, true), (7, true), (8, true), (9, true), (10, true), (11, true), (12, true), (13, true), (14, true), (15, true), (16, true), (17, true), (18, true), (19, true), (20, true), (21, true), (22, true), (23, true), (24, true), (25, true), (26, true), (27, true), (28, true), (29, true), (30, true), (31, true), (32, false)] (by kernel_rfl) (by kernel_rfl) (Keep.refl _ _).drew ?_
                iterate 2
                  (apply T_read rfl (by rfl)
                   (· (intro W hW; have hc := hcells.out W hW; go_simp; try with_reducible rfl))
                   (simp only [Act.put, List.getElem_toArray, List.getElem_cons_succ, List.getElem_cons_zero, List.setIfInBounds_toArray, List.set_cons_zero, List.set_cons_succ]))
                refine T_do rfl (by rfl) (fun K hK => ?_)
                go_simp
                refine (Hok.out _).mono ?_
                rintro e w2 ⟨rfl, hk2⟩
                have hk2 := hk2.of_drew
                refine hK _ _ (fun _ => hk2) ?_
                try (simp only [Act.put, List.getElem_toArray, List.getElem_cons_succ, List.getElem_cons_zero, List.setIfInBounds_toArray, List.set_cons_zero, List.set_cons_succ])
                iterate 29
                  first
                    | (apply T_read rfl (by rfl)
                       (· (intro W hW; have hc := hcells.out W hW; go_simp; try with_reducible rfl))
                       (simp only [Act.put, List.getElem_toArray, List.getElem_cons_succ, List.getElem_cons_zero, List.setIfInBounds_toArray, List.set_cons_zero, List.set_cons_succ]))
                    | (apply T_skip rfl (by rfl)
                       (simp only [Act.put, List.getElem_toArray, List.getElem_cons_succ, List.getElem_cons_zero, List.setIfInBounds_toArray, List.set_cons_zero, List.set_cons_succ]))
                refine T_do rfl (by rfl) (fun K hK => ?_)
                go_simp
                refine hK _ _ (fun h => absurd rfl h) (T_end ?_)
                go_wp2_with fail
                go_ret2
                exact .inl ⟨hno.out, rfl, hR.out.2.2.1.trans' (Hka.out.trans' hk2)⟩
              · have t3 : decide ((2147483648 : Int) < xd.length) = false := decide_eq_false (by omega)
                have hx3 := Lib.hid hx3
                by_cases hx4 : xs < 0
                · have hno : Hid (¬ newOk room l) := fun h => by
                    have := (h.2.2.1 j _ Hx.out).2.2.2.1
                    simp only at this
                    omega
                  clear hrt hgt
                  refine wp_region_T (Keep No wa) [(0, true), (1, true), (2, false), (3, true), (4, true), (5, true), (6, true), (7, true), (8, true), (9, true), (10, true), (11, true), (12, true), (13, true), (14, true), (15, true), (16, true), (17, true), (18, true), (19, true), (20, true), (21, true), (22, true), (23, true), (24, true), (25, true), (26, true), (27, true), (28, true), (29, true), (30, true), (31, true), (32, false)] (by kernel_rfl) (by kernel_rfl) (Keep.refl _ _).drew ?_
                  iterate 2
                    (apply T_read rfl (by rfl)
                     (· (intro W hW; have hc := hcells.out W hW; go_simp; try with_reducible rfl))
                     (simp only [Act.put, List.getElem_toArray, List.getElem_cons_succ, List.getElem_cons_zero, List.setIfInBounds_toArray, List.set_cons_zero, List.set_cons_succ]))
                  refine T_do rfl (by rfl) (fun K hK => ?_)
                  go_simp
                  refine (Hok.out _).mono ?_
                  rintro e w2 ⟨rfl, hk2⟩
                  have hk2 := hk2.of_drew
                  refine hK _ _ (fun _ => hk2) ?_
                  try (simp only [Act.put, List.getElem_toArray, List.getElem_cons_succ, List.getElem_cons_zero, List.setIfInBounds_toArray, List.set_cons_zero, List.set_cons_succ])
                  iterate 29
                    first
                      | (apply T_read rfl (by rfl)
                         (· (intro W hW; have hc := hcells.out W hW; go_simp; try with_reducible rfl))
                         (simp only [Act.put, List.getElem_toArray, List.getElem_cons_succ, List.getElem_cons_zero, List.setIfInBounds_toArray, List.set_cons_zero, List.set_cons_succ]))
                      | (apply T_skip rfl (by rfl)
                         (simp only [Act.put, List.getElem_toArray, List.getElem_cons_succ, List.getElem_cons_zero, List.setIfInBounds_toArray, List.set_cons_zero, List.set_cons_succ]))
                  refine T_do rfl (by rfl) (fun K hK => ?_)
                  go_simp
                  refine hK _ _ (fun h => absurd rfl h) (T_end ?_)
                  go_wp2_with fail
                  go_ret2
                  exact .inl ⟨hno.out, rfl, hR.out.2.2.1.trans' (Hka.out.trans' hk2)⟩
                · have hx4' : (0 : Int) ≤ xs := by omega
                  by_cases hx5 : (xd.length : Int) < xs
                  · have hno : Hid (¬ newOk room l) := fun h => by
                      have := (h.2.2.1 j _ Hx.out).2.2.2.2
                      simp only at this
                      omega
                    clear hrt hgt
                    refine wp_region_T (Keep No wa) [(0, true), (1, true), (2, false), (3, true), (4, true), (5, true), (6, true), (7, true), (8, true), (9, true), (10, true), (11, true), (12, true), (13, true), (14, true), (15, true), (16, true), (17, true), (18, true), (19, true), (20, true), (21, true), (22, true), (23, true), (24, true), (25, true), (26, true), (27, true), (28, true), (29, true), (30, true), (31, true), (32, false)] (by kernel_rfl) (by kernel_rfl) (Keep.refl _ _).drew ?_
                    iterate 2
                      (apply T_read rfl (by rfl)
                       (· (intro W hW; have hc := hcells.out W hW; go_simp; try with_reducible rfl))
                       (simp only [Act.put, List.getElem_toArray, List.getElem_cons_succ, List.getElem_cons_zero, List.setIfInBounds_toArray, List.set_cons_zero, List.set_cons_succ]))
                    refine T_do rfl (by rfl) (fun K hK => ?_)
                    go_simp
                    refine (Hok.out _).mono ?_
                    rintro e w2 ⟨rfl, hk2⟩
                    have hk2 := hk2.of_drew
                    refine hK _ _ (fun _ => hk2) ?_
                    try (simp only [Act.put, List.getElem_toArray, List.getElem_cons_succ, List.getElem_cons_zero, List.setIfInBounds_toArray, List.set_cons_zero, List.set_cons_succ])
                    iterate 29
                      first
                        | (apply T_read rfl (by rfl)
                           (· (intro W hW; have hc := hcells.out W hW; go_simp; try with_reducible rfl))
                           (simp only [Act.put, List.getElem_toArray, List.getElem_cons_succ, List.getElem_cons_zero, List.setIfInBounds_toArray, List.set_cons_zero, List.set_cons_succ]))
                        | (apply T_skip rfl (by rfl)
                           (simp only [Act.put, List.getElem_toArray, List.getElem_cons_succ, List.getElem_cons_zero, List.setIfInBounds_toArray, List.set_cons_zero, List.set_cons_succ]))
                    refine T_do rfl (by rfl) (fun K hK => ?_)
                    go_simp
                    refine hK _ _ (fun h => absurd rfl h) (T_end ?_)
                    go_wp2_with fail
                    go_ret2
                    exact .inl ⟨hno.out, rfl, hR.out.2.2.1.trans' (Hka.out.trans' hk2)⟩
                  · have hx5' : xs ≤ (xd.length : Int) := by omega
                    have hokx : okF (l.take j) (xn, xd, xs) := by
                      refine ⟨hrt, fun y hy e => ?_, Nat.le_of_not_lt hx3.out, hx4', hx5'⟩
                      have := Hdup.out.2 ⟨y, hy, e⟩
                      rw [hgt] at this; cases this
                    have hoks : Hid (okFs (l.take (j + 1))) := by
                      intro q y hy
                      rw [List.getElem?_take] at hy
                      split at hy
                      · rename_i hq
                        rw [List.take_take, Nat.min_eq_left (by omega)]
                        by_cases hqj : q = j
                        · subst hqj
                          rw [Hx.out] at hy
                          cases hy
                          exact hokx
                        · have := hR.out.2.2.2.2.2.1 q y (by rw [List.getElem?_take, if_pos (by omega)]; exact hy)
                          rw [List.take_take, Nat.min_eq_left (by omega)] at this
                          exact this
                      · cases hy
                    have hsum := sumF_take Hx.out
                    simp only at hsum
                    have hsle := sumF_le l (j + 1)
                    have hsb : sumF (l.take j) ≤ 18014398509481984 := sumF_bound hR.out.2.2.2.2.2.1 (by rw [List.length_take]; omega)
                    have Hsum := Lib.hid hsum
                    have Hsle := Lib.hid hsle
                    have Hgt := Lib.hid hgt
                    clear hrt hgt hokx hsum hsle
                    refine wp_region_T (Keep No wa) [(0, true), (1, true), (2, false), (3, true), (4, true), (5, true), (6, true), (7, true), (8, true), (9, true), (10, true), (11, true), (12, true), (13, true), (14, true), (15, true), (16, true), (17, true), (18, true), (19, true), (20, true), (21, true), (22, true), (23, true), (24, true), (25, true), (26, true), (27, true), (28, true), (29, true), (30, true), (31, true), (32, false)] (by kernel_rfl) (by kernel_rfl) (Keep.refl _ _).drew ?_
                    iterate 2
                      (apply T_read rfl (by rfl)
                       (· (intro W hW; have hc := hcells.out W hW; go_simp; try with_reducible rfl))
                       (simp only [Act.put, List.getElem_toArray, List.getElem_cons_succ, List.getElem_cons_zero, List.setIfInBounds_toArray, List.set_cons_zero, List.set_cons_succ]))
                    refine T_do rfl (by rfl) (fun K hK => ?_)
                    go_simp
                    refine (Hok.out _).mono ?_
                    rintro e w2 ⟨rfl, hk2⟩
                    have hk2 := hk2.of_drew
                    refine hK _ _ (fun _ => hk2) ?_
                    try (simp only [Act.put, List.getElem_toArray, List.getElem_cons_succ, List.getElem_cons_zero, List.setIfInBounds_toArray, List.set_cons_zero, List.set_cons_succ])
                    iterate 29
                      first
                        | (apply T_read rfl (by rfl)
                           (· (intro W hW; have hc := hcells.out W hW; go_simp; try with_reducible rfl))
                           (simp only [Act.put, List.getElem_toArray, List.getElem_cons_succ, List.getElem_cons_zero, List.setIfInBounds_toArray, List.set_cons_zero, List.set_cons_succ]))
                        | (apply T_skip rfl (by rfl)
                           (simp only [Act.put, List.getElem_toArray, List.getElem_cons_succ, List.getElem_cons_zero, List.setIfInBounds_toArray, List.set_cons_zero, List.set_cons_succ]))
                    refine T_do rfl (by rfl) (fun K hK => ?_)
                    go_simp
                    refine hK _ _ (fun h => absurd rfl h) (T_end ?_)
                    obtain ⟨m, rfl⟩ := Int.eq_ofNat_of_zero_le hx4'
                    have Hk2 := Lib.hid (Hka.out.trans' hk2)
                    have Hkw := Lib.hid hk2
                    have hxl : xd.length ≤ 2147483648 := Nat.le_of_not_lt hx3.out
                    obtain ⟨sm, hsm⟩ : ∃ sm : Nat, sm = sumF (l.take (j + 1)) := ⟨_, rfl⟩
                    have hadd : ((sumF (l.take j) : Nat) : Int) + xd.length = sm := by rw [hsm, Hsum.out]; omega
                    have Hsm := Lib.hid hsm
                    have Hcw := Lib.hid (fun W (hW : Keep No w2 W) => hcells.out W (hk2.trans' hW))
                    have HRp := Lib.hid hR.out
                    obtain ⟨e0, e1, e2, e3, e4⟩ := hcells.out w2 hk2
                    clear hsm hk2 hcells hR
                    have hway : (room = 0) ∨ (room ≠ 0 ∧ decide (room < (sm : Int)) = true) ∨ (room ≠ 0 ∧ decide (room < (sm : Int)) = false) := by
                      by_cases h0 : room = 0
                      · exact .inl h0
                      · by_cases h1 : room < (sm : Int)
                        · exact .inr (.inl ⟨h0, decide_eq_true h1⟩)
                        · exact .inr (.inr ⟨h0, decide_eq_false h1⟩)
                    rcases hway with hw0 | ⟨hw0, hw1⟩ | ⟨hw0, hw1⟩
                    rotate_left
                    · have hno : Hid (¬ newOk room l) := fun h => by
                        rcases h.2.2.2 with h | h
                        · exact hw0 h
                        · have h1 := Hsle.out
                          have h2 := of_decide_eq_true hw1
                          have h3 := Hsm.out
                          omega
                      have t0 : (room != 0) = true := by simp [hw0]
                      clear hw0
                      go_wp2_with fail
                      go_ret2
                      exact .inl ⟨hno.out, rfl, HRp.out.2.2.1.trans' Hk2.out⟩
                    all_goals
                      first
                        | have t0 : (room != 0) = true := by simp [hw0]
                        | have t0 : (room != 0) = false := by simp [hw0]
                      have hle : Hid (room = 0 ∨ (sumF (l.take (j + 1)) : Int) ≤ room) := by
                        first
                          | exact .inl hw0
                          | (right; rw [← Hsm.out]; exact Int.not_lt.1 (of_decide_eq_false hw1))
                      clear hw0
                      go_wp2_with fail
                      have hb2 : w2.heap[wr.heap.size]? = some (.cells #[.string xn, .slice d.1 xd.length d.2, .int .i64 m] 60 (0, 0)) := by
                        rw [Hkw.out.block _ (lt_blk Hnew.out) id]; exact Hnew.out
                      have hD2 : w2.heap[w.heap.size + 1]? = some (.cells (newC room w.heap.size) 80 (0, 0)) := by
                        rw [Hkw.out.block _ (lt_blk HDa.out) id]; exact HDa.out
                      have hP2 := HPa.out.keep Hkw.out id fun _ _ h => h
                      have hArg2 := HArg.out.keep Hk2.out fun _ _ h => h
                      have hcells : Hid (∀ W, Keep (fun k => k = w.heap.size) w2 W → (W.cell? ⟨wr.heap.size, 0, none⟩ = some (.string xn) ∧ W.cell? ⟨wr.heap.size, 1, none⟩ = some (.slice d.1 xd.length d.2) ∧ W.cell? ⟨wr.heap.size, 2, none⟩ = some (.int .i64 m) ∧ W.cell? ⟨w.heap.size + 1, 1, none⟩ = some (.map (some w.heap.size)))) := by
                        intro W hW
                        have hb : W.heap[wr.heap.size]? = some (.cells #[.string xn, .slice d.1 xd.length d.2, .int .i64 m] 60 (0, 0)) := (hW.block _ (lt_blk hb2) (hP2.map.ne_cells hb2).symm).trans hb2
                        have hD : W.heap[w.heap.size + 1]? = some (.cells (newC room w.heap.size) 80 (0, 0)) := (hW.block _ (lt_blk hD2) (hP2.map.ne_cells hD2).symm).trans hD2
                        exact ⟨(cell_blk hb 0).trans rfl, (cell_blk hb 1).trans rfl, (cell_blk hb 2).trans rfl, (cell_blk hD 1).trans rfl⟩
                      clear e0 e1 e2 e3 e4
                      refine wp_region_T (Keep (fun k => k = w.heap.size) w2) [(0, true), (1, true), (2, true), (3, true), (4, true), (5, true), (6, true), (7, true), (9, true), (10, true), (8, false), (11, true), (12, false), (13, false)] (by kernel_rfl) (by kernel_rfl) (Keep.refl _ _).drew ?_
                      iterate 10
                        (apply T_read rfl (by rfl)
                         (· (intro W hW; have hc := hcells.out W hW; go_simp; try with_reducible rfl))
                         (simp only [Act.put, List.getElem_toArray, List.getElem_cons_succ, List.getElem_cons_zero, List.setIfInBounds_toArray, List.set_cons_zero, List.set_cons_succ]))
                      refine T_do rfl (by rfl) (fun K hK => ?_)
                      go_simp
                      refine (clone_any (w := w2.drew) (S := S) (hArg2.keep (Keep.refl No w2).drew fun _ _ h => h).rd (hArg2.keep (Keep.refl No w2).drew fun _ _ h => h).lt d.2 (by omega)).mono ?_
                      rintro e w3 ⟨A1, c1, rfl, hO1, hk3, hn1⟩
                      have hk3 := hk3.of_drew
                      refine hK _ _ (fun _ => hk3.mono fun _ _ h => h.elim) ?_
                      iterate 1
                        (apply T_read rfl (by rfl)
                         (· (intro W hW; go_simp; try with_reducible rfl))
                         (simp only [Act.put, List.getElem_toArray, List.getElem_cons_succ, List.getElem_cons_zero, List.setIfInBounds_toArray, List.set_cons_zero, List.set_cons_succ]))
                      refine T_do rfl (by rfl) (fun K hK => ?_)
                      go_simp
                      refine hK _ _ (fun _ => (hk3.mono fun _ _ h => h.elim).alloc _) ?_
                      refine T_do rfl (by rfl) (fun K hK => ?_)
                      have hP3 := hP2.keep (hk3.alloc (.cells #[.slice A1 xd.length c1, .int .i64 m] 100)) id fun _ _ h => h
                      have hM3 := hP3.map
                      refine wp_mapUpdate (s := xn) (u := .pointer (some ⟨w3.heap.size, 0, none⟩)) (.tmp 75) (.tmp 77) (.tmp 84) rfl hM3 Try.underlying75 Try.underlying9 rfl rfl rfl (fun w4 hM hK4 => ?_)
                      have hmj : (l.take j).map toN ++ [(xn, xd, m)] = (l.take (j + 1)).map toN := by
                        rw [take_snoc Hx.out, List.map_append]
                        simp [toN]
                      have hsz3 := hk3.size
                      have hszk := Hk2.out.size
                      have hkb := (Keep.refl No w3).alloc (.cells #[.slice A1 xd.length c1, .int .i64 m] 100)
                      have hP4 := hP3.push (xn, xd, m) (b := w3.heap.size) (d := (A1, c1)) (alloc_new w3 _) (hO1.keep hkb fun _ _ h => h) (fun hm => by have := (HRp.out.2.2.2.1 _ (.inl hm)).2; omega) (fun k hk y hy e => by
                        have h1 := (hn1 k hk).1
                        rw [World.size_drew] at h1
                        have h2 := (HRp.out.2.2.2.1 k (.inr ⟨y, hy, e⟩)).2
                        omega) hM hK4
                      rw [hmj] at hP4
                      have hmm := HRp.out.2.2.2.2.1
                      have hk04 : Keep No w w4 := ((HRp.out.2.2.1.trans' Hk2.out).trans' (hk3.alloc (.cells #[.slice A1 xd.length c1, .int .i64 m] 100))).trans hK4 fun i hi e => by have := hmm.1; omega
                      have hsz4 : w3.heap.size + 1 ≤ w4.heap.size := by
                        have := hK4.size
                        first
                          | (rw [World.size_drew, World.size_alloc] at this; omega)
                          | (rw [World.size_alloc] at this; omega)
                      have HR2 : Hid (w4.heap[w.heap.size + 1]? = some (.cells (newC room w.heap.size) 80 (0, 0)) ∧ Part w4 w.heap.size ((l.take (j + 1)).map toN) (fb ++ [w3.heap.size]) (fd ++ [(A1, c1)]) ∧
                          Keep No w w4 ∧ (∀ k, footF (fb ++ [w3.heap.size]) (fd ++ [(A1, c1)]) k → New w w4 k) ∧ New w w4 w.heap.size ∧ okFs (l.take (j + 1)) ∧ (room = 0 ∨ (sumF (l.take (j + 1)) : Int) ≤ room)) := by
                        refine ⟨?_, hP4, hk04, ?_, ⟨hmm.1, by have := hmm.2; omega⟩, hoks.out, hle.out⟩
                        · have hD3 : (w3.alloc (.cells #[.slice A1 xd.length c1, .int .i64 m] 100)).heap[w.heap.size + 1]? = some (.cells (newC room w.heap.size) 80 (0, 0)) := ((hk3.alloc _).block _ (lt_blk hD2) id).trans hD2
                          exact (hK4.block _ (lt_blk hD3) (hM3.ne_cells hD3).symm).trans hD3
                        · have hszw := HRp.out.2.2.1.size
                          rintro k (hk | ⟨y, hy, hk⟩)
                          · rcases List.mem_append.1 hk with hk | hk
                            · have := HRp.out.2.2.2.1 k (.inl hk)
                              exact ⟨this.1, by have := this.2; omega⟩
                            · simp at hk; subst hk; exact ⟨by omega, by omega⟩
                          · rcases List.mem_append.1 hy with hy | hy
                            · have := HRp.out.2.2.2.1 k (.inr ⟨y, hy, hk⟩)
                              exact ⟨this.1, by have := this.2; omega⟩
                            · simp at hy; subst hy
                              have h1 := hn1 k hk
                              have h2 := h1.1
                              rw [World.size_drew] at h2
                              exact ⟨by omega, by have := h1.2; omega⟩
                      have Hsm' := Hsm
                      clear hM hK4 hP4 hP3 hM3 hO1 hk3 hn1 hk04 hcells hb2 hD2 hP2 hArg2 hkb hmj hmm
                      refine hK _ _ (fun h => absurd rfl h) (T_end ?_)
                      go_wp2_with fail
                      go_roundw
                      case rel => exact ⟨j + 1, fb ++ [w3.heap.size], fd ++ [(A1, c1)], by omega, by rw [Hsm'.out], by go_num, HR2⟩
                      case measure => simp [RowKit.intOf]; omega
        · obtain rfl : j = l.length := by omega
          rw [List.take_length] at hR
          have hyes : Hid (newOk room l) := ⟨hro', hlen2, hR.out.2.2.2.2.2.1, hR.out.2.2.2.2.2.2⟩
          have hmap := hR.out.2.1.map
          rw [insUp_map toN (fun _ => rfl)] at hmap
          have hD := hR.out.1
          have c1 : wr.cell? ⟨w.heap.size + 1, 1, none⟩ = some (.map (some w.heap.size)) := (cell_blk hD 1).trans rfl
          have Hcl := Lib.hid (mclone hmap)
          have Hmap := Lib.hid hmap
          clear hmap hD
          go_wp2_with fail
          refine Hcl.out.mono ?_
          rintro e w2 ⟨rfl, hm2, hk2, hz2⟩
          have hD2 : w2.heap[w.heap.size + 1]? = some (.cells (newC room w.heap.size) 80 (0, 0)) := (hk2.block _ (lt_blk hR.out.1) id).trans hR.out.1
          have hDlt := lt_blk hR.out.1
          have d2 : w2.cell? ⟨w.heap.size + 1, 2, none⟩ = some (.map none) := (cell_blk hD2 2).trans rfl
          have z2 : w2.frozen? ⟨w.heap.size + 1, 2, none⟩ = false := froz_blk hD2 2
          have Hm2 := Lib.hid hm2
          have Hk2 := Lib.hid hk2
          have HD2 := Lib.hid hD2
          clear hm2 hk2 hD2
          go_wp2_with fail
          go_ret2
          have k4 := (Keep.refl (fun k => k = w.heap.size + 1) w2).setAt rfl 2 (.map (some wr.heap.size))
          have hb := set_blk HD2.out 2 (.map (some wr.heap.size))
          have k24 := (Hk2.out.mono (G := fun k => k = w.heap.size + 1) fun _ _ h => h.elim).trans' k4
          have hsz4 := k4.size
          generalize w2.setCell ⟨w.heap.size + 1, 2, none⟩ (.map (some wr.heap.size)) = w4 at *
          have hFil := hR.out.2.1.files
          have hneF : ∀ k, footF fb fd k → k ≠ w.heap.size + 1 := fun k hk e => by
            subst e
            obtain ⟨cs, t, hc, ht⟩ := hFil.obj _ hk
            exact ne_type hc hR.out.1 (by rcases ht with rfl | rfl <;> decide) rfl
          have hszN : ∀ k, New w wr k → New w w4 k := fun k hk => ⟨hk.1, by have := hk.2; omega⟩
          refine .inr ⟨hyes.out, w.heap.size + 1, { m1 := w.heap.size, m2 := wr.heap.size, cA := none, cC := 0, fb := fb, fd := fd }, rfl, ⟨?_, Hmap.out.keepF k24 (by omega), Hm2.out.keepF k4 (by omega), Own.nil _ _ _, ?_, ?_⟩, ?_, ?_⟩
          · rw [hb]
            have hrm : ((room.toNat : Nat) : Int) = room := Int.toNat_of_nonneg hro'
            simp only [diskC, St.mkI, hrm]
            rfl
          · have h2 := hFil.same (w' := w4) (S := footF fb fd) (fun k hk => k24.block k (hFil.lt k hk) (hneF k hk)) fun _ h => h
            have e : (St.mkI room l).files = (l.map toN).map fvOf := by simp [St.mkI]
            rw [e]
            exact h2
          · simp only; omega
          · exact hR.out.2.2.1.trans k24 fun i hi e => by omega
          · rintro k (e | e | e | e | e)
            · subst e; exact ⟨by omega, by omega⟩
            · subst e; exact ⟨Nat.le_refl _, by simp only; omega⟩
            · subst e; exact ⟨by simp only; omega, by simp only; omega⟩
            · simp at e
            · exact hszN k (hR.out.2.2.2.1 k e)

end Go.Dx

namespace Go.Dx
open Go.RowKit Go.Proofs

def eV (x : Nm × Nat) : List Value := [.string x.1, .int .i64 x.2]
def eVs (d : Dir Nat) : List Value := d.flatMap eV
theorem eVs_len : ∀ d : Dir Nat, (eVs d).length = d.length * 2
  | [] => rfl
  | x :: d => by
    have := eVs_len d
    unfold eVs at *
    rw [List.flatMap_cons, List.length_append, this]
    simp [eV]; omega
theorem eVs_get : ∀ (d : Dir Nat) (i : Nat) (x : Nm × Nat), d[i]? = some x → ∀ q, q < 2 → (eVs d)[i * 2 + q]? = (eV x)[q]?
  | [], _, _, h, _, _ => by simp at h
  | y :: d, 0, x, h, q, hq => by
    simp at h; subst h
    unfold eVs
    rw [List.flatMap_cons, List.getElem?_append_left (by simp [eV]; omega), Nat.zero_mul, Nat.zero_add]
  | y :: d, i + 1, x, h, q, hq => by
    simp at h
    have := eVs_get d i x h q hq
    unfold eVs at *
    rw [List.flatMap_cons, List.getElem?_append_right (by simp [eV]; omega), ← this]
    congr 1
    simp [eV]; omega
theorem eVs_app (d e : Dir Nat) : eVs (d ++ e) = eVs d ++ eVs e := by simp [eVs]

theorem sd_lt {d : Dir Nat} (h : Sd d) {i j : Nat} {x y : Nm × Nat} (hx : d[i]? = some x) (hy : d[j]? = some y) (hij : i < j) : nlt x.1 y.1 = true := by
  obtain ⟨hi, rfl⟩ := List.getElem?_eq_some_iff.1 hx
  obtain ⟨hj, rfl⟩ := List.getElem?_eq_some_iff.1 hy
  exact List.pairwise_iff_getElem.1 h i j hi hj hij
/-- Where the names below n end. -/
theorem pos_eq {d : Dir Nat} {n : Nm} {lo : Nat} (hl : lo ≤ d.length) (h1 : ∀ i x, d[i]? = some x → i < lo → nlt x.1 n = true) (h2 : ∀ i x, d[i]? = some x → lo ≤ i → nlt x.1 n = false) : pos d n = lo := by
  have e : d = d.take lo ++ d.drop lo := (List.take_append_drop lo d).symm
  have a1 : low (d.take lo) n = d.take lo := List.filter_eq_self.2 fun x hx => by
    obtain ⟨i, hi⟩ := List.mem_iff_getElem?.1 hx
    rw [List.getElem?_take] at hi
    split at hi
    · exact h1 i x hi (by assumption)
    · cases hi
  have a2 : low (d.drop lo) n = [] := List.filter_eq_nil_iff.2 fun x hx => by
    obtain ⟨i, hi⟩ := List.mem_iff_getElem?.1 hx
    rw [List.getElem?_drop] at hi
    simp [h2 _ x hi (by omega)]
  unfold pos
  rw [e]
  unfold low at *
  rw [List.filter_append, a1, a2]
  simp
  omega
theorem get_pos_some {d : Dir Nat} (h : Sd d) {n : Nm} {x : Nm × Nat} (hx : d[pos d n]? = some x) : (get d n).isSome = decide (x.1 = n) := by
  rw [h.get_at, hx]
  by_cases e : x.1 = n <;> simp [e]
theorem get_pos_none {d : Dir Nat} (h : Sd d) {n : Nm} (hx : d.length ≤ pos d n) : (get d n).isSome = false := by
  rw [h.get_at, List.getElem?_eq_none hx]; rfl

set_option maxRecDepth 100000 in
set_option maxHeartbeats 2000000 in
theorem find_any {w : World} {S : Nat → Prop} {A : Option Addr} {d : Dir Nat} (hr : Rd w S A (eVs d)) (hs : Sd d) (hl : d.length ≤ 1000000000) (c : Nat) (n : Nm) :
    Calls Try.prog 65 #[.slice A d.length c, .string n] w fun e w' => e = .returned (.tuple #[.int .i64 (pos d n : Nat), .bool (get d n).isSome]) ∧ ∃ m, w' = w.drewN m := by
  have HR := Lib.hid hr
  have Hs := Lib.hid hs
  clear hr hs
  go_enter Try.func65, Try.ntmps65
  go_wp2_with fail
  go_loop [6, 7] (fun a b => ∃ lo hi : Nat, a = .int .i64 lo ∧ b = .int .i64 hi ∧ lo ≤ hi ∧ hi ≤ d.length ∧ Hid ((∀ i x, d[i]? = some x → i < lo → nlt x.1 n = true) ∧ (∀ i x, d[i]? = some x → hi ≤ i → nlt x.1 n = false))) (fun a b => (RowKit.intOf b).toNat - (RowKit.intOf a).toNat)
  case atStart => exact ⟨0, d.length, rfl, rfl, Nat.zero_le _, Nat.le_refl _, fun i x _ h => absurd h (Nat.not_lt_zero _), fun i x h hi => by have := (List.getElem?_eq_some_iff.1 h).1; omega⟩
  case round =>
    obtain ⟨lo, hi, rfl, rfl, h1, h2, hI⟩ := hrel
    by_cases hlt : lo < hi
    · have hlt' : (lo : Int) < hi := by omega
      obtain ⟨m, hm⟩ : ∃ m : Nat, (lo + hi) / 2 = m := ⟨_, rfl⟩
      have htd : Int.tdiv ((lo : Int) + hi) 2 = m := by rw [Int.tdiv_eq_ediv_of_nonneg (by omega)]; omega
      have hed : ((lo : Int) + hi) / 2 = m := by omega
      have hmlt : m < d.length := by omega
      obtain ⟨x, hx⟩ : ∃ x, d[m]? = some x := ⟨_, List.getElem?_eq_getElem hmlt⟩
      have hmlt' : (m : Int) < d.length := by omega
      have q0 := eVs_get d m x hx 0 (by omega)
      obtain ⟨b, o, rfl, hSb, hrun⟩ := HR.out (by rw [eVs_len]; omega)
      have hcell : w.cell? ⟨b, o + m * 2, none⟩ = some (.string x.1) := hrun _ _ q0
      have Hx := Lib.hid hx
      have Hm := Lib.hid hm
      clear q0 hrun hx hm
      cases hn : Op.bytesLess x.1.toList n.toList with
      | true =>
        have HN : Hid ((∀ i x, d[i]? = some x → i < m + 1 → nlt x.1 n = true) ∧ (∀ i x, d[i]? = some x → hi ≤ i → nlt x.1 n = false)) := by
          refine ⟨fun i y hy hi1 => ?_, hI.out.2⟩
          by_cases e : i = m
          · subst e; rw [Hx.out] at hy; cases hy; exact hn
          · exact nlt_trans (sd_lt Hs.out hy Hx.out (by omega)) hn
        have hmlo : Hid (lo ≤ m ∧ m < hi) := ⟨by have := Hm.out; omega, by have := Hm.out; omega⟩
        go_wp2_with fail
        go_round
        case rel => exact ⟨m + 1, hi, by go_num, rfl, by have := hmlo.out; omega, h2, HN⟩
        case measure => have := hmlo.out; simp [RowKit.intOf]; omega
      | false =>
        have HN : Hid ((∀ i x, d[i]? = some x → i < lo → nlt x.1 n = true) ∧ (∀ i x, d[i]? = some x → m ≤ i → nlt x.1 n = false)) := by
          refine ⟨hI.out.1, fun i y hy hi1 => ?_⟩
          by_cases e : i = m
          · subst e; rw [Hx.out] at hy; cases hy; exact hn
          · cases hk : nlt y.1 n with
            | false => rfl
            | true =>
              have := nlt_trans (sd_lt Hs.out Hx.out hy (by omega)) hk
              unfold nlt at this
              rw [hn] at this; cases this
        have hmlo : Hid (lo ≤ m ∧ m < hi) := ⟨by have := Hm.out; omega, by have := Hm.out; omega⟩
        go_wp2_with fail
        go_round
        case rel => exact ⟨lo, m, rfl, rfl, by have := hmlo.out; omega, by omega, HN⟩
        case measure => have := hmlo.out; simp [RowKit.intOf]; omega
    · obtain rfl : lo = hi := by omega
      have hpos : pos d n = lo := pos_eq h2 hI.out.1 hI.out.2
      by_cases hlo : lo < d.length
      · obtain ⟨x, hx⟩ : ∃ x, d[lo]? = some x := ⟨_, List.getElem?_eq_getElem hlo⟩
        have hlo' : (lo : Int) < d.length := by omega
        have q0 := eVs_get d lo x hx 0 (by omega)
        obtain ⟨b, o, rfl, hSb, hrun⟩ := HR.out (by rw [eVs_len]; omega)
        have hcell : w.cell? ⟨b, o + lo * 2, none⟩ = some (.string x.1) := hrun _ _ q0
        have hfin : Hid ((get d n).isSome = (x.1.toList == n.toList)) := by
          rw [nm_beq]
          exact get_pos_some Hs.out (by rw [hpos]; exact hx)
        have Hpos := Lib.hid hpos
        clear q0 hrun hx hpos
        go_wp2_with fail
        go_quiet (fail)
        go_wp2_with fail
        go_ret2
        rw [Hpos.out, hfin.out]
        exact ⟨rfl, _, rfl⟩
      · have hlo' : (d.length : Int) ≤ lo := by omega
        have hfin : Hid ((get d n).isSome = false) := get_pos_none Hs.out (by rw [hpos]; omega)
        have Hpos := Lib.hid hpos
        clear hpos
        go_wp2_with fail
        go_quiet (fail)
        go_wp2_with fail
        go_ret2
        rw [Hpos.out, hfin.out]
        exact ⟨rfl, _, rfl⟩

end Go.Dx
