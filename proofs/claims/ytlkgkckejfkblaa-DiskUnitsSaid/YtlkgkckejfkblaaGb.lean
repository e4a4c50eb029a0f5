/- The program's disk: Create, Delete, Rename, SyncDir, Arm, Fail, Read. No condition. The program's disk: Delete, Rename, SyncDir, Read. No condition. The program's disk: SyncDir, Read. No condition. -/
import Derived.Test.YtlkgkckejfkblaaGa
namespace Go.Dx
open Go.RowKit Go.Proofs

theorem fls_files' (s : St) (x : List FV) (c : Nat) : ({ s with files := x } : St).fls c = ((s.fls c).1, (s.fls c).2.1, { (s.fls c).2.2 with files := x }) := by
  unfold St.fls
  simp only []
  repeat' split
  all_goals rfl
theorem getD_append_left (fb : List Nat) (b i : Nat) (h : i < fb.length) : (fb ++ [b]).getD i 0 = fb.getD i 0 := by
  simp [List.getD_eq_getElem?_getD, List.getElem?_append, h]
theorem ptrV_app {fb : List Nat} {b i : Nat} (h : i < fb.length) : ptrV (fb ++ [b]) i = ptrV fb i := by
  unfold ptrV
  rw [getD_append_left fb b i h]
theorem dirV_app {fb : List Nat} {b : Nat} {d : Dir Nat} (h : ∀ x ∈ d, x.2 < fb.length) : dirV (fb ++ [b]) d = dirV fb d := by
  unfold dirV
  exact List.map_congr_left fun x hx => by rw [ptrV_app (h x hx)]
theorem chsV_app {fb : List Nat} {b : Nat} {l : List Ch} (h : ∀ n i, Ch.mk n i ∈ l → i < fb.length) : chsV (fb ++ [b]) l = chsV fb l := by
  induction l with
  | nil => rfl
  | cons c l ih =>
    have ih := ih fun n i hm => h n i (List.mem_cons_of_mem _ hm)
    unfold chsV at *
    rw [List.flatMap_cons, List.flatMap_cons, ih]
    congr 1
    cases c with
    | mk n i => simp only [chV]; rw [ptrV_app (h n i List.mem_cons_self)]
    | ren a b => rfl
    | del n => rfl

section
variable {w : World} {D : Nat} {s : St} {L : PL}
theorem FilesAt.add {e : TypeId} {fs : List FV} {fb : List Nat} {fd : List (Option Addr × Nat)} (h : FilesAt w e fs fb fd) : FilesAt (w.alloc (.cells #[.slice none 0 0, .int .i64 0] e)) e (fs ++ [⟨[], 0⟩]) (fb ++ [w.heap.size]) (fd ++ [(none, 0)]) := by
  have h' := h.same (S := fun k => k < w.heap.size) (fun k hk => alloc_old w (.cells #[.slice none 0 0, .int .i64 0] e) hk) h.lt
  refine ⟨by simp [h.fbl], by simp [h.fdl], fun i f hf => ?_, ?_, fun i j x y hne hx hy k hk1 hk2 => ?_⟩
  · rw [List.getElem?_append] at hf
    split at hf
    · rename_i hi
      obtain ⟨b, d, h1, h2, h3, h4⟩ := h'.file i f hf
      exact ⟨b, d, by rw [List.getElem?_append, if_pos (by rw [h.fbl]; exact hi)]; exact h1, by rw [List.getElem?_append, if_pos (by rw [h.fdl]; exact hi)]; exact h2, h3, h4⟩
    · rename_i hi
      have hi0 : i - fs.length = 0 := by
        rcases Nat.eq_zero_or_pos (i - fs.length) with h0 | h0
        · exact h0
        · rw [List.getElem?_eq_none (by simp; omega)] at hf; cases hf
      rw [hi0] at hf
      simp at hf
      subst hf
      refine ⟨w.heap.size, (none, 0), ?_, ?_, alloc_new w _, Own.nil _ _ _⟩
      · rw [List.getElem?_append, if_neg (by rw [h.fbl]; exact hi), h.fbl, hi0]; rfl
      · rw [List.getElem?_append, if_neg (by rw [h.fdl]; exact hi), h.fdl, hi0]; rfl
  · refine List.nodup_append.2 ⟨h.nod, by simp, fun a ha b hb e => ?_⟩
    simp at hb
    have := h.lt a (.inl ha)
    omega
  · have key : ∀ (q : Nat) (z : Option Addr × Nat), (fd ++ [(none, 0)])[q]? = some z → bk z.1 = some k → fd[q]? = some z := by
      intro q z hz hk
      rw [List.getElem?_append] at hz
      split at hz
      · exact hz
      · have : z ∈ [((none : Option Addr), 0)] := List.mem_of_getElem? hz
        simp at this
        subst this
        simp at hk
    exact h.apart i j x y hne (key i x hx hk1) (key j y hy hk2) k hk1 hk2
theorem FilesAt.drop {e : TypeId} {fs : List FV} {f : FV} {fb : List Nat} {b : Nat} {fd : List (Option Addr × Nat)} {d : Option Addr × Nat} (h : FilesAt w e (fs ++ [f]) (fb ++ [b]) (fd ++ [d])) : FilesAt w e fs fb fd := by
  have h1 := h.fbl
  have h2 := h.fdl
  simp at h1 h2
  refine ⟨h1, h2, fun i g hg => ?_, ?_, fun i j x y hne hx hy k hk1 hk2 => ?_⟩
  · have hi := (List.getElem?_eq_some_iff.1 hg).1
    obtain ⟨b', d', g1, g2, g3, g4⟩ := h.file i g (by rw [List.getElem?_append, if_pos hi]; exact hg)
    rw [List.getElem?_append, if_pos (by omega)] at g1 g2
    exact ⟨b', d', g1, g2, g3, g4⟩
  · exact (List.nodup_append.1 h.nod).1
  · have hi := (List.getElem?_eq_some_iff.1 hx).1
    have hj := (List.getElem?_eq_some_iff.1 hy).1
    exact h.apart i j x y hne (by rw [List.getElem?_append, if_pos hi]; exact hx) (by rw [List.getElem?_append, if_pos hj]; exact hy) k hk1 hk2

theorem PDL.addFile (h : PDL w D s L) (hw : Wf s) : PDL (w.alloc (.cells #[.slice none 0 0, .int .i64 0] 100)) D { s with files := s.files ++ [⟨[], 0⟩] } { L with fb := L.fb ++ [w.heap.size], fd := L.fd ++ [(none, 0)] } := by
  have hk := (Keep.refl No w).alloc (.cells #[.slice none 0 0, .int .i64 0] 100)
  have h' := h.keepNo hk
  refine ⟨h'.disk, ?_, ?_, ?_, h.files.add, h.m12⟩
  · show MapP _ _ (dirV (L.fb ++ [w.heap.size]) s.now)
    rw [dirV_app (by rw [h.files.fbl]; exact hw.idxN)]; exact h'.now
  · show MapP _ _ (dirV (L.fb ++ [w.heap.size]) s.sure)
    rw [dirV_app (by rw [h.files.fbl]; exact hw.idxS)]; exact h'.sure
  · show Own _ _ _ _ _ _ (chsV (L.fb ++ [w.heap.size]) s.changes)
    rw [chsV_app (by rw [h.files.fbl]; exact hw.idxC)]; exact h'.chs
theorem PDL.dropFile {f : FV} {b : Nat} {d : Option Addr × Nat} {s' : St} (h : PDL w D s' { L with fb := L.fb ++ [b], fd := L.fd ++ [d] }) (e1 : s'.files = s.files ++ [f]) (e2 : s'.now = s.now) (e3 : s'.sure = s.sure) (e4 : s'.changes = s.changes)
    (hd : diskC s' L = diskC s L) (hw : Wf s) (hl : L.fb.length = s.files.length) : PDL w D s L := by
  have hf : FilesAt w 100 s.files L.fb L.fd := by
    have := h.files
    rw [e1] at this
    exact this.drop
  refine ⟨?_, ?_, ?_, ?_, hf, h.m12⟩
  · have := h.disk
    rw [← hd]; exact this
  · have := h.now
    rw [e2] at this
    rwa [show dirV (L.fb ++ [b]) s.now = dirV L.fb s.now from dirV_app (by rw [hl]; exact hw.idxN)] at this
  · have := h.sure
    rw [e3] at this
    rwa [show dirV (L.fb ++ [b]) s.sure = dirV L.fb s.sure from dirV_app (by rw [hl]; exact hw.idxS)] at this
  · have := h.chs
    rw [e4] at this
    rwa [show chsV (L.fb ++ [b]) s.changes = chsV L.fb s.changes from chsV_app (by rw [hl]; exact hw.idxC)] at this
end

theorem dirV_length (fb : List Nat) (d : Dir Nat) : (dirV fb d).length = d.length := by simp [dirV]

set_option maxRecDepth 100000 in
set_option maxHeartbeats 2000000 in
theorem create_any {w : World} {D : Nat} {s : St} {L : PL} (h : PDL w D s L) (hw : Wf s) (n : Nm) (hn : n.size ≤ 140737488355328) (hch : s.changes.length ≤ 1000000) :
    Calls Try.prog 18 #[.pointer (some ⟨D, 0, none⟩), .string n] w fun e w' => e = .returned (.int .i64 (s.create n).1) ∧ Did w D L (s.create n).2 w' := by
  have hB := begin1 h hw n hn
  have hw1 := Lib.hid (bgn_wf hw (right n))
  have hfl1 := Lib.hid (bgn_files s (right n))
  have HB := Lib.hid hB
  clear hB
  generalize hr : s.bgn (right n) = r at *
  have Hr := Lib.hid hr
  have H := Lib.hid h
  have Hw := Lib.hid hw
  clear hr h hw
  go_enter Try.func18, Try.ntmps18
  go_wp2_with fail
  refine HB.out.mono ?_
  rintro e w1 ⟨rfl, h1, k1⟩
  by_cases hne : r.1 = 0
  · have e1 : (r.1 != 0) = false := by simp [hne]
    have hne := Lib.hid hne
    have c1 : w1.cell? ⟨D, 1, none⟩ = some (.map (some L.m1)) := h1.cell 1 rfl
    have hlk := run_look h1.now n
    have hlen := run_len_map h1.now Try.underlying75 3
    rw [dirV_length] at hlen
    have H1 := Lib.hid h1
    have K1 := Lib.hid k1
    clear h1 k1
    cases hg : get r.2.now n with
    | some i =>
      have hfin : Hid (s.create n = (35, r.2)) := by simp [Hid, St.create, Hr.out, hne.out, hg]
      rw [hg] at hlk
      simp only [lookV, ptrV] at hlk
      clear hg
      go_wp2_with fail
      go_ret
      rw [hfin.out]
      exact ⟨rfl, Did.same H1.out K1.out⟩
    | none =>
      rw [hg] at hlk
      simp only [lookV] at hlk
      by_cases hful : 8388608 ≤ r.2.now.length
      · have hfin : Hid (s.create n = (32, r.2)) := by simp [Hid, St.create, Hr.out, hne.out, hg, hful]
        have t3 : decide ((8388608 : Int) ≤ r.2.now.length) = true := decide_eq_true (by omega)
        clear hg hful
        go_wp2_with fail
        go_ret
        rw [hfin.out]
        exact ⟨rfl, Did.same H1.out K1.out⟩
      · have t3 : decide ((8388608 : Int) ≤ r.2.now.length) = false := decide_eq_false (by omega)
        have hdo := do_any (H1.out.addFile hw1.out) hw1.out.bleft hw1.out.sdN (by rw [show ({ r.2 with files := r.2.files ++ [⟨[], 0⟩] } : St).changes = r.2.changes from rfl, hfl1.out.2.2.2.1]; exact hch) (.mk n r.2.files.length) (fun _ => trivial)
        have hptr : ptrV (L.fb ++ [w1.heap.size]) r.2.files.length = .pointer (some ⟨w1.heap.size, 0, none⟩) := by
          unfold ptrV
          rw [← H1.out.files.fbl]
          simp [List.getD_eq_getElem?_getD]
        simp only [chV, hptr] at hdo
        have hcr : Hid (s.create n = if (r.2.fls 1).2.1 then (30, (r.2.fls 1).2.2) else (0, { (r.2.fls 1).2.2 with files := (r.2.fls 1).2.2.files ++ [⟨[], 0⟩], now := ins (r.2.fls 1).2.2.now n (r.2.fls 1).2.2.files.length, changes := (r.2.fls 1).2.2.changes ++ [.mk n (r.2.fls 1).2.2.files.length] })) := by
          simp [Hid, St.create, Hr.out, hne.out, hg, hful]
        have hdt : Hid (({ r.2 with files := r.2.files ++ [⟨[], 0⟩] } : St).doit (.mk n r.2.files.length) = if (r.2.fls 1).2.1 then (30, { (r.2.fls 1).2.2 with files := r.2.files ++ [⟨[], 0⟩] }) else (0, ({ (r.2.fls 1).2.2 with files := r.2.files ++ [⟨[], 0⟩] } : St).chg (.mk n r.2.files.length))) := by
          simp only [Hid, St.doit, fls_files', idle]; rfl
        have Hdo := Lib.hid hdo
        clear hg hful hdo hptr
        go_wp2_with fail
        refine Hdo.out.mono ?_
        rintro e w2 ⟨rfl, A', c', h2, k2, hA⟩
        have hfl := fls_files r.2 1
        have hwf := fls_wf hw1.out 1
        have hsz1 : w.heap.size ≤ w1.heap.size := K1.out.size
        have hsz2 : w1.heap.size + 1 ≤ w2.heap.size := by have := k2.size; rw [World.size_alloc] at this; exact this
        have kk : Keep (foot D L) w w2 := by
          refine (K1.out.mono fun k _ e => .inl e).trans (((Keep.refl No w1).alloc _).mono (G := foot D L) fun _ _ h => h.elim) (fun _ _ h => h) |>.trans (k2.mono (G := foot D L) fun k _ e => ?_) (fun _ _ h => h)
          rcases e with e | e | e
          · exact .inl e
          · exact .inr (.inl e)
          · exact .inr (.inr (.inr (.inl e)))
        cases hq2 : (r.2.fls 1).2.1 with
        | true =>
          have hfin : Hid (s.create n = (30, (r.2.fls 1).2.2)) := by rw [hcr.out, hq2]; rfl
          have hdt2 : ({ r.2 with files := r.2.files ++ [⟨[], 0⟩] } : St).doit (.mk n r.2.files.length) = (30, { (r.2.fls 1).2.2 with files := r.2.files ++ [⟨[], 0⟩] }) := by rw [hdt.out, hq2]; rfl
          rw [hdt2] at h2
          have H2 := Lib.hid h2
          have Hd2 := Lib.hid hdt2
          have Hq2 := Lib.hid hq2
          clear h2 hdt2 hq2
          go_wp2_with fail
          go_ret
          rw [hfin.out, Hd2.out]
          refine ⟨rfl, { L with cA := A', cC := c' }, ?_, kk, ?_⟩
          · exact PDL.dropFile (L := { L with cA := A', cC := c' }) (f := ⟨[], 0⟩) H2.out (by rw [hfl.1]) rfl rfl rfl rfl hwf (by rw [hfl.1]; exact H1.out.files.fbl)
          · rintro k (e | e | e | e | e)
            · exact .inl (.inl e)
            · exact .inl (.inr (.inl e))
            · exact .inl (.inr (.inr (.inl e)))
            · rcases hA k e with e | e
              · exact .inl (.inr (.inr (.inr (.inl e))))
              · exact .inr ⟨by have := e.1; rw [World.size_alloc] at this; omega, e.2⟩
            · exact .inl (.inr (.inr (.inr (.inr e))))
        | false =>
          have hfin : Hid (s.create n = (0, ({ (r.2.fls 1).2.2 with files := r.2.files ++ [⟨[], 0⟩] } : St).chg (.mk n r.2.files.length))) := by rw [hcr.out, hq2, ← hfl.1]; rfl
          have hdt2 : ({ r.2 with files := r.2.files ++ [⟨[], 0⟩] } : St).doit (.mk n r.2.files.length) = (0, ({ (r.2.fls 1).2.2 with files := r.2.files ++ [⟨[], 0⟩] } : St).chg (.mk n r.2.files.length)) := by rw [hdt.out, hq2]; rfl
          rw [hdt2] at h2
          have H2 := Lib.hid h2
          have Hd2 := Lib.hid hdt2
          have Hq2 := Lib.hid hq2
          clear h2 hdt2 hq2
          go_wp2_with fail
          go_ret
          rw [hfin.out, Hd2.out]
          refine ⟨rfl, { L with fb := L.fb ++ [w1.heap.size], fd := L.fd ++ [(none, 0)], cA := A', cC := c' }, H2.out, kk, ?_⟩
          rintro k (e | e | e | e | e)
          · exact .inl (.inl e)
          · exact .inl (.inr (.inl e))
          · exact .inl (.inr (.inr (.inl e)))
          · rcases hA k e with e | e
            · exact .inl (.inr (.inr (.inr (.inl e))))
            · exact .inr ⟨by have := e.1; rw [World.size_alloc] at this; omega, e.2⟩
          · rcases e with e | ⟨d, hd, e⟩
            · rcases List.mem_append.1 e with e | e
              · exact .inl (.inr (.inr (.inr (.inr (.inl e)))))
              · simp at e; subst e; exact .inr ⟨hsz1, by omega⟩
            · rcases List.mem_append.1 hd with hd | hd
              · exact .inl (.inr (.inr (.inr (.inr (.inr ⟨d, hd, e⟩)))))
              · simp at hd; subst hd; simp at e
  · have e1 : (r.1 != 0) = true := by simp [hne]
    have hfin : Hid (s.create n = r) := by simp [Hid, St.create, Hr.out, hne]
    have H1 := Lib.hid h1
    have K1 := Lib.hid k1
    clear hne h1 k1
    go_wp2_with fail
    go_ret
    rw [hfin.out]
    exact ⟨rfl, Did.same H1.out K1.out⟩

end Go.Dx

namespace Go.Dx
open Go.RowKit Go.Proofs

theorem Did.of_do {w w1 w2 : World} {D : Nat} {L : PL} {s' : St} {A' : Option Addr} {c' : Nat} (k1 : Keep (fun k => k = D) w w1) (h : PDL w2 D s' { L with cA := A', cC := c' })
    (k2 : Keep (fun k => k = D ∨ k = L.m1 ∨ bk L.cA = some k) w1 w2) (hA : ∀ k, bk A' = some k → bk L.cA = some k ∨ New w1 w2 k) : Did w D L s' w2 := by
  refine ⟨_, h, (k1.mono fun _ _ e => .inl e).trans' (k2.mono fun k _ e => ?_), ?_⟩
  · rcases e with e | e | e
    · exact .inl e
    · exact .inr (.inl e)
    · exact .inr (.inr (.inr (.inl e)))
  · rintro k (e | e | e | e | e)
    · exact .inl (.inl e)
    · exact .inl (.inr (.inl e))
    · exact .inl (.inr (.inr (.inl e)))
    · rcases hA k e with e | e
      · exact .inl (.inr (.inr (.inr (.inl e))))
      · exact .inr ⟨Nat.le_trans k1.size e.1, e.2⟩
    · exact .inl (.inr (.inr (.inr (.inr e))))

set_option maxRecDepth 100000 in
set_option maxHeartbeats 2000000 in
theorem delete_any {w : World} {D : Nat} {s : St} {L : PL} (h : PDL w D s L) (hw : Wf s) (hch : s.changes.length ≤ 1000000) (n : Nm) (hn : n.size ≤ 140737488355328) :
    Calls Try.prog 24 #[.pointer (some ⟨D, 0, none⟩), .string n] w fun e w' => e = .returned (.int .i64 (s.delete n).1) ∧ Did w D L (s.delete n).2 w' := by
  have hB := begin1 h hw n hn
  have hw1 := Lib.hid (bgn_wf hw (right n))
  have hfl1 := Lib.hid (bgn_files s (right n))
  have HB := Lib.hid hB
  clear hB
  generalize hr : s.bgn (right n) = r at *
  have Hr := Lib.hid hr
  have H := Lib.hid h
  have Hw := Lib.hid hw
  clear hr h hw
  go_enter Try.func24, Try.ntmps24
  go_wp2_with fail
  refine HB.out.mono ?_
  rintro e w1 ⟨rfl, h1, k1⟩
  by_cases hne : r.1 = 0
  · have e1 : (r.1 != 0) = false := by simp [hne]
    have hne := Lib.hid hne
    have c1 : w1.cell? ⟨D, 1, none⟩ = some (.map (some L.m1)) := h1.cell 1 rfl
    have hlk := run_look h1.now n
    have H1 := Lib.hid h1
    have K1 := Lib.hid k1
    clear h1 k1
    cases hg : get r.2.now n with
    | none =>
      have hfin : Hid (s.delete n = (34, r.2)) := by simp [Hid, St.delete, Hr.out, hne.out, hg]
      rw [hg] at hlk
      simp only [lookV] at hlk
      clear hg
      go_wp2_with fail
      go_ret
      rw [hfin.out]
      exact ⟨rfl, Did.same H1.out K1.out⟩
    | some i =>
      rw [hg] at hlk
      simp only [lookV, ptrV] at hlk
      have hdo := do_any H1.out hw1.out.bleft hw1.out.sdN (by rw [hfl1.out.2.2.2.1]; exact hch) (.del n) (fun _ => trivial)
      have hfin : Hid (s.delete n = r.2.doit (.del n)) := by
        simp only [Hid, St.delete, Hr.out, hne.out, hg, St.doit, idle]
        simp
        rfl
      simp only [chV] at hdo
      have Hdo := Lib.hid hdo
      clear hg hdo
      go_wp2_with fail
      refine Hdo.out.mono ?_
      rintro e w2 ⟨rfl, A', c', h2, k2, hA⟩
      have H2 := Lib.hid h2
      have K2 := Lib.hid k2
      clear h2 k2
      go_wp2_with fail
      go_ret
      rw [hfin.out]
      exact ⟨rfl, Did.of_do K1.out H2.out K2.out hA⟩
  · have e1 : (r.1 != 0) = true := by simp [hne]
    have hfin : Hid (s.delete n = r) := by simp [Hid, St.delete, Hr.out, hne]
    have H1 := Lib.hid h1
    have K1 := Lib.hid k1
    clear hne h1 k1
    go_wp2_with fail
    go_ret
    rw [hfin.out]
    exact ⟨rfl, Did.same H1.out K1.out⟩

set_option maxRecDepth 100000 in
set_option maxHeartbeats 2000000 in
theorem rename_any {w : World} {D : Nat} {s : St} {L : PL} (h : PDL w D s L) (hw : Wf s) (hch : s.changes.length ≤ 1000000) (a b : Nm) (ha : a.size ≤ 140737488355328) (hb : b.size ≤ 140737488355328) :
    Calls Try.prog 23 #[.pointer (some ⟨D, 0, none⟩), .string a, .string b] w fun e w' => e = .returned (.int .i64 (s.rename a b).1) ∧ Did w D L (s.rename a b).2 w' := by
  have hB := begin2 h hw a b ha hb
  have hw1 := Lib.hid (bgn_wf hw (right a && right b))
  have hfl1 := Lib.hid (bgn_files s (right a && right b))
  have HB := Lib.hid hB
  clear hB
  generalize hr : s.bgn (right a && right b) = r at *
  have Hr := Lib.hid hr
  have H := Lib.hid h
  have Hw := Lib.hid hw
  clear hr h hw
  go_enter Try.func23, Try.ntmps23
  go_wp2_with fail
  refine HB.out.mono ?_
  rintro e w1 ⟨rfl, h1, k1⟩
  by_cases hne : r.1 = 0
  · have e1 : (r.1 != 0) = false := by simp [hne]
    have hne := Lib.hid hne
    have c1 : w1.cell? ⟨D, 1, none⟩ = some (.map (some L.m1)) := h1.cell 1 rfl
    have hlk := run_look h1.now a
    have H1 := Lib.hid h1
    have K1 := Lib.hid k1
    clear h1 k1
    cases hg : get r.2.now a with
    | none =>
      have hfin : Hid (s.rename a b = (34, r.2)) := by simp [Hid, St.rename, Hr.out, hne.out, hg]
      rw [hg] at hlk
      simp only [lookV] at hlk
      clear hg
      go_wp2_with fail
      go_ret
      rw [hfin.out]
      exact ⟨rfl, Did.same H1.out K1.out⟩
    | some i =>
      rw [hg] at hlk
      simp only [lookV, ptrV] at hlk
      have hdo := do_any H1.out hw1.out.bleft hw1.out.sdN (by rw [hfl1.out.2.2.2.1]; exact hch) (.ren a b) (fun hid => ⟨by rw [hg]; rfl, by simpa [idle] using hid⟩)
      have hfin : Hid (s.rename a b = r.2.doit (.ren a b)) := by
        have hq := (fls_files r.2 1).2.1
        simp only [Hid, St.rename, Hr.out, hne.out, hg, St.doit, idle, St.chg, lay1]
        rw [hq, hg]
        simp
      simp only [chV] at hdo
      have Hdo := Lib.hid hdo
      clear hg hdo
      go_wp2_with fail
      refine Hdo.out.mono ?_
      rintro e w2 ⟨rfl, A', c', h2, k2, hA⟩
      have H2 := Lib.hid h2
      have K2 := Lib.hid k2
      clear h2 k2
      go_wp2_with fail
      go_ret
      rw [hfin.out]
      exact ⟨rfl, Did.of_do K1.out H2.out K2.out hA⟩
  · have e1 : (r.1 != 0) = true := by simp [hne]
    have hfin : Hid (s.rename a b = r) := by simp [Hid, St.rename, Hr.out, hne]
    have H1 := Lib.hid h1
    have K1 := Lib.hid k1
    clear hne h1 k1
    go_wp2_with fail
    go_ret
    rw [hfin.out]
    exact ⟨rfl, Did.same H1.out K1.out⟩

end Go.Dx

namespace Go.Dx
open Go.RowKit Go.Proofs

/-- The sure directory is another map now, and no change is open. -/
theorem PDL.reSure {w w' : World} {D : Nat} {s : St} {L : PL} (h : PDL w D s L) {s' : St} {g : Nat} (hg : w.heap.size ≤ g) (hk : Keep (fun k => k = D) w w') (hm : MapP w' g (dirV L.fb s'.sure))
    (hd : w'.heap[D]? = some (.cells (diskC s' { L with m2 := g, cA := none, cC := 0 }) 80 (0, 0))) (e1 : s'.files = s.files) (e2 : s'.now = s.now) (e4 : s'.changes = []) : PDL w' D s' { L with m2 := g, cA := none, cC := 0 } := by
  refine ⟨hd, ?_, hm, by rw [e4]; exact Own.nil _ _ _, ?_, fun e => by have := h.now.lt; simp at e; omega⟩
  · rw [e2]; exact h.now.same (hk.block _ h.now.lt fun e => h.now.ne_cells h.disk e)
  · rw [e1]
    exact h.files.same (S := footF L.fb L.fd) (fun k hk1 => hk.block k (h.files.lt k hk1) (h.neD k (.inr (.inr (.inr hk1))))) fun _ h => h

set_option maxRecDepth 100000 in
set_option maxHeartbeats 2000000 in
theorem syncDir_any {w : World} {D : Nat} {s : St} {L : PL} (h : PDL w D s L) (hw : Wf s) :
    Calls Try.prog 25 #[.pointer (some ⟨D, 0, none⟩)] w fun e w' => e = .returned (.int .i64 s.syncDir.1) ∧ Did w D L s.syncDir.2 w' := by
  have hB := begin0 h hw
  have hw1 := Lib.hid (bgn_wf hw true)
  have HB := Lib.hid hB
  clear hB
  generalize hr : s.bgn true = r at *
  have Hr := Lib.hid hr
  have H := Lib.hid h
  have Hw := Lib.hid hw
  clear hr h hw
  go_enter Try.func25, Try.ntmps25
  go_wp2_with fail
  refine HB.out.mono ?_
  rintro e w1 ⟨rfl, h1, k1⟩
  by_cases hne : r.1 = 0
  · have e1 : (r.1 != 0) = false := by simp [hne]
    have hne := Lib.hid hne
    have hF := falls_any h1 hw1.out.bleft 1 (by omega) (by omega)
    have hfl := Lib.hid (fls_files r.2 1)
    simp only [Int.toNat_one] at hF
    have H1 := Lib.hid h1
    have K1 := Lib.hid k1
    have HF := Lib.hid hF
    clear h1 k1 hF
    generalize hq : r.2.fls 1 = q at *
    have Hq := Lib.hid hq
    clear hq
    go_wp2_with fail
    refine HF.out.mono ?_
    rintro e w2 ⟨rfl, h2, k2⟩
    cases hq2 : q.2.1 with
    | true =>
      have hfin : Hid (s.syncDir = (30, q.2.2)) := by simp [Hid, St.syncDir, Hr.out, hne.out, Hq.out, hq2]
      have H2 := Lib.hid h2
      have K2 := Lib.hid k2
      clear h2 k2
      go_wp2_with fail
      go_ret
      rw [hfin.out]
      exact ⟨rfl, Did.same H2.out (K1.out.trans' K2.out)⟩
    | false =>
      have hfin : Hid (s.syncDir = (0, { q.2.2 with sure := q.2.2.now, changes := [] })) := by simp [Hid, St.syncDir, Hr.out, hne.out, Hq.out, hq2]
      have c1 : w2.cell? ⟨D, 1, none⟩ = some (.map (some L.m1)) := h2.cell 1 rfl
      have hcl := mclone h2.now
      have H2 := Lib.hid h2
      have K2 := Lib.hid k2
      have Hcl := Lib.hid hcl
      clear h2 k2 hcl
      go_wp2_with fail
      refine Hcl.out.mono ?_
      rintro e w3 ⟨rfl, hm3, k3, hz3⟩
      have h3 := H2.out.keepNo k3
      have z2 := h3.froz 2
      have z3 := h3.froz 3
      have c2 : w3.cell? ⟨D, 2, none⟩ = some (.map (some L.m2)) := h3.cell 2 rfl
      have c3 : w3.cell? ⟨D, 3, none⟩ = some (.slice L.cA q.2.2.changes.length L.cC) := h3.cell 3 rfl
      have H3 := Lib.hid h3
      have Hm3 := Lib.hid hm3
      have K3 := Lib.hid k3
      have hz3 := Lib.hid hz3
      clear h3 hm3 k3
      go_wp2_with fail
      go_ret
      rw [hfin.out]
      have k4 := ((Keep.refl (fun k => k = D) w3).setAt rfl 2 (.map (some w2.heap.size))).setAt rfl 3 (.slice none 0 0)
      have k24 := (K3.out.mono (G := fun k => k = D) fun _ _ h => h.elim).trans' k4
      have kall := (K1.out.trans' K2.out).trans' k24
      refine ⟨rfl, { L with m2 := w2.heap.size, cA := none, cC := 0 }, H2.out.reSure (Nat.le_refl _) k24 ?_ (set_blk (set_blk H3.out.disk 2 _) 3 _) rfl rfl rfl, kall.mono fun _ _ e => .inl e, ?_⟩
      · exact Hm3.out.same (by rw [set_far (a := ⟨D, 3, none⟩) (Hm3.out.ne_cells H3.out.disk), set_far (a := ⟨D, 2, none⟩) (Hm3.out.ne_cells H3.out.disk)])
      · rintro k (e | e | e | e | e)
        · exact .inl (.inl e)
        · exact .inl (.inr (.inl e))
        · subst e
          right
          have h1 := K1.out.size
          have h2 := K2.out.size
          have h4 := k4.size
          have h3 := hz3.out
          exact ⟨Nat.le_trans h1 h2, Nat.lt_of_lt_of_le (by simp only []; omega) h4⟩
        · simp at e
        · exact .inl (.inr (.inr (.inr (.inr e))))
  · have e1 : (r.1 != 0) = true := by simp [hne]
    have hfin : Hid (s.syncDir = r) := by simp [Hid, St.syncDir, Hr.out, hne]
    have H1 := Lib.hid h1
    have K1 := Lib.hid k1
    clear hne h1 k1
    go_wp2_with fail
    go_ret
    rw [hfin.out]
    exact ⟨rfl, Did.same H1.out K1.out⟩

/-- What Read gives: bytes that are read anew, or none, and an error. -/
def ReadR (w : World) (r : List UInt8 × Int) (e : Ending) (w' : World) : Prop :=
  ∃ A' c', e = .returned (.tuple #[.slice A' r.1.length c', .int .i64 r.2]) ∧ Own w' 5 1 A' r.1.length c' (BV r.1) ∧ Keep No w w' ∧ ∀ k, bk A' = some k → New w w' k

set_option maxRecDepth 100000 in
set_option maxHeartbeats 2000000 in
theorem read_any {w : World} {D : Nat} {s : St} {L : PL} (h : PDL w D s L) (hw : Wf s) (n : Nm) (hn : n.size ≤ 140737488355328) :
    Calls Try.prog 22 #[.pointer (some ⟨D, 0, none⟩), .string n] w (ReadR w (s.read n)) := by
  have c8 : w.cell? ⟨D, 8, none⟩ = some (.bool s.down) := h.cell 8 rfl
  have hA := okA_any n w hn
  have H := Lib.hid h
  have Hw := Lib.hid hw
  have HA := Lib.hid hA
  clear h hw hA
  cases hd : s.down with
  | true =>
    have hfin : Hid (s.read n = ([], 30)) := by simp [Hid, St.read, hd]
    rw [hd] at c8
    clear hd
    go_enter Try.func22, Try.ntmps22
    go_wp2_with fail
    go_ret2
    rw [hfin.out]
    exact ⟨none, 0, rfl, Own.nil _ _ _, Keep.refl _ _, by simp⟩
  | false =>
    rw [hd] at c8
    have hd := Lib.hid hd
    cases hr : right n with
    | false =>
      have hfin : Hid (s.read n = ([], 33)) := by simp [Hid, St.read, hd.out, hr]
      have hr := Lib.hid hr
      go_enter Try.func22, Try.ntmps22
      go_wp2_with fail
      refine HA.out.mono ?_
      rintro e w1 ⟨rfl, k1⟩
      rw [hr.out]
      go_wp2_with fail
      go_ret2
      rw [hfin.out]
      exact ⟨none, 0, rfl, Own.nil _ _ _, k1, by simp⟩
    | true =>
      cases hg : get s.now n with
      | none =>
        have hfin : Hid (s.read n = ([], 34)) := by simp [Hid, St.read, hd.out, hr, hg]
        have hr := Lib.hid hr
        have hg := Lib.hid hg
        go_enter Try.func22, Try.ntmps22
        go_wp2_with fail
        refine HA.out.mono ?_
        rintro e w1 ⟨rfl, k1⟩
        rw [hr.out]
        have h1 := H.out.keepNo k1
        have c1 : w1.cell? ⟨D, 1, none⟩ = some (.map (some L.m1)) := h1.cell 1 rfl
        have hlk := run_look h1.now n
        rw [hg.out] at hlk
        simp only [lookV] at hlk
        have H1 := Lib.hid h1
        have K1 := Lib.hid k1
        clear h1 k1
        go_wp2_with fail
        go_ret2
        rw [hfin.out]
        exact ⟨none, 0, rfl, Own.nil _ _ _, K1.out, by simp⟩
      | some i =>
        have hi : i < s.files.length := Hw.out.idxN _ (get_mem hg)
        have hfin : Hid (s.read n = (s.dataAt i, 0)) := by simp [Hid, St.read, hd.out, hr, hg]
        have hr := Lib.hid hr
        have hg := Lib.hid hg
        go_enter Try.func22, Try.ntmps22
        go_wp2_with fail
        refine HA.out.mono ?_
        rintro e w1 ⟨rfl, k1⟩
        rw [hr.out]
        have h1 := H.out.keepNo k1
        have c1 : w1.cell? ⟨D, 1, none⟩ = some (.map (some L.m1)) := h1.cell 1 rfl
        have hlk := run_look h1.now n
        obtain ⟨f, b, d, hf, hb, hdd, hp, hblk, hown⟩ := h1.at hi
        rw [hg.out] at hlk
        simp only [lookV, hp] at hlk
        have c0 : w1.cell? ⟨b, 0, none⟩ = some (.slice d.1 f.data.length d.2) := (cell_blk hblk 0).trans rfl
        have hdat : Hid (s.dataAt i = f.data) := by simp [Hid, St.dataAt, hf]
        have hlen := (Hw.out.fsure f (List.mem_of_getElem? hf)).2
        have hcl := clone_any hown.rd (fun k hk => hown.lt hk) d.2 (by omega)
        have H1 := Lib.hid h1
        have K1 := Lib.hid k1
        have Hcl := Lib.hid hcl
        clear h1 k1 hcl hf hb hdd hp hblk hown
        go_wp2_with fail
        refine Hcl.out.mono ?_
        rintro e w2 ⟨A', c', rfl, ho, k2, hn2⟩
        go_wp2_with fail
        go_ret2
        rw [hfin.out, hdat.out]
        exact ⟨A', c', rfl, ho, K1.out.trans' k2, fun k hk => by have := hn2 k hk; exact ⟨Nat.le_trans K1.out.size this.1, this.2⟩⟩

end Go.Dx
