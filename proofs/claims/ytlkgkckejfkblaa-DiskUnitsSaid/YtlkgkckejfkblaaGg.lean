/- The document's disk: Fell, Arm, Fail, Read. No condition. The document's disk: Read. No condition. The document's disk: SyncDir. No condition. The document's disk: one file more. No condition. The document's disk: Append. No condition. The document's disk: Append, the walk. No condition. The document's disk: Append, the walk. No condition. The document's disk: Create. No condition. The document's disk: Rename. No condition. -/
import Derived.Test.YtlkgkckejfkblaaGf
namespace Go.Dx
open Go.RowKit Go.Proofs

set_option maxHeartbeats 400000 in
theorem fell_any {w : World} {D : Nat} {b : Bool} (h : w.cell? ⟨D, 9, none⟩ = some (.bool b)) :
    Calls Try.prog 32 #[.pointer (some ⟨D, 0, none⟩)] w fun e w' => e = .returned (.bool b) ∧ w = w' := by
  go_enter Try.func32, Try.ntmps32
  go_wp2
  go_ret
  exact ⟨rfl, rfl⟩

set_option maxRecDepth 100000 in
set_option maxHeartbeats 1000000 in
theorem armR_any {w : World} {D : Nat} {s : St} {L : RL} (h : RDL w D s L) (a : Int) :
    Calls Try.prog 34 #[.pointer (some ⟨D, 0, none⟩), .int .i64 a] w fun e w' => e = .returned (.tuple #[]) ∧ DidR w D L (s.armR a) w' := by
  have c5 : w.cell? ⟨D, 5, none⟩ = some (.int .i64 s.left) := h.cell 5 rfl
  have c9 : w.cell? ⟨D, 9, none⟩ = some (.bool s.down) := h.cell 9 rfl
  have z5 := h.froz 5
  have H := Lib.hid h
  clear h
  cases hd : s.down with
  | true =>
    have hfin : Hid (s.armR a = s) := by simp [Hid, St.armR, hd]
    rw [hd] at c9
    clear hd
    go_enter Try.func34, Try.ntmps34
    go_wp2_with fail
    go_end0
    rw [hfin.out]
    exact ⟨rfl, DidR.same H.out (Keep.refl _ _)⟩
  | false =>
    have hfin : Hid (s.armR a = s.arm a) := by simp [Hid, St.armR, hd]
    rw [hd] at c9
    clear hd
    go_enter Try.func34, Try.ntmps34
    go_wp2_with fail
    go_end0
    rw [hfin.out]
    have k := (Keep.refl (fun k => k = D) w).setAt rfl 5 (.int .i64 (max a 0))
    refine ⟨rfl, DidR.same (H.out.reDisk (s' := s.arm a) k ?_ rfl rfl rfl rfl) k⟩
    rw [← Int.toNat_eq_max]
    exact set_blk H.out.disk 5 _

set_option maxRecDepth 100000 in
set_option maxHeartbeats 1000000 in
theorem failR_any {w : World} {D : Nat} {s : St} {L : RL} (h : RDL w D s L) (a b c : Int) :
    Calls Try.prog 57 #[.pointer (some ⟨D, 0, none⟩), .int .i64 a, .int .i64 b, .int .i64 c] w fun e w' => e = .returned (.tuple #[]) ∧ DidR w D L (s.failR a b c) w' := by
  have c6 : w.cell? ⟨D, 6, none⟩ = some (.int .i64 s.well) := h.cell 6 rfl
  have c7 : w.cell? ⟨D, 7, none⟩ = some (.int .i64 s.fails) := h.cell 7 rfl
  have c8 : w.cell? ⟨D, 8, none⟩ = some (.int .i64 s.part) := h.cell 8 rfl
  have c9 : w.cell? ⟨D, 9, none⟩ = some (.bool s.down) := h.cell 9 rfl
  have z6 := h.froz 6
  have z7 := h.froz 7
  have z8 := h.froz 8
  have H := Lib.hid h
  clear h
  cases hd : s.down with
  | true =>
    have hfin : Hid (s.failR a b c = s) := by simp [Hid, St.failR, hd]
    rw [hd] at c9
    clear hd
    go_enter Try.func57, Try.ntmps57
    go_wp2_with fail
    go_end0
    rw [hfin.out]
    exact ⟨rfl, DidR.same H.out (Keep.refl _ _)⟩
  | false =>
    have hfin : Hid (s.failR a b c = s.fail a b c) := by simp [Hid, St.failR, hd]
    rw [hd] at c9
    clear hd
    go_enter Try.func57, Try.ntmps57
    go_wp2_with fail
    go_end0
    rw [hfin.out]
    have k := (((Keep.refl (fun k => k = D) w).setAt rfl 6 (.int .i64 (max a 0))).setAt rfl 7 (.int .i64 (max b 0))).setAt rfl 8 (.int .i64 (max c 0))
    refine ⟨rfl, DidR.same (H.out.reDisk (s' := s.fail a b c) k ?_ rfl rfl rfl rfl) k⟩
    rw [← Int.toNat_eq_max, ← Int.toNat_eq_max, ← Int.toNat_eq_max]
    exact set_blk (set_blk (set_blk H.out.disk 6 (.int .i64 a.toNat)) 7 (.int .i64 b.toNat)) 8 (.int .i64 c.toNat)

end Go.Dx

namespace Go.Dx
open Go.RowKit Go.Proofs

set_option maxRecDepth 100000 in
set_option maxHeartbeats 2000000 in
theorem readR_any {w : World} {D : Nat} {s : St} {L : RL} (h : RDL w D s L) (hw : Wf s) (n : Nm) (hn : n.size ≤ 140737488355328) :
    Calls Try.prog 56 #[.pointer (some ⟨D, 0, none⟩), .string n] w (ReadR w (s.read n)) := by
  have c9 : w.cell? ⟨D, 9, none⟩ = some (.bool s.down) := h.cell 9 rfl
  have hok := okB_any n w hn
  have H := Lib.hid h
  have Hw := Lib.hid hw
  clear h hw
  cases hd : s.down with
  | true =>
    have hfin : Hid (s.read n = ([], 30)) := by simp [Hid, St.read, hd]
    rw [hd] at c9
    clear hd hok
    go_enter Try.func56, Try.ntmps56
    go_wp2_with fail
    go_ret2
    rw [hfin.out]
    exact ⟨none, 0, rfl, Own.nil _ _ _, Keep.refl _ _, by simp⟩
  | false =>
    rw [hd] at c9
    cases hr : right n with
    | false =>
      have hfin : Hid (s.read n = ([], 33)) := by simp [Hid, St.read, hd, hr]
      rw [hr] at hok
      have Hok := Lib.hid hok
      clear hd hok hr
      go_enter Try.func56, Try.ntmps56
      go_wp2_with fail
      refine Hok.out.mono ?_
      rintro e w1 ⟨rfl, rfl⟩
      go_wp2_with fail
      go_ret2
      rw [hfin.out]
      exact ⟨none, 0, rfl, Own.nil _ _ _, Keep.refl _ _, by simp⟩
    | true =>
      rw [hr] at hok
      have Hok := Lib.hid hok
      have hat := at_any H.out Hw.out n
      cases hg : get s.now n with
      | none =>
        have hfin : Hid (s.read n = ([], 34)) := by simp [Hid, St.read, hd, hr, hg]
        rw [hg] at hat
        simp only [atV] at hat
        have Hat := Lib.hid hat
        clear hd hok hr hat hg
        go_enter Try.func56, Try.ntmps56
        go_wp2_with fail
        refine Hok.out.mono ?_
        rintro e w1 ⟨rfl, rfl⟩
        go_wp2_with fail
        refine Hat.out.mono ?_
        rintro e w2 ⟨rfl, m, rfl⟩
        go_wp2_with fail
        go_ret2
        rw [hfin.out]
        exact ⟨none, 0, rfl, Own.nil _ _ _, (Keep.refl No w).drewN m, by simp⟩
      | some i =>
        have hi : i < s.files.length := Hw.out.idxN _ (get_mem hg)
        obtain ⟨f, b, d, hf, hb, hdd, hp, hblk, hown⟩ := H.out.at hi
        have hfin : Hid (s.read n = (f.data, 0)) := by simp [Hid, St.read, hd, hr, hg, St.dataAt, hf]
        have hl := (Hw.out.fsure f (List.mem_of_getElem? hf)).2
        rw [hg] at hat
        simp only [atV, hp] at hat
        have Hat := Lib.hid hat
        have c0 : w.cell? ⟨b, 0, none⟩ = some (.slice d.1 f.data.length d.2) := (cell_blk hblk 0).trans rfl
        have Hown := Lib.hid hown
        clear hd hok hr hat hg hf hb hdd hp hblk hown hi
        go_enter Try.func56, Try.ntmps56
        go_wp2_with fail
        refine Hok.out.mono ?_
        rintro e w1 ⟨rfl, rfl⟩
        go_wp2_with fail
        refine Hat.out.mono ?_
        rintro e w2 ⟨rfl, m, rfl⟩
        have hO2 := Hown.out.keep ((Keep.refl No w).drewN m) fun _ _ h => h
        have HO2 := Lib.hid hO2
        clear hO2
        go_wp2_with (
          (refine wpList_app (by rfl) (.const (.slice none 0 0)) (.tmp 22) 43 43 rfl (Own.nil (w.drewN m) 5 1) Try.underlying43 info5 rfl (by omega) rfl rfl (src_rd (news := BV f.data) (m := f.data.length) Try.underlying43 HO2.out.rd (by simp [BV]) (by omega) (BV_one _)) (by unfold maxLen; omega) (by omega) ?_
           intro A' c' w3 hO3 hK3 hA
           have HO3 := Lib.hid hO3
           have HK3 := Lib.hid hK3
           have HA := Lib.hid hA
           clear hO3 hK3 hA))
        go_ret2
        have h := HO3.out
        rw [Nat.zero_add, List.nil_append] at h
        rw [hfin.out]
        refine ⟨A', c', by simp, h, ((Keep.refl No w).drewN m).trans' (HK3.out.mono fun k _ e => by simp at e), fun k hk => ?_⟩
        rcases HA.out with rfl | ⟨rfl, h2⟩
        · simp at hk
        · simp at hk
          subst hk
          exact ⟨Nat.le_refl _, h2⟩

end Go.Dx

namespace Go.Dx
open Go.RowKit Go.Proofs

def St.syncDirB (r : St) : Int × St := if (r.fls 1).2.1 then (30, (r.fls 1).2.2) else (0, { (r.fls 1).2.2 with sure := (r.fls 1).2.2.now, changes := [] })
theorem syncDir_B (s : St) : s.syncDir = if (s.bgn true).1 ≠ 0 then s.bgn true else (s.bgn true).2.syncDirB := rfl

set_option maxRecDepth 100000 in
set_option maxHeartbeats 2000000 in
theorem syncDirR_any {w : World} {D : Nat} {s : St} {L : RL} (h : RDL w D s L) (hw : Wf s) :
    Calls Try.prog 55 #[.pointer (some ⟨D, 0, none⟩)] w fun e w' => e = .returned (.int .i64 s.syncDir.1) ∧ DidR w D L s.syncDir.2 w' := by
  have c9 : w.cell? ⟨D, 9, none⟩ = some (.bool s.down) := h.cell 9 rfl
  have H := Lib.hid h
  have Hw := Lib.hid hw
  clear h hw
  cases hd : s.down with
  | true =>
    have hfin : Hid (s.syncDir = (30, s)) := by simp [Hid, St.syncDir, bgn_dn hd]
    rw [hd] at c9
    clear hd
    go_enter Try.func55, Try.ntmps55
    go_wp2_with fail
    go_ret
    rw [hfin.out]
    exact ⟨rfl, DidR.same H.out (Keep.refl _ _)⟩
  | false =>
    rw [hd] at c9
    have hrg := rigged_any H.out Hw.out.bwell Hw.out.bfails
    have hw1 := Lib.hid (rig_wf Hw.out)
    have hs31 : s.rig.1 = true → s.syncDir = (31, s.rig.2) := fun h => by rw [syncDir_B, bgn_31 hd h]; rfl
    have hs0 : s.rig.1 = false → s.syncDir = s.rig.2.syncDirB := fun h => by rw [syncDir_B, bgn_0 hd h]; rfl
    generalize hR : s.rig = r at *
    have Hrg := Lib.hid hrg
    have Hs31 := Lib.hid hs31
    have Hs0 := Lib.hid hs0
    clear hd hrg hR hs31 hs0
    go_enter Try.func55, Try.ntmps55
    go_wp2_with fail
    refine Hrg.out.mono ?_
    rintro e w1 ⟨rfl, h1, k1⟩
    cases hr1 : r.1 with
    | true =>
      have hfin : Hid (s.syncDir = (31, r.2)) := Hs31.out hr1
      have H1 := Lib.hid h1
      have K1 := Lib.hid k1
      clear h1 k1
      go_wp2_with fail
      go_ret
      rw [hfin.out]
      exact ⟨rfl, DidR.same H1.out K1.out⟩
    | false =>
      have hsy2 : Hid (s.syncDir = r.2.syncDirB) := Hs0.out hr1
      have hfl := Lib.hid (fls_files r.2 1)
      have hF := fallsR_any h1 hw1.out.bleft 1 (by omega) (by omega)
      have hsy3 : Hid (s.syncDir = if (r.2.fls 1).2.1 then (30, (r.2.fls 1).2.2) else (0, { (r.2.fls 1).2.2 with sure := (r.2.fls 1).2.2.now, changes := [] })) := hsy2.out
      simp only [Int.toNat_one] at hF
      generalize hq : r.2.fls 1 = q at *
      have HF := Lib.hid hF
      have K1 := Lib.hid k1
      clear hq hF hsy2 h1 k1
      go_wp2_with fail
      refine HF.out.mono ?_
      rintro e w2 ⟨rfl, h2, k2⟩
      have H2 := Lib.hid h2
      have K2 := Lib.hid (K1.out.trans' k2)
      clear h2 k2
      cases hq2 : q.2.1 with
      | true =>
        have hfin : Hid (s.syncDir = (30, q.2.2)) := by unfold Hid; rw [hsy3.out, hq2]; rfl
        go_wp2_with fail
        go_ret
        rw [hfin.out]
        exact ⟨rfl, DidR.same H2.out K2.out⟩
      | false =>
        have hfin : Hid (s.syncDir = (0, { q.2.2 with sure := q.2.2.now, changes := [] })) := by unfold Hid; rw [hsy3.out, hq2]; rfl
        have hnl := hw1.out.nlen
        rw [← hfl.out.2.1] at hnl
        have htw := twin_any (c := L.nC) H2.out.now.rd (by omega)
        have c2 : w2.cell? ⟨D, 2, none⟩ = some (.slice L.nA q.2.2.now.length L.nC) := H2.out.cell 2 rfl
        have Htw := Lib.hid htw
        clear htw
        go_wp2_with fail
        refine Htw.out.mono ?_
        rintro e w3 ⟨A', c', rfl, hO3, hk3, hA3⟩
        have h3 := H2.out.keepNo hk3
        have d3 : w3.cell? ⟨D, 3, none⟩ = some (.slice L.sA q.2.2.sure.length L.sC) := h3.cell 3 rfl
        have d4 : w3.cell? ⟨D, 4, none⟩ = some (.slice L.cA q.2.2.changes.length L.cC) := h3.cell 4 rfl
        have z3 := h3.froz 3
        have z4 := h3.froz 4
        have H3 := Lib.hid h3
        have HO3 := Lib.hid hO3
        have Hk3 := Lib.hid hk3
        have HA3 := Lib.hid hA3
        clear h3 hO3 hk3 hA3
        go_wp2_with fail
        go_ret
        rw [hfin.out]
        have k4 := ((Keep.refl (fun k => k = D) w3).setAt rfl 3 (.slice A' q.2.2.now.length c')).setAt rfl 4 (.slice none 0 0)
        have hb := set_blk (set_blk H3.out.disk 3 (.slice A' q.2.2.now.length c')) 4 (.slice none 0 0)
        have hsz4 := k4.size
        have hs0 := K2.out.size
        have hs3 := Hk3.out.size
        refine ⟨rfl, { L with sA := A', sC := c', cA := none, cC := 0 }, ⟨hb, ?_, ?_, ?_, ?_, Own.nil _ _ _, ?_⟩, (K2.out.trans' ((Hk3.out.mono fun _ _ h => h.elim).trans' k4)).mono fun _ _ e => .inl e, ?_⟩
        · exact H3.out.ptrs.keep k4 fun k hk e => H3.out.neD k (.inl hk) e
        · exact H3.out.files.same (S := footF L.fb L.fd) (fun k hk => k4.block k (H3.out.files.lt k hk) (H3.out.neD k (.inr (.inr (.inr (.inr hk)))))) fun _ h => h
        · exact H3.out.now.keep k4 fun k hk e => H3.out.neD k (.inr (.inl hk)) e
        · exact HO3.out.keep k4 fun k hk e => HO3.out.ne_blk H3.out.disk (by decide) (by rw [← e]; exact hk)
        · intro k hk1 hk2
          have h1 := H2.out.now.lt hk1
          have h2 := (HA3.out k hk2).1
          omega
        · rintro k (e | e | e | e | e | e)
          · exact .inl (.inl e)
          · exact .inl (.inr (.inl e))
          · exact .inl (.inr (.inr (.inl e)))
          · have := HA3.out k e
            exact .inr ⟨Nat.le_trans hs0 this.1, by have := this.2; omega⟩
          · simp at e
          · exact .inl (.inr (.inr (.inr (.inr (.inr e)))))

end Go.Dx

namespace Go.Dx
open Go.RowKit Go.Proofs

theorem ptrsV_snoc (fb : List Nat) (b : Nat) : ptrsV (fb ++ [b]) = ptrsV fb ++ [.pointer (some ⟨b, 0, none⟩)] := by simp [ptrsV]
/-- One file more: a block of its own, bytes that no other file holds. -/
theorem RDL.addFile {w w' : World} {D : Nat} {s : St} {L : RL} (h : RDL w D s L) {f : FV} {b : Nat} {d : Option Addr × Nat} {fA' : Option Addr} {fC' : Nat} (hk : Keep (fun k => k = D ∨ bk L.fA = some k) w w')
    (hd : w'.heap[D]? = some (.cells (diskR { s with files := s.files ++ [f] } { L with fA := fA', fC := fC' }) 85 (0, 0))) (hp : Own w' 86 1 fA' (s.files.length + 1) fC' (ptrsV (L.fb ++ [b])))
    (hb : w'.heap[b]? = some (.cells (fileC f d) 90 (0, 0))) (hbn : w.heap.size ≤ b) (ho : Own w' 5 1 d.1 f.data.length d.2 (BV f.data)) (hdn : ∀ k, bk d.1 = some k → w.heap.size ≤ k) :
    RDL w' D { s with files := s.files ++ [f] } { L with fA := fA', fC := fC', fb := L.fb ++ [b], fd := L.fd ++ [d] } := by
  refine ⟨hd, by simp only [List.length_append, List.length_cons, List.length_nil]; exact hp, ?_, ?_, ?_, ?_, h.apart⟩
  · refine h.files.push (by decide) hk (fun k hk1 e => ?_) hb ho (fun hm => ?_) (fun k hk1 x hx e => ?_)
    · rcases e with e | e
      · exact h.neD k (.inr (.inr (.inr (.inr hk1)))) e
      · exact (h.rowF k hk1).2.2.2 e
    · have := h.files.lt b (.inl hm); omega
    · have h1 := h.files.lt k (.inr ⟨x, hx, e⟩)
      have h2 := hdn k hk1
      omega
  · exact h.now.keep hk fun k hk1 e => by
      rcases e with e | e
      · exact h.neD k (.inr (.inl hk1)) e
      · exact h.rows.1 k hk1 e
  · exact h.sure.keep hk fun k hk1 e => by
      rcases e with e | e
      · exact h.neD k (.inr (.inr (.inl hk1))) e
      · exact h.rows.2.2.1 k hk1 e
  · exact h.chs.keep hk fun k hk1 e => by
      rcases e with e | e
      · exact h.neD k (.inr (.inr (.inr (.inl hk1)))) e
      · exact h.rows.2.2.2.2 k hk1 e

end Go.Dx

namespace Go.Dx
open Go.RowKit Go.Proofs

theorem RDL.appFile {w : World} {D : Nat} {s : St} {L : RL} (h : RDL w D s L) {i : Nat} {f : FV} {b : Nat} {d : Option Addr × Nat} (hf : s.files[i]? = some f) (hb : L.fb[i]? = some b) (hd : L.fd[i]? = some d) (hblk : w.heap[b]? = some (.cells (fileC f d) 90 (0, 0)))
    {A' : Option Addr} {c' : Nat} {bs : List UInt8} {w3 : World} (hK : Keep (fun k => bk d.1 = some k) w w3) (hO : Own w3 5 1 A' (f.data.length + bs.length) c' (BV (f.data ++ bs)))
    (hA : ∀ k, bk A' = some k → bk d.1 = some k ∨ New w w3 k) :
    DidR w D L (s.app i bs) (w3.setCell ⟨b, 0, none⟩ (.slice A' (f.data ++ bs).length c')) := by
  have hne : bk d.1 ≠ some b := by
    obtain ⟨f2, b2, d2, h1, h2, h3, _, _, h6⟩ := h.at (List.getElem?_eq_some_iff.1 hf).1
    rw [hd] at h3; cases h3
    exact h6.ne_blk hblk (by decide)
  have hb3 : w3.heap[b]? = some (.cells (fileC f d) 90 (0, 0)) := (hK.block b (lt_blk hblk) hne).trans hblk
  have hlt : b < w3.heap.size := lt_blk hb3
  have k4 := (Keep.refl (fun k => k = b) w3).setAt rfl 0 (.slice A' (f.data ++ bs).length c')
  have kall : Keep (fun k => k = b ∨ bk d.1 = some k) w (w3.setCell ⟨b, 0, none⟩ (.slice A' (f.data ++ bs).length c')) := (hK.mono fun _ _ e => .inr e).trans' (k4.mono fun _ _ e => .inl e)
  have hneA : bk A' ≠ some b := by
    intro e
    rcases hA b e with e | e
    · exact hne e
    · exact absurd e.1 (Nat.not_le.2 (lt_blk hblk))
  refine ⟨{ L with fd := L.fd.set i (A', c') }, ?_, ?_, ?_⟩
  · have := h.updFile (f' := ⟨f.data ++ bs, f.sure⟩) (d' := (A', c')) hf hb hd kall ?_ ?_ fun k hk => ?_
    · unfold St.app
      rw [modify_eq_set _ _ _ f hf]
      exact this
    · exact set_blk hb3 0 _
    · rw [show (FV.mk (f.data ++ bs) f.sure).data.length = f.data.length + bs.length by simp]
      exact hO.same (S := fun k => k ≠ b) (fun k hk => set_far hk _) fun k hk e => hneA (by rw [← e]; exact hk)
    · rcases hA k hk with e | e
      · exact .inl e
      · exact .inr e.1
  · refine kall.mono fun k _ e => ?_
    rcases e with rfl | e
    · exact .inr (.inr (.inr (.inr (.inr (.inl (List.mem_of_getElem? hb))))))
    · exact .inr (.inr (.inr (.inr (.inr (.inr ⟨d, List.mem_of_getElem? hd, e⟩)))))
  · rintro k (e | e | e | e | e | e)
    · exact .inl (.inl e)
    · exact .inl (.inr (.inl e))
    · exact .inl (.inr (.inr (.inl e)))
    · exact .inl (.inr (.inr (.inr (.inl e))))
    · exact .inl (.inr (.inr (.inr (.inr (.inl e)))))
    · rcases e with e | ⟨x, hx, e⟩
      · exact .inl (.inr (.inr (.inr (.inr (.inr (.inl e))))))
      · obtain ⟨j, hj⟩ := List.mem_iff_getElem?.1 hx
        rw [List.getElem?_set] at hj
        split at hj
        · split at hj
          · cases hj
            rcases hA k e with e | e
            · exact .inl (.inr (.inr (.inr (.inr (.inr (.inr ⟨d, List.mem_of_getElem? hd, e⟩))))))
            · right
              have := k4.size
              exact ⟨e.1, Nat.lt_of_lt_of_le e.2 this⟩
          · cases hj
        · exact .inl (.inr (.inr (.inr (.inr (.inr (.inr ⟨x, List.mem_of_getElem? hj, e⟩))))))
theorem RDL.appTake {w w2 : World} {D : Nat} {s : St} {L : RL} (h : RDL w D s L) {i : Nat} {f : FV} {b : Nat} {d : Option Addr × Nat} (hf : s.files[i]? = some f) (hb : L.fb[i]? = some b) (hd : L.fd[i]? = some d) (hblk : w.heap[b]? = some (.cells (fileC f d) 90 (0, 0)))
    {A' : Option Addr} {c' : Nat} {bs : List UInt8} {w3 : World} {m : Nat} (hm : m ≤ bs.length) (k2 : Keep No w w2) (hK : Keep (fun k => bk d.1 = some k) w2 w3) (hO : Own w3 5 1 A' (f.data.length + m) c' (BV f.data ++ BV (bs.take m)))
    (hA : A' = d.1 ∨ (A' = some ⟨w2.heap.size, 0, none⟩ ∧ w2.heap.size < w3.heap.size)) :
    DidR w D L (s.app i (bs.take m)) (w3.setCell ⟨b, 0, none⟩ (.slice A' (f.data.length + m) c')) := by
  have hl : (bs.take m).length = m := List.length_take_of_le hm
  have := h.appFile hf hb hd hblk (A' := A') (c' := c') (bs := bs.take m) (w3 := w3) ((k2.mono fun _ _ h => h.elim).trans' hK) (by rw [hl, ← BV_append]; exact hO) (fun k hk => by
    rcases hA with rfl | ⟨rfl, hlt⟩
    · exact .inl hk
    · right
      simp at hk hlt
      have h2 := k2.size
      subst hk
      exact ⟨by omega, by omega⟩)
  rw [List.length_append, hl] at this
  exact this

end Go.Dx

namespace Go.Dx
open Go.RowKit Go.Proofs

theorem bgn_files_now (s : St) : s.rig.2.now = s.now := (rig_files s).2.1
theorem append_0 {s : St} {n : Nm} {b : List UInt8} (hd : s.down = false) (hr : right n = true) (h : s.rig.1 = false) : s.append n b =
    (match get s.rig.2.now n with
     | none => (34, s.rig.2)
     | some i => if s.rig.2.full i b.length then (32, s.rig.2) else if (s.rig.2.fls (1 + b.length)).2.1 then (30, (s.rig.2.fls (1 + b.length)).2.2.app i (b.take (s.rig.2.fls (1 + b.length)).1)) else (0, (s.rig.2.fls (1 + b.length)).2.2.app i b)) := by
  unfold St.append
  rw [hr, bgn_0 hd h]
  rfl
theorem append_31 {s : St} {n : Nm} {b : List UInt8} (hd : s.down = false) (hr : right n = true) (h : s.rig.1 = true) : s.append n b =
    (match get s.rig.2.now n with
     | some i => if s.rig.2.full i (min s.part b.length) then (31, s.rig.2) else (31, s.rig.2.app i (b.take (min s.part b.length)))
     | none => (31, s.rig.2)) := by
  unfold St.append
  rw [hr, bgn_31 hd h]
  rfl

end Go.Dx

namespace Go.Dx
open Go.RowKit Go.Proofs

set_option maxRecDepth 100000 in
set_option maxHeartbeats 4000000 in
theorem appendR_any {w : World} {D : Nat} {s : St} {L : RL} (h : RDL w D s L) (hw : Wf s) (n : Nm) (hn : n.size ≤ 140737488355328) {S : Nat → Prop} {A : Option Addr} {c : Nat} {bs : List UInt8} (hb : ArgB w S A c bs) (hS : ∀ k, S k → ¬ footR D L k) :
    Calls Try.prog 51 #[.pointer (some ⟨D, 0, none⟩), .string n, .slice A bs.length c] w fun e w' => e = .returned (.int .i64 (s.append n bs).1) ∧ DidR w D L (s.append n bs).2 w' := by
  have c9 : w.cell? ⟨D, 9, none⟩ = some (.bool s.down) := h.cell 9 rfl
  have c8 : w.cell? ⟨D, 8, none⟩ = some (.int .i64 s.part) := h.cell 8 rfl
  have hok := okB_any n w hn
  have H := Lib.hid h
  have Hw := Lib.hid hw
  have HAb := Lib.hid hb
  have HS := Lib.hid hS
  clear h hw hb hS
  cases hd : s.down with
  | true =>
    have hfin : Hid (s.append n bs = (30, s)) := by simp [Hid, St.append, bgn_dn hd]
    rw [hd] at c9
    clear hd hok
    go_enter Try.func51, Try.ntmps51
    go_wp2_with fail
    go_ret
    rw [hfin.out]
    exact ⟨rfl, DidR.same H.out (Keep.refl _ _)⟩
  | false =>
    rw [hd] at c9
    cases hr : right n with
    | false =>
      have hfin : Hid (s.append n bs = (33, s)) := by simp [Hid, St.append, hr, bgn_nm hd]
      rw [hr] at hok
      have Hok := Lib.hid hok
      clear hd hr hok
      go_enter Try.func51, Try.ntmps51
      go_wp2_with fail
      refine Hok.out.mono ?_
      rintro e w1 ⟨rfl, rfl⟩
      go_wp2_with fail
      go_ret
      rw [hfin.out]
      exact ⟨rfl, DidR.same H.out (Keep.refl _ _)⟩
    | true =>
      rw [hr] at hok
      have Hok := Lib.hid hok
      have hat := at_any H.out Hw.out n
      have hrg := fun m => rigged_any (H.out.keepNo ((Keep.refl No w).drewN m)) Hw.out.bwell Hw.out.bfails
      have hw1 := Lib.hid (rig_wf Hw.out)
      have hrf := Lib.hid (rig_files s)
      have h31 := fun h => append_31 (b := bs) hd hr h
      have h0 := fun h => append_0 (b := bs) hd hr h
      rw [bgn_files_now] at h31 h0
      generalize hR : s.rig = r at *
      have Hrg := Lib.hid hrg
      have H31 := Lib.hid h31
      have H0 := Lib.hid h0
      clear hd hr hok hrg hR h31 h0
      cases hg : get s.now n with
      | none =>
        rw [hg] at hat
        simp only [atV] at hat
        have Hat := Lib.hid hat
        clear hat
        go_enter Try.func51, Try.ntmps51
        go_wp2_with fail
        refine Hok.out.mono ?_
        rintro e w1 ⟨rfl, rfl⟩
        go_wp2_with fail
        refine Hat.out.mono ?_
        rintro e w2 ⟨rfl, m, rfl⟩
        go_wp2_with fail
        refine (Hrg.out m).mono ?_
        rintro e w1 ⟨rfl, h1, k1⟩
        have k1 : Keep (fun k => k = D) w w1 := ((Keep.refl (fun k => k = D) w).drewN m).trans' k1
        have H1 := Lib.hid h1
        have K1 := Lib.hid k1
        clear h1 k1
        cases hr1 : r.1 with
        | true =>
          have hfin : Hid (s.append n bs = (31, r.2)) := by unfold Hid; rw [H31.out hr1, hg]
          go_wp2_with fail
          go_ret
          rw [hfin.out]
          exact ⟨rfl, DidR.same H1.out K1.out⟩
        | false =>
          have hfin : Hid (s.append n bs = (34, r.2)) := by unfold Hid; rw [H0.out hr1, hg]
          go_wp2_with fail
          go_ret
          rw [hfin.out]
          exact ⟨rfl, DidR.same H1.out K1.out⟩
      | some i =>
        have hi : i < s.files.length := Hw.out.idxN _ (get_mem hg)
        obtain ⟨_, b, _, _, hb, _, hp, _, _⟩ := H.out.at hi
        rw [hg] at hat
        simp only [atV, hp] at hat
        have Hat := Lib.hid hat
        have Hb := Lib.hid hb
        have Hg := Lib.hid hg
        have hi := Lib.hid hi
        have hmx := HAb.out.max
        have hcap := HAb.out.cap
        clear hat hb hp hg
        go_enter Try.func51, Try.ntmps51
        go_wp2_with fail
        refine Hok.out.mono ?_
        rintro e w1 ⟨rfl, rfl⟩
        go_wp2_with fail
        refine Hat.out.mono ?_
        rintro e w2 ⟨rfl, m, rfl⟩
        go_wp2_with fail
        refine (Hrg.out m).mono ?_
        rintro e w1 ⟨rfl, h1, k1⟩
        have k1 : Keep (fun k => k = D) w w1 := ((Keep.refl (fun k => k = D) w).drewN m).trans' k1
        have hab1 := HAb.out.keep k1 fun k hk e => HS.out k hk (.inl e)
        obtain ⟨f, b', d, hf, hb', hdd, _, hblk, hown⟩ := h1.at (i := i) (by rw [hrf.out.1]; exact hi.out)
        rw [Hb.out] at hb'; cases hb'
        have hfull := fun m (hm : m ≤ 140737488355328) => fullR_any h1 hw1.out hf hblk m hm
        have hlA : Hid (r.2.lenAt i = f.data.length) := by simp [Hid, St.lenAt, hf]
        have H1 := Lib.hid h1
        have K1 := Lib.hid k1
        have HAb1 := Lib.hid hab1
        have Hf := Lib.hid hf
        have Hd := Lib.hid hdd
        have Hblk := Lib.hid hblk
        have Hown := Lib.hid hown
        clear h1 k1 hab1 hf hdd hblk hown
        cases hr1 : r.1 with
        | true =>
          obtain ⟨mm, hmm⟩ : ∃ mm : Nat, min s.part bs.length = mm := ⟨_, rfl⟩
          have hfin : Hid (s.append n bs = if r.2.full i mm then (31, r.2) else (31, r.2.app i (bs.take mm))) := by
            rw [← hmm]
            unfold Hid
            rw [H31.out hr1, Hg.out]
          have hmle : mm ≤ bs.length := by omega
          have hmn : ∀ ts t W, (Builtin.min_ ts t #[.int .i64 s.part, .int .i64 bs.length]).run Try.prog W = .ok (.int .i64 mm) W := fun ts t W => by rw [run_min2]; congr 2; omega
          have hfull1 := hfull mm (by omega)
          have hslice := fun W => run_to W A bs.length c mm (by omega)
          generalize hfu : r.2.full i mm = q at hfull1 hfin
          clear hmm
          have Hfull := Lib.hid hfull1
          have Hfu := Lib.hid hfu
          clear hfull hfull1 hfu
          go_wp2_with fail
          refine Hfull.out.mono ?_
          rintro e w2 ⟨rfl, m2, rfl⟩
          have h2 := H1.out.keepNo ((Keep.refl No w1).drewN m2)
          have hab2 := HAb1.out.keep ((Keep.refl No w1).drewN m2) fun _ _ h => h
          have hblk2 : (w1.drewN m2).heap[b]? = some (.cells (fileC f d) 90 (0, 0)) := Hblk.out
          have hown2 := Hown.out.keep ((Keep.refl No w1).drewN m2) fun _ _ h => h
          have k2 := K1.out.drewN m2
          generalize w1.drewN m2 = w2 at *
          have H2 := Lib.hid h2
          have K2 := Lib.hid k2
          have HAb2 := Lib.hid hab2
          have Hblk := Lib.hid hblk2
          have Hown := Lib.hid hown2
          clear h2 k2 hab2 hblk2 hown2
          cases q with
          | true =>
            have hfin2 : Hid (s.append n bs = (31, r.2)) := by rw [hfin.out]; rfl
            clear hfin
            go_wp2_with fail
            go_ret
            rw [hfin2.out]
            exact ⟨rfl, DidR.same H2.out K2.out⟩
          | false =>
            have hle := full_le Hfu.out
            rw [hlA.out] at hle
            have Hfin := Lib.hid hfin
            clear hfin
            go_wp2_with fail
            have hcells : Hid (∀ W, Keep (fun k => bk d.1 = some k) w2 W → (W.cell? ⟨b, 0, none⟩ = some (.slice d.1 f.data.length d.2) ∧ W.frozen? ⟨b, 0, none⟩ = false)) := by
              intro W hW
              have hWb : W.heap[b]? = some (.cells (fileC f d) 90 (0, 0)) := (hW.block b (lt_blk Hblk.out) (Hown.out.ne_blk Hblk.out (by decide))).trans Hblk.out
              exact ⟨(cell_blk hWb 0).trans rfl, froz_blk hWb 0⟩
            refine wp_region_T (Keep (fun k => bk d.1 = some k) w2) [(0, true), (1, true), (2, true), (3, true), (4, true), (5, true), (6, true), (7, true), (8, false), (9, true), (10, true), (11, false)] (by kernel_rfl) (by kernel_rfl) (Keep.refl _ _).drew ?_
            iterate 8
              (apply T_read rfl (by rfl)
               (· (intro W hW; have hc := hcells.out W hW; go_simp; try with_reducible rfl))
               (simp only [Act.put, List.getElem_toArray, List.getElem_cons_succ, List.getElem_cons_zero, List.setIfInBounds_toArray, List.set_cons_zero, List.set_cons_succ]))
            refine T_do rfl (by rfl) (fun K hK => ?_)
            have hO3 : Own w2.drew 5 1 d.1 f.data.length d.2 (BV f.data) := Hown.out.keep (Keep.refl No w2).drew fun _ _ h => h
            have hA3 := HAb2.out.keep (Keep.refl No w2).drew fun _ _ h => h
            refine wp_app (.tmp 43) (.tmp 46) 43 43 rfl hO3 Try.underlying43 info5 rfl (by omega) rfl rfl (hA3.src _ hmle) (by unfold maxLen; omega) (by omega) (fun A' c' w3 hO hK3 hA => ?_)
            have hk3 : Keep (fun k => bk d.1 = some k) w2 w3 := (Keep.refl _ w2).drew.trans' (hK3.mono fun k _ e => e.symm)
            refine hK _ _ (fun _ => hk3) ?_
            (simp only [Act.put, List.getElem_toArray, List.getElem_cons_succ, List.getElem_cons_zero, List.setIfInBounds_toArray, List.set_cons_zero, List.set_cons_succ])
            iterate 2
              (apply T_read rfl (by rfl)
               (· (intro W hW; have hc := hcells.out W hW; go_simp; try with_reducible rfl))
               (simp only [Act.put, List.getElem_toArray, List.getElem_cons_succ, List.getElem_cons_zero, List.setIfInBounds_toArray, List.set_cons_zero, List.set_cons_succ]))
            have hc3 := hcells.out w3 hk3
            have hD := H2.out.appTake Hf.out Hb.out Hd.out Hblk.out hmle (Keep.refl No w2) hk3 hO hA
            have HD := Lib.hid (hD.after K2.out)
            clear hD hO hk3 hK3 hA
            refine T_do rfl (by rfl) (fun K hK => ?_)
            go_simp
            refine hK _ _ (fun h => absurd rfl h) (T_end ?_)
            go_wp2_with fail
            go_ret
            rw [Hfin.out.out]
            exact ⟨rfl, HD.out⟩
        | false =>
          have hfin0 : Hid (s.append n bs = if r.2.full i bs.length then (32, r.2) else if (r.2.fls (1 + bs.length)).2.1 then (30, (r.2.fls (1 + bs.length)).2.2.app i (bs.take (r.2.fls (1 + bs.length)).1)) else (0, (r.2.fls (1 + bs.length)).2.2.app i bs)) := by
            unfold Hid
            rw [H0.out hr1, Hg.out]
          have hfull1 := hfull bs.length (by omega)
          have hle0 : r.2.full i bs.length = false → r.2.lenAt i + bs.length ≤ 2147483648 := full_le
          generalize hfu : r.2.full i bs.length = q at hfull1 hfin0 hle0
          have Hfull := Lib.hid hfull1
          have Hle0 := Lib.hid hle0
          clear hfull hfull1 hfu hle0
          have hq1 : (r.2.fls (1 + bs.length)).2.1 = true → (r.2.fls (1 + bs.length)).1 < 1 + bs.length := fls_lt
          have hfl := Lib.hid (fls_files r.2 (1 + bs.length))
          have hF := fun (W : World) (hW : RDL W D r.2 L) => fallsR_any hW hw1.out.bleft (1 + bs.length) (by omega) (by omega)
          rw [show ((1 : Int) + bs.length).toNat = 1 + bs.length by omega] at hF
          generalize hqq : r.2.fls (1 + bs.length) = qq at *
          obtain ⟨q1, q2, q3⟩ := qq
          simp only at hq1 hF hfl hfin0
          have HF := Lib.hid hF
          have Hq1 := Lib.hid hq1
          have Hfin0 := Lib.hid hfin0
          clear hqq hF hq1 hfin0
          go_wp2_with fail
          refine Hfull.out.mono ?_
          rintro e w2 ⟨rfl, m2, rfl⟩
          have h2 := H1.out.keepNo ((Keep.refl No w1).drewN m2)
          have hab2 := HAb1.out.keep ((Keep.refl No w1).drewN m2) fun _ _ h => h
          have k2 := K1.out.drewN m2
          generalize w1.drewN m2 = w2 at *
          cases q with
          | true =>
            have hfin : Hid (s.append n bs = (32, r.2)) := by unfold Hid; rw [Hfin0.out]; rfl
            have H2 := Lib.hid h2
            have K2 := Lib.hid k2
            clear h2 k2 hab2
            go_wp2_with fail
            go_ret
            rw [hfin.out]
            exact ⟨rfl, DidR.same H2.out K2.out⟩
          | false =>
            have hle1 := Hle0.out rfl
            have HF2 := Lib.hid (HF.out w2 h2)
            have K2' := Lib.hid k2
            have HAb2' := Lib.hid hab2
            clear h2 k2 hab2
            go_wp2_with fail
            refine HF2.out.mono ?_
            rintro e w3 ⟨rfl, h3, k3⟩
            have hab3 := HAb2'.out.keep k3 fun k hk e => HS.out k hk (.inl e)
            have k3 := K2'.out.trans' k3
            clear HF2 K2' HAb2' Hf Hd Hblk Hown HAb1 H1 K1
            obtain ⟨f, b', d, hf, hb', hdd, _, hblk, hown⟩ := h3.at (i := i) (by rw [hfl.out.1, hrf.out.1]; exact hi.out)
            rw [Hb.out] at hb'; cases hb'
            have hle : f.data.length + bs.length ≤ 2147483648 := by
              unfold St.lenAt at hle1
              rw [← hfl.out.1, hf] at hle1
              simp only at hle1
              omega
            have c0 : w3.cell? ⟨b, 0, none⟩ = some (.slice d.1 f.data.length d.2) := (cell_blk hblk 0).trans rfl
            have H2 := Lib.hid h3
            have K2 := Lib.hid k3
            have HAb2 := Lib.hid hab3
            have Hf := Lib.hid hf
            have Hd := Lib.hid hdd
            have Hblk := Lib.hid hblk
            have Hown := Lib.hid hown
            clear h3 k3 hab3 hf hdd hblk hown hle1 hlA
            cases q2 with
            | true =>
              have hmle : q1 ≤ bs.length := by have := Hq1.out rfl; omega
              have hslice := fun W => run_to W A bs.length c q1 (by omega)
              have Hfin : Hid (Hid (s.append n bs = (30, q3.app i (bs.take q1)))) := by unfold Hid; rw [Hfin0.out]; rfl
              go_wp2_with fail
              have hcells : Hid (∀ W, Keep (fun k => bk d.1 = some k) w3 W → (W.cell? ⟨b, 0, none⟩ = some (.slice d.1 f.data.length d.2) ∧ W.frozen? ⟨b, 0, none⟩ = false)) := by
                intro W hW
                have hWb : W.heap[b]? = some (.cells (fileC f d) 90 (0, 0)) := (hW.block b (lt_blk Hblk.out) (Hown.out.ne_blk Hblk.out (by decide))).trans Hblk.out
                exact ⟨(cell_blk hWb 0).trans rfl, froz_blk hWb 0⟩
              refine wp_region_T (Keep (fun k => bk d.1 = some k) w3) [(0, true), (1, true), (2, true), (3, true), (4, true), (5, true), (6, true), (7, true), (8, false), (9, true), (10, true), (11, false)] (by kernel_rfl) (by kernel_rfl) (Keep.refl _ _).drew ?_
              iterate 8
                (apply T_read rfl (by rfl)
                 (· (intro W hW; have hc := hcells.out W hW; go_simp; try with_reducible rfl))
                 (simp only [Act.put, List.getElem_toArray, List.getElem_cons_succ, List.getElem_cons_zero, List.setIfInBounds_toArray, List.set_cons_zero, List.set_cons_succ]))
              refine T_do rfl (by rfl) (fun K hK => ?_)
              have hO3 : Own w3.drew 5 1 d.1 f.data.length d.2 (BV f.data) := Hown.out.keep (Keep.refl No w3).drew fun _ _ h => h
              have hA3 := HAb2.out.keep (Keep.refl No w3).drew fun _ _ h => h
              refine wp_app (.tmp 70) (.tmp 73) 43 43 rfl hO3 Try.underlying43 info5 rfl (by omega) rfl rfl (hA3.src _ hmle) (by unfold maxLen; omega) (by omega) (fun A' c' w4 hO hK3 hA => ?_)
              have hk3 : Keep (fun k => bk d.1 = some k) w3 w4 := (Keep.refl _ w3).drew.trans' (hK3.mono fun k _ e => e.symm)
              refine hK _ _ (fun _ => hk3) ?_
              (simp only [Act.put, List.getElem_toArray, List.getElem_cons_succ, List.getElem_cons_zero, List.setIfInBounds_toArray, List.set_cons_zero, List.set_cons_succ])
              iterate 2
                (apply T_read rfl (by rfl)
                 (· (intro W hW; have hc := hcells.out W hW; go_simp; try with_reducible rfl))
                 (simp only [Act.put, List.getElem_toArray, List.getElem_cons_succ, List.getElem_cons_zero, List.setIfInBounds_toArray, List.set_cons_zero, List.set_cons_succ]))
              have hc3 := hcells.out w4 hk3
              have hD := H2.out.appTake Hf.out Hb.out Hd.out Hblk.out hmle (Keep.refl No w3) hk3 hO hA
              have HD := Lib.hid (hD.after K2.out)
              clear hD hO hk3 hK3 hA
              refine T_do rfl (by rfl) (fun K hK => ?_)
              go_simp
              refine hK _ _ (fun h => absurd rfl h) (T_end ?_)
              go_wp2_with fail
              go_ret
              rw [Hfin.out.out]
              exact ⟨rfl, HD.out⟩
            | false =>
              have hmle : bs.length ≤ bs.length := Nat.le_refl _
              have Hfin : Hid (s.append n bs = (0, q3.app i bs)) := by unfold Hid; rw [Hfin0.out]; rfl
              have z0 : ∀ W, Keep (fun k => bk d.1 = some k) w3 W → W.frozen? ⟨b, 0, none⟩ = false := fun W hW => by
                have hWb : W.heap[b]? = some (.cells (fileC f d) 90 (0, 0)) := (hW.block b (lt_blk Hblk.out) (Hown.out.ne_blk Hblk.out (by decide))).trans Hblk.out
                exact froz_blk hWb 0
              have cz0 : ∀ W, Keep (fun k => bk d.1 = some k) w3 W → W.cell? ⟨b, 0, none⟩ = some (.slice d.1 f.data.length d.2) := fun W hW => by
                have hWb : W.heap[b]? = some (.cells (fileC f d) 90 (0, 0)) := (hW.block b (lt_blk Hblk.out) (Hown.out.ne_blk Hblk.out (by decide))).trans Hblk.out
                exact (cell_blk hWb 0).trans rfl
              have Z0 := Lib.hid z0
              have CZ0 := Lib.hid cz0
              clear z0 cz0
              go_wp2_with (refine wpList_app (by rfl) (.tmp 81) (.tmp 82) 43 43 rfl Hown.out Try.underlying43 info5 rfl (by omega) rfl rfl (HAb2.out.src bs.length hmle) (by unfold maxLen; omega) (by omega) ?_; intro A' c' w4 hO hK4 hA; have hk4 : Keep (fun k => bk d.1 = some k) w3 w4 := hK4.mono fun k _ e => e.symm; have hz4 := Z0.out w4 hk4; have hc4 := CZ0.out w4 hk4; have HO := Lib.hid hO; have HA' := Lib.hid hA; have Hk4 := Lib.hid hk4; clear hO hK4 hA hk4)
              go_ret
              have hD := H2.out.appTake Hf.out Hb.out Hd.out Hblk.out hmle (Keep.refl No w3) Hk4.out HO.out HA'.out
              rw [List.take_length] at hD
              rw [Hfin.out]
              exact ⟨rfl, hD.after K2.out⟩

end Go.Dx

namespace Go.Dx
open Go.RowKit Go.Proofs

/-- One part of a call behind another. -/
theorem DidR.trans {w w1 w2 : World} {D : Nat} {L L1 : RL} {s2 : St} (k1 : Keep (footR D L) w w1) (f1 : ∀ k, footR D L1 k → footR D L k ∨ New w w1 k) (h : DidR w1 D L1 s2 w2) : DidR w D L s2 w2 := by
  obtain ⟨L2, h2, k2, f2⟩ := h
  have hs2 := k2.size
  have hs1 := k1.size
  refine ⟨L2, h2, k1.trans k2 (fun i hi e => ?_), fun k hk => ?_⟩
  · rcases f1 i e with e | e
    · exact e
    · have := e.1; omega
  · rcases f2 k hk with e | e
    · rcases f1 k e with e | e
      · exact .inl e
      · exact .inr ⟨e.1, by have := e.2; omega⟩
    · exact .inr ⟨by have := e.1; omega, e.2⟩
theorem info86p : (Try.prog.info? 86).map (fun i => (i.zero, i.size, i.bytes)) = some (some (.pointer none), 1, 8) := info86

def St.createB (r : St) (n : Nm) : Int × St :=
  if (get r.now n).isSome then (35, r) else if 8388608 ≤ r.now.length then (32, r) else
  if (r.fls 1).2.1 then (30, (r.fls 1).2.2) else (0, { (r.fls 1).2.2 with files := (r.fls 1).2.2.files ++ [⟨[], 0⟩], now := ins (r.fls 1).2.2.now n (r.fls 1).2.2.files.length, changes := (r.fls 1).2.2.changes ++ [.mk n (r.fls 1).2.2.files.length] })
theorem create_B (s : St) (n : Nm) : s.create n = if (s.bgn (right n)).1 ≠ 0 then s.bgn (right n) else (s.bgn (right n)).2.createB n := rfl

set_option maxRecDepth 100000 in
set_option maxHeartbeats 4000000 in
theorem createR_any {w : World} {D : Nat} {s : St} {L : RL} (h : RDL w D s L) (hw : Wf s) (hch : s.changes.length ≤ 1000000) (hfn : s.files.length ≤ 1000000000) (n : Nm) (hn : n.size ≤ 140737488355328) :
    Calls Try.prog 36 #[.pointer (some ⟨D, 0, none⟩), .string n] w fun e w' => e = .returned (.int .i64 (s.create n).1) ∧ DidR w D L (s.create n).2 w' := by
  have c9 : w.cell? ⟨D, 9, none⟩ = some (.bool s.down) := h.cell 9 rfl
  have H := Lib.hid h
  have Hw := Lib.hid hw
  clear h hw
  cases hd : s.down with
  | true =>
    have hfin : Hid (s.create n = (30, s)) := by simp [Hid, St.create, bgn_dn hd]
    rw [hd] at c9
    clear hd
    go_enter Try.func36, Try.ntmps36
    go_wp2_with fail
    go_ret
    rw [hfin.out]
    exact ⟨rfl, DidR.same H.out (Keep.refl _ _)⟩
  | false =>
    rw [hd] at c9
    cases hr : right n with
    | false =>
      have hfin : Hid (s.create n = (33, s)) := by simp [Hid, St.create, hr, bgn_nm hd]
      have hok := okB_any n w hn
      rw [hr] at hok
      have Hok := Lib.hid hok
      clear hd hr hok
      go_enter Try.func36, Try.ntmps36
      go_wp2_with fail
      refine Hok.out.mono ?_
      rintro e w1 ⟨rfl, rfl⟩
      go_wp2_with fail
      go_ret
      rw [hfin.out]
      exact ⟨rfl, DidR.same H.out (Keep.refl _ _)⟩
    | true =>
      have hok := okB_any n w hn
      rw [hr] at hok
      have Hok := Lib.hid hok
      have hrg := rigged_any H.out Hw.out.bwell Hw.out.bfails
      have hw1 := Lib.hid (rig_wf Hw.out)
      have hrf := Lib.hid (rig_files s)
      have hs31 : s.rig.1 = true → s.create n = (31, s.rig.2) := fun h => by rw [create_B, hr, bgn_31 hd h]; rfl
      have hs0 : s.rig.1 = false → s.create n = s.rig.2.createB n := fun h => by rw [create_B, hr, bgn_0 hd h]; rfl
      generalize hR : s.rig = r at *
      have Hrg := Lib.hid hrg
      have Hs31 := Lib.hid hs31
      have Hs0 := Lib.hid hs0
      clear hd hr hok hrg hR hs31 hs0
      go_enter Try.func36, Try.ntmps36
      go_wp2_with fail
      refine Hok.out.mono ?_
      rintro e w1 ⟨rfl, rfl⟩
      go_wp2_with fail
      refine Hrg.out.mono ?_
      rintro e w1 ⟨rfl, h1, k1⟩
      cases hr1 : r.1 with
      | true =>
        have hfin : Hid (s.create n = (31, r.2)) := Hs31.out hr1
        have H1 := Lib.hid h1
        have K1 := Lib.hid k1
        clear h1 k1
        go_wp2_with fail
        go_ret
        rw [hfin.out]
        exact ⟨rfl, DidR.same H1.out K1.out⟩
      | false =>
        have hsy2 : Hid (s.create n = r.2.createB n) := Hs0.out hr1

        have hat := at_any h1 hw1.out n
        have c2 : ∀ m, (w1.drewN m).cell? ⟨D, 2, none⟩ = some (.slice L.nA r.2.now.length L.nC) := fun m => h1.cell 2 rfl
        have H1 := Lib.hid h1
        have K1 := Lib.hid k1
        have C2 := Lib.hid c2
        clear h1 k1 c2
        cases hg : get r.2.now n with
        | some i =>
          have hfin : Hid (s.create n = (35, r.2)) := by unfold Hid; rw [hsy2.out, St.createB, hg]; rfl
          rw [hg] at hat
          simp only [atV, ptrV] at hat
          have Hat := Lib.hid hat
          clear hat hg
          go_wp2_with fail
          refine Hat.out.mono ?_
          rintro e w2 ⟨rfl, m, rfl⟩
          go_wp2_with fail
          go_ret
          rw [hfin.out]
          exact ⟨rfl, DidR.same (H1.out.keepNo ((Keep.refl No w1).drewN m)) (K1.out.drewN m)⟩
        | none =>
          have hsy3 : Hid (s.create n = if 8388608 ≤ r.2.now.length then (32, r.2) else if (r.2.fls 1).2.1 then (30, (r.2.fls 1).2.2) else (0, { (r.2.fls 1).2.2 with files := (r.2.fls 1).2.2.files ++ [⟨[], 0⟩], now := ins (r.2.fls 1).2.2.now n (r.2.fls 1).2.2.files.length, changes := (r.2.fls 1).2.2.changes ++ [.mk n (r.2.fls 1).2.2.files.length] })) := by unfold Hid; rw [hsy2.out, St.createB, hg]; rfl
          rw [hg] at hat
          simp only [atV] at hat
          have Hat := Lib.hid hat
          clear hat hg hsy2
          go_wp2_with fail
          refine Hat.out.mono ?_
          rintro e w2 ⟨rfl, m, rfl⟩
          have c2 := C2.out m
          by_cases hful : 8388608 ≤ r.2.now.length
          · have hfin : Hid (s.create n = (32, r.2)) := by unfold Hid; rw [hsy3.out, if_pos hful]
            have hf1 : decide ((8388608 : Int) ≤ r.2.now.length) = true := decide_eq_true (by omega)
            clear hful
            go_wp2_with fail
            go_ret
            rw [hfin.out]
            exact ⟨rfl, DidR.same (H1.out.keepNo ((Keep.refl No w1).drewN m)) (K1.out.drewN m)⟩
          · have hf1 : decide ((8388608 : Int) ≤ r.2.now.length) = false := decide_eq_false (by omega)
            have hsy4 : Hid (s.create n = if (r.2.fls 1).2.1 then (30, (r.2.fls 1).2.2) else (0, { (r.2.fls 1).2.2 with files := (r.2.fls 1).2.2.files ++ [⟨[], 0⟩], now := ins (r.2.fls 1).2.2.now n (r.2.fls 1).2.2.files.length, changes := (r.2.fls 1).2.2.changes ++ [.mk n (r.2.fls 1).2.2.files.length] })) := by unfold Hid; rw [hsy3.out, if_neg hful]
            have hfl := Lib.hid (fls_files r.2 1)
            have hF := fallsR_any (H1.out.keepNo ((Keep.refl No w1).drewN m)) hw1.out.bleft 1 (by omega) (by omega)
            simp only [Int.toNat_one] at hF
            generalize hq : r.2.fls 1 = q at *
            have HF := Lib.hid hF
            clear hq hF hsy3 hful
            go_wp2_with fail
            refine HF.out.mono ?_
            rintro e w2 ⟨rfl, h2, k2⟩
            have k2 : Keep (fun k => k = D) w1 w2 := ((Keep.refl (fun k => k = D) w1).drewN m).trans' k2
            have H2 := Lib.hid h2
            have K2 := Lib.hid (K1.out.trans' k2)
            clear h2 k2 c2 C2 H1 K1 HF Hat
            cases hq2 : q.2.1 with
            | true =>
              have hfin : Hid (s.create n = (30, q.2.2)) := by unfold Hid; rw [hsy4.out, hq2]; rfl
              go_wp2_with fail
              go_ret
              rw [hfin.out]
              exact ⟨rfl, DidR.same H2.out K2.out⟩
            | false =>
              obtain ⟨_, _, t⟩ := q
              simp only at hsy4 hq2 H2 hfl ⊢
              have hfin : Hid (s.create n = (0, { t with files := t.files ++ [⟨[], 0⟩], now := ins t.now n t.files.length, changes := t.changes ++ [.mk n t.files.length] })) := by unfold Hid; rw [hsy4.out, hq2]; rfl
              have hnl : t.now.length ≤ 8388608 := by rw [hfl.out.2.1]; exact hw1.out.nlen
              have hsd : Hid (Sd t.now) := by unfold Hid; rw [hfl.out.2.1]; exact hw1.out.sdN
              have hcl : t.changes.length ≤ 1000000 := by rw [hfl.out.2.2.2.1, hrf.out.2.2.2.1]; exact hch
              have hfx : t.files.length ≤ 1000000000 := by rw [hfl.out.1, hrf.out.1]; exact hfn
              have c1 : w2.cell? ⟨D, 1, none⟩ = some (.slice L.fA t.files.length L.fC) := H2.out.cell 1 rfl
              clear hsy4 hq2
              go_wp2_with (
                (have hnewF : (w2.alloc (.cells #[.slice none 0 0, .int .i64 0] 90)).heap[w2.heap.size]? = some (.cells #[.slice none 0 0, .int .i64 0] 90 (0, 0)) := alloc_new w2 _
                 have hkA : Keep No w2 ((w2.alloc (.cells #[.slice none 0 0, .int .i64 0] 90)).alloc (.cells #[.pointer (some ⟨w2.heap.size, 0, none⟩)] 86)) := ((Keep.refl No w2).alloc _).alloc _
                 have hnewP : ((w2.alloc (.cells #[.slice none 0 0, .int .i64 0] 90)).alloc (.cells #[.pointer (some ⟨w2.heap.size, 0, none⟩)] 86)).heap[w2.heap.size + 1]? = some (.cells #[.pointer (some ⟨w2.heap.size, 0, none⟩)] 86 (0, 0)) := by
                   have h := alloc_new (w2.alloc (.cells #[.slice none 0 0, .int .i64 0] 90)) (.cells #[.pointer (some ⟨w2.heap.size, 0, none⟩)] 86)
                   rw [World.size_alloc] at h
                   exact h
                 have hnewF2 : ((w2.alloc (.cells #[.slice none 0 0, .int .i64 0] 90)).alloc (.cells #[.pointer (some ⟨w2.heap.size, 0, none⟩)] 86)).heap[w2.heap.size]? = some (.cells #[.slice none 0 0, .int .i64 0] 90 (0, 0)) := (alloc_old _ _ (by simp)).trans hnewF
                 have hR5 : Rd ((w2.alloc (.cells #[.slice none 0 0, .int .i64 0] 90)).alloc (.cells #[.pointer (some ⟨w2.heap.size, 0, none⟩)] 86)) (fun k => k = w2.heap.size + 1) (some ⟨w2.heap.size + 1, 0, none⟩) [.pointer (some ⟨w2.heap.size, 0, none⟩)] := fun _ => ⟨_, 0, rfl, rfl, Run.of_blk hnewP⟩
                 have hO5 := H2.out.ptrs.keep hkA fun _ _ h => h
                 refine wpList_app (by rfl) (.tmp 36) (.tmp 39) 81 81 rfl hO5 Try.underlying81 info86 rfl (by omega) rfl rfl (src_rd (news := [.pointer (some ⟨w2.heap.size, 0, none⟩)]) (m := 1) Try.underlying81 hR5 rfl (by omega) (by intro u hu; simp at hu; rcases hu with rfl; rfl)) (by unfold maxLen; omega) (by omega) ?_
                 intro A3 c3 w3 hO3 hK3 hA3
                 have hk3 : Keep (fun k => bk L.fA = some k) w2 w3 := (hkA.mono fun _ _ h => h.elim).trans' (hK3.mono fun k _ e => e.symm)
                 have hb3 : w3.heap[w2.heap.size]? = some (.cells (fileC ⟨[], 0⟩ (none, 0)) 90 (0, 0)) := (hK3.block _ (by simp; omega) (fun e => by have := H2.out.ptrs.lt e.symm; omega)).trans hnewF2
                 have hD3 : w3.heap[D]? = some (.cells (diskR t L) 85 (0, 0)) := (hk3.block D (lt_blk H2.out.disk) (H2.out.ptrs.ne_blk H2.out.disk (by decide))).trans H2.out.disk
                 have d1 : w3.cell? ⟨D, 1, none⟩ = some (.slice L.fA t.files.length L.fC) := (cell_blk hD3 1).trans rfl
                 have z1 : w3.frozen? ⟨D, 1, none⟩ = false := froz_blk hD3 1
                 have hsz3 := hK3.size
                 rw [World.size_alloc, World.size_alloc] at hsz3 
                 simp only [World.size_alloc] at hA3
                 have HO3 := Lib.hid hO3
                 have Hk3 := Lib.hid hk3
                 have HA3 := Lib.hid hA3
                 have Hb3 := Lib.hid hb3
                 have HD3 := Lib.hid hD3
                 clear hnewF hkA hnewP hnewF2 hR5 hO5 hO3 hK3 hA3 hk3 hb3 hD3))
              have k34 := (Keep.refl (fun k => k = D) w3).setAt rfl 1 (.slice A3 (t.files.length + 1) c3)
              have k4 : Keep (fun k => k = D ∨ bk L.fA = some k) w2 (w3.setCell ⟨D, 1, none⟩ (.slice A3 (t.files.length + 1) c3)) := (Hk3.out.mono fun _ _ e => .inr e).trans' (k34.mono fun _ _ e => .inl e)
              have hD4 := set_blk HD3.out 1 (.slice A3 (t.files.length + 1) c3)
              have hP4 := HO3.out.keep k34 fun k hk e => by subst e; exact HO3.out.ne_blk HD3.out (by decide) hk
              have hneb : w2.heap.size ≠ D := fun e => by have := lt_blk H2.out.disk; omega
              have hb4 := (set_far (a := ⟨D, 1, none⟩) hneb (.slice A3 (t.files.length + 1) c3)).trans Hb3.out
              have hs4' : (w3.setCell ⟨D, 1, none⟩ (.slice A3 (t.files.length + 1) c3)).heap.size = w3.heap.size := by simp [World.setCell]
              have h4 := H2.out.addFile (f := ⟨[], 0⟩) (b := w2.heap.size) (d := (none, 0)) (fA' := A3) (fC' := c3) k4 (by
                rw [hD4]
                simp only [diskR, List.length_append, List.length_cons, List.length_nil]
                rfl) (by rw [ptrsV_snoc]; exact hP4) hb4 (Nat.le_refl _) (Own.nil _ _ _) (fun k hk => by simp at hk)
              have k04 : Keep (footR D L) w (w3.setCell ⟨D, 1, none⟩ (.slice A3 (t.files.length + 1) c3)) := (K2.out.mono fun _ _ e => .inl e).trans' (k4.mono fun k _ e => by
                rcases e with e | e
                · exact .inl e
                · exact .inr (.inl e))
              have f04 : ∀ k, footR D { L with fA := A3, fC := c3, fb := L.fb ++ [w2.heap.size], fd := L.fd ++ [(none, 0)] } k → footR D L k ∨ New w (w3.setCell ⟨D, 1, none⟩ (.slice A3 (t.files.length + 1) c3)) k := by
                have hz2 := K2.out.size
                rintro k (e | e | e | e | e | e)
                · exact .inl (.inl e)
                · rcases HA3.out with rfl | ⟨rfl, h6⟩
                  · exact .inl (.inr (.inl e))
                  · right
                    simp at e
                    subst e
                    exact ⟨by omega, by omega⟩
                · exact .inl (.inr (.inr (.inl e)))
                · exact .inl (.inr (.inr (.inr (.inl e))))
                · exact .inl (.inr (.inr (.inr (.inr (.inl e)))))
                · rcases e with e | ⟨y, hy, e⟩
                  · rcases List.mem_append.1 e with e | e
                    · exact .inl (.inr (.inr (.inr (.inr (.inr (.inl e))))))
                    · simp at e
                      subst e
                      exact .inr ⟨by omega, by omega⟩
                  · rcases List.mem_append.1 hy with hy | hy
                    · exact .inl (.inr (.inr (.inr (.inr (.inr (.inr ⟨y, hy, e⟩))))))
                    · simp at hy
                      subst hy
                      simp at e
              generalize w3.setCell ⟨D, 1, none⟩ (.slice A3 (t.files.length + 1) c3) = w4 at *
              have H4 := Lib.hid h4
              have K04 := Lib.hid k04
              have F04 := Lib.hid f04
              clear k34 k4 hD4 hP4 hb4 hs4' h4 k04 f04 HO3 Hk3 HA3 Hb3 HD3 d1 z1 c1 hneb K2 H2
              have hwi := fun (W : World) (hW : Keep No w4 W) => with_any (w := W) (H4.out.now.keep hW fun _ _ h => h) hsd.out (by simp only; omega) n t.files.length
              simp only at hwi
              have Hwi := Lib.hid hwi
              clear hwi
              have hcellsA : Hid (∀ W, Keep (fun k => bk L.nA = some k) w4 W → (W.heap[D]? = some (.cells (diskR { t with files := t.files ++ [⟨[], 0⟩] } { L with fA := A3, fC := c3, fb := L.fb ++ [w2.heap.size], fd := L.fd ++ [(none, 0)] }) 85 (0, 0)))) := fun W hW =>
                (hW.block D (lt_blk H4.out.disk) (H4.out.now.ne_blk H4.out.disk (by decide))).trans H4.out.disk
              have hcells : Hid (∀ W, Keep (fun k => bk L.nA = some k) w4 W → (W.cell? ⟨D, 1, none⟩ = some (.slice A3 (t.files.length + 1) c3) ∧ W.cell? ⟨D, 2, none⟩ = some (.slice L.nA t.now.length L.nC) ∧ W.frozen? ⟨D, 2, none⟩ = false)) := fun W hW =>
                ⟨(cell_blk (hcellsA.out W hW) 1).trans (by simp [diskR]), (cell_blk (hcellsA.out W hW) 2).trans rfl, froz_blk (hcellsA.out W hW) 2⟩
              have hsub : IntKind.i64.wrap (t.files.length : Int) = (t.files.length : Int) := by rw [IntKind.wrap_i64]; omega
              refine wp_region_T (Keep (fun k => bk L.nA = some k) w4) [(0, true), (1, true), (2, true), (3, true), (4, true), (5, true), (6, true), (7, true), (8, true), (9, true), (10, true), (11, true), (12, false), (13, true), (14, true), (15, false)] (by kernel_rfl) (by kernel_rfl) (Keep.refl _ _).drew ?_
              iterate 12
                (apply T_read rfl (by rfl)
                 (· (intro W hW; have hc := hcells.out W hW; go_simp; try with_reducible rfl))
                 (try simp only [Act.put, List.getElem_toArray, List.getElem_cons_succ, List.getElem_cons_zero, List.setIfInBounds_toArray, List.set_cons_zero, List.set_cons_succ]))
              refine T_do rfl (by rfl) (fun K hK => ?_)
              go_simp
              refine (Hwi.out _ (Keep.refl No w4).drew).mono ?_
              rintro e w5 ⟨A5, c5, rfl, hO5, hk5, hA5⟩
              have hk5 := hk5.of_drew
              refine hK _ _ (fun _ => hk5) ?_
              (try simp only [Act.put, List.getElem_toArray, List.getElem_cons_succ, List.getElem_cons_zero, List.setIfInBounds_toArray, List.set_cons_zero, List.set_cons_succ])
              iterate 2
                (apply T_read rfl (by rfl)
                 (· (intro W hW; have hc := hcells.out W hW; go_simp; try with_reducible rfl))
                 (try simp only [Act.put, List.getElem_toArray, List.getElem_cons_succ, List.getElem_cons_zero, List.setIfInBounds_toArray, List.set_cons_zero, List.set_cons_succ]))
              obtain ⟨_, x2, xz2⟩ := hcells.out w5 hk5
              have hD5 := hcellsA.out w5 hk5
              refine T_do rfl (by rfl) (fun K hK => ?_)
              go_simp
              refine hK _ _ (fun h => absurd rfl h) (T_end ?_)
              have k56 := (Keep.refl (fun k => k = D) w5).setAt rfl 2 (.slice A5 (ins t.now n t.files.length).length c5)
              have hD6 := set_blk hD5 2 (.slice A5 (ins t.now n t.files.length).length c5)
              have hO6 := hO5.keep k56 fun k hk e => by subst e; exact hO5.ne_blk hD5 (by decide) hk
              have hC6 := (H4.out.chs.keep hk5 fun k hk e => H4.out.rows.2.1 k e hk).keep k56 fun k hk e => H4.out.neD k (.inr (.inr (.inr (.inl hk)))) e
              have k46 : Keep (fun k => k = D ∨ bk L.nA = some k ∨ bk L.cA = some k) w4 (w5.setCell ⟨D, 2, none⟩ (.slice A5 (ins t.now n t.files.length).length c5)) := (hk5.mono fun _ _ e => .inr (.inl e)).trans' (k56.mono fun _ _ e => .inl e)
              have hs56 : (w5.setCell ⟨D, 2, none⟩ (.slice A5 (ins t.now n t.files.length).length c5)).heap.size = w5.heap.size := by simp [World.setCell]
              have hs56a := Nat.le_of_eq hs56
              have hs56b := Nat.le_of_eq hs56.symm
              have hs45 := hk5.size
              generalize w5.setCell ⟨D, 2, none⟩ (.slice A5 (ins t.now n t.files.length).length c5) = w6 at *
              have HO6 := Lib.hid hO6
              have HC6 := Lib.hid hC6
              have HD6 := Lib.hid hD6
              have K46 := Lib.hid k46
              have HA5 := Lib.hid hA5
              clear hs56 k56 hO5 hk5 hA5 hD5 hO6 hC6 hD6 k46 x2 xz2 hcells hcellsA Hwi
              go_wp2_with fail

              have hcellsA : Hid (∀ W, Keep (fun k => bk L.cA = some k) w6 W → W.heap[D]? = some (.cells ((diskR { t with files := t.files ++ [⟨[], 0⟩] } { L with fA := A3, fC := c3, fb := L.fb ++ [w2.heap.size], fd := L.fd ++ [(none, 0)] }).setIfInBounds 2 (.slice A5 (ins t.now n t.files.length).length c5)) 85 (0, 0))) := fun W hW =>
                (hW.block D (lt_blk HD6.out) (HC6.out.ne_blk HD6.out (by decide))).trans HD6.out
              have hcells : Hid (∀ W, Keep (fun k => bk L.cA = some k) w6 W → (W.cell? ⟨D, 1, none⟩ = some (.slice A3 (t.files.length + 1) c3) ∧ W.cell? ⟨D, 4, none⟩ = some (.slice L.cA t.changes.length L.cC) ∧ W.frozen? ⟨D, 4, none⟩ = false)) := fun W hW =>
                ⟨(cell_blk (hcellsA.out W hW) 1).trans (by simp [diskR]), (cell_blk (hcellsA.out W hW) 4).trans rfl, froz_blk (hcellsA.out W hW) 4⟩
              refine wp_region_T (Keep (fun k => bk L.cA = some k) w6) [(0, true), (1, true), (2, true), (3, true), (4, true), (5, true), (6, true), (7, true), (8, true), (9, true), (10, true), (11, true), (12, true), (13, false), (14, false), (15, true), (16, true), (17, false)] (by kernel_rfl) (by kernel_rfl) (Keep.refl _ _).drew ?_
              iterate 13
                (apply T_read rfl (by rfl)
                 (· (intro W hW; have hc := hcells.out W hW; go_simp; try with_reducible rfl))
                 (try simp only [Act.put, List.getElem_toArray, List.getElem_cons_succ, List.getElem_cons_zero, List.setIfInBounds_toArray, List.set_cons_zero, List.set_cons_succ]))
              refine T_do rfl (by rfl) (fun K hK => ?_)
              go_simp
              have hk7 : Keep No w6 (w6.alloc (.cells #[.int .i64 1, .string n, .string ⟨#[]⟩, .int .i64 t.files.length] 116)).drew := ((Keep.refl No w6).alloc _).drew
              refine hK _ _ (fun _ => hk7.mono fun _ _ h => h.elim) ?_
              have hO7 := HC6.out.keep hk7 fun _ _ h => h
              have hR7 : Rd (w6.alloc (.cells #[.int .i64 1, .string n, .string ⟨#[]⟩, .int .i64 t.files.length] 116)).drew (fun k => k = w6.heap.size) (some ⟨w6.heap.size, 0, none⟩) [.int .i64 1, .string n, .string ⟨#[]⟩, .int .i64 t.files.length] := fun _ => ⟨w6.heap.size, 0, rfl, rfl, Run.of_blk (w := (w6.alloc (.cells #[.int .i64 1, .string n, .string ⟨#[]⟩, .int .i64 t.files.length] 116)).drew) (alloc_new w6 (.cells #[.int .i64 1, .string n, .string ⟨#[]⟩, .int .i64 t.files.length] 116))⟩
              refine T_do rfl (by rfl) (fun K hK => ?_)
              refine wp_app (.tmp 62) (.tmp 71) 83 83 rfl hO7 Try.underlying83 info116 rfl (by omega) rfl rfl (src_rd (news := [.int .i64 1, .string n, .string ⟨#[]⟩, .int .i64 t.files.length]) (m := 1) Try.underlying83 hR7 rfl (by omega) (by intro u hu; simp at hu; rcases hu with rfl | rfl | rfl | rfl <;> rfl)) (by unfold maxLen; omega) (by omega) (fun A8 c8 w8 hO8 hK8 hA8 => ?_)
              have hk8 : Keep (fun k => bk L.cA = some k) w6 w8 := (hk7.mono fun _ _ h => h.elim).trans' (hK8.mono fun k _ e => e.symm)
              refine hK _ _ (fun _ => hk8) ?_
              (try simp only [Act.put, List.getElem_toArray, List.getElem_cons_succ, List.getElem_cons_zero, List.setIfInBounds_toArray, List.set_cons_zero, List.set_cons_succ])
              iterate 2
                (apply T_read rfl (by rfl)
                 (· (intro W hW; have hc := hcells.out W hW; go_simp; try with_reducible rfl))
                 (try simp only [Act.put, List.getElem_toArray, List.getElem_cons_succ, List.getElem_cons_zero, List.setIfInBounds_toArray, List.set_cons_zero, List.set_cons_succ]))
              obtain ⟨_, x4, xz4⟩ := hcells.out w8 hk8
              have hD8 := hcellsA.out w8 hk8
              have HO8 := Lib.hid hO8
              have Hk8 := Lib.hid hk8
              have HA8 := Lib.hid hA8
              have HD8 := Lib.hid hD8
              have hsz8 := hK8.size
              rw [World.size_drew, World.size_alloc] at hsz8
              clear hO7 hR7 hk7 hO8 hK8 hA8 hk8 hD8
              refine T_do rfl (by rfl) (fun K hK => ?_)
              go_simp
              refine hK _ _ (fun h => absurd rfl h) (T_end ?_)
              go_wp2_with fail
              go_ret
              rw [hfin.out]
              refine ⟨rfl, DidR.trans K04.out F04.out ?_⟩
              have k9 := (Keep.refl (fun k => k = D) w8).setAt rfl 4 (.slice A8 (t.changes.length + 1) c8)
              have hD9 := set_blk HD8.out 4 (.slice A8 (t.changes.length + 1) c8)
              have hO9 := (HO6.out.keep Hk8.out fun k hk e => HO6.out.ne HC6.out (by decide) k hk e).keep k9 fun k hk e => by
                subst e
                exact (HO6.out.keep Hk8.out fun k hk e => HO6.out.ne HC6.out (by decide) k hk e).ne_blk HD8.out (by decide) hk
              have hC9 := HO8.out.keep k9 fun k hk e => by subst e; exact HO8.out.ne_blk HD8.out (by decide) hk
              have kall : Keep (fun k => k = D ∨ bk L.nA = some k ∨ bk L.cA = some k) w4 (w8.setCell ⟨D, 4, none⟩ (.slice A8 (t.changes.length + 1) c8)) := (K46.out.trans' (Hk8.out.mono fun _ _ e => .inr (.inr e))).trans' (k9.mono fun _ _ e => .inl e)
              have hs9 := k9.size
              have hs68 := Hk8.out.size
              generalize w8.setCell ⟨D, 4, none⟩ (.slice A8 (t.changes.length + 1) c8) = w9 at *
              refine ⟨{ L with fA := A3, fC := c3, fb := L.fb ++ [w2.heap.size], fd := L.fd ++ [(none, 0)], nA := A5, nC := c5, cA := A8, cC := c8 }, H4.out.reDir (s' := { t with files := t.files ++ [⟨[], 0⟩], now := ins t.now n t.files.length, changes := t.changes ++ [.mk n t.files.length] }) kall ?_ hO9 ?_ (fun k hk => ?_) rfl rfl, ?_, ?_⟩
              · rw [hD9]
                simp only [diskR, List.length_append, List.length_cons, List.length_nil]
                rfl
              · rw [rcsV_snoc, List.length_append]
                exact hC9
              · rcases HA5.out k hk with e | e
                · exact .inl e
                · right
                  have := e.1
                  exact this
              · refine kall.mono fun k _ e => ?_
                rcases e with e | e | e
                · exact .inl e
                · exact .inr (.inr (.inl e))
                · exact .inr (.inr (.inr (.inr (.inl e))))
              · rintro k (e | e | e | e | e | e)
                · exact .inl (.inl e)
                · exact .inl (.inr (.inl e))
                · rcases HA5.out k e with e | e
                  · exact .inl (.inr (.inr (.inl e)))
                  · have h1 := e.1
                    have h2 := e.2
                    exact .inr ⟨h1, by omega⟩
                · exact .inl (.inr (.inr (.inr (.inl e))))
                · rcases HA8.out with e2 | ⟨e2, h6⟩
                  · rw [e2] at e
                    exact .inl (.inr (.inr (.inr (.inr (.inl e)))))
                  · right
                    rw [e2] at e
                    simp only [bk_some, Option.some.injEq, World.size_alloc, World.size_drew] at e h6
                    exact ⟨by omega, by omega⟩
                · exact .inl (.inr (.inr (.inr (.inr (.inr e)))))

end Go.Dx

namespace Go.Dx
open Go.RowKit Go.Proofs

def St.renameB (r : St) (a b : Nm) : Int × St :=
  match get r.now a with
  | none => (34, r)
  | some i => if (r.fls 1).2.1 then (30, (r.fls 1).2.2) else if a = b then (0, (r.fls 1).2.2) else
    (0, { (r.fls 1).2.2 with now := ins (rem (r.fls 1).2.2.now a) b i, changes := (r.fls 1).2.2.changes ++ [.ren a b] })
theorem rename_B (s : St) (a b : Nm) : s.rename a b = if (s.bgn (right a && right b)).1 ≠ 0 then s.bgn (right a && right b) else (s.bgn (right a && right b)).2.renameB a b := rfl
theorem nm_ne {a b : Nm} (h : a ≠ b) : (a.toList == b.toList) = false ∧ (a.toList != b.toList) = true := by
  have := nm_beq a b
  rw [decide_eq_false h] at this
  exact ⟨this, by simp [bne, this]⟩

set_option maxRecDepth 100000 in
set_option maxHeartbeats 4000000 in
theorem renameR_any {w : World} {D : Nat} {s : St} {L : RL} (h : RDL w D s L) (hw : Wf s) (hch : s.changes.length ≤ 1000000) (a b : Nm) (hna : a.size ≤ 140737488355328) (hnb : b.size ≤ 140737488355328) :
    Calls Try.prog 53 #[.pointer (some ⟨D, 0, none⟩), .string a, .string b] w fun e w' => e = .returned (.int .i64 (s.rename a b).1) ∧ DidR w D L (s.rename a b).2 w' := by
  have c9 : w.cell? ⟨D, 9, none⟩ = some (.bool s.down) := h.cell 9 rfl
  have H := Lib.hid h
  have Hw := Lib.hid hw
  clear h hw
  cases hd : s.down with
  | true =>
    have hfin : Hid (s.rename a b = (30, s)) := by simp [Hid, St.rename, bgn_dn hd]
    rw [hd] at c9
    clear hd
    go_enter Try.func53, Try.ntmps53
    go_wp2_with fail
    go_ret
    rw [hfin.out]
    exact ⟨rfl, DidR.same H.out (Keep.refl _ _)⟩
  | false =>
    rw [hd] at c9
    have hoka := okB_any a w hna
    have hokb := okB_any b w hnb
    cases hra : right a with
    | false =>
      have hfin : Hid (s.rename a b = (33, s)) := by simp [Hid, St.rename, hra, bgn_nm hd]
      rw [hra] at hoka
      have Hoka := Lib.hid hoka
      clear hd hra hoka hokb
      go_enter Try.func53, Try.ntmps53
      go_wp2_with fail
      refine Hoka.out.mono ?_
      rintro e w1 ⟨rfl, rfl⟩
      go_wp2_with fail
      go_ret
      rw [hfin.out]
      exact ⟨rfl, DidR.same H.out (Keep.refl _ _)⟩
    | true =>
      rw [hra] at hoka
      have Hoka := Lib.hid hoka
      cases hrb : right b with
      | false =>
        have hfin : Hid (s.rename a b = (33, s)) := by simp [Hid, St.rename, hra, hrb, bgn_nm hd]
        rw [hrb] at hokb
        have Hokb := Lib.hid hokb
        clear hd hra hrb hoka hokb
        go_enter Try.func53, Try.ntmps53
        go_wp2_with fail
        refine Hoka.out.mono ?_
        rintro e w1 ⟨rfl, rfl⟩
        go_wp2_with fail
        refine Hokb.out.mono ?_
        rintro e w1 ⟨rfl, rfl⟩
        go_wp2_with fail
        go_ret
        rw [hfin.out]
        exact ⟨rfl, DidR.same H.out (Keep.refl _ _)⟩
      | true =>
        rw [hrb] at hokb
        have Hokb := Lib.hid hokb
        have hrg := rigged_any H.out Hw.out.bwell Hw.out.bfails
        have hw1 := Lib.hid (rig_wf Hw.out)
        have hrf := Lib.hid (rig_files s)
        have hs31 : s.rig.1 = true → s.rename a b = (31, s.rig.2) := fun h => by rw [rename_B, hra, hrb, Bool.and_self, bgn_31 hd h]; rfl
        have hs0 : s.rig.1 = false → s.rename a b = s.rig.2.renameB a b := fun h => by rw [rename_B, hra, hrb, Bool.and_self, bgn_0 hd h]; rfl
        generalize hR : s.rig = r at *
        have Hrg := Lib.hid hrg
        have Hs31 := Lib.hid hs31
        have Hs0 := Lib.hid hs0
        clear hd hra hrb hoka hokb hrg hR hs31 hs0
        go_enter Try.func53, Try.ntmps53
        go_wp2_with fail
        refine Hoka.out.mono ?_
        rintro e w1 ⟨rfl, rfl⟩
        go_wp2_with fail
        refine Hokb.out.mono ?_
        rintro e w1 ⟨rfl, rfl⟩
        go_wp2_with fail
        refine Hrg.out.mono ?_
        rintro e w1 ⟨rfl, h1, k1⟩
        cases hr1 : r.1 with
        | true =>
          have hfin : Hid (s.rename a b = (31, r.2)) := Hs31.out hr1
          have H1 := Lib.hid h1
          have K1 := Lib.hid k1
          clear h1 k1
          go_wp2_with fail
          go_ret
          rw [hfin.out]
          exact ⟨rfl, DidR.same H1.out K1.out⟩
        | false =>
          have hsy2 : Hid (s.rename a b = r.2.renameB a b) := Hs0.out hr1
          have hfi := find_any h1.now.rd hw1.out.sdN (by have := hw1.out.nlen; omega) L.nC a
          have c2 : w1.cell? ⟨D, 2, none⟩ = some (.slice L.nA r.2.now.length L.nC) := h1.cell 2 rfl
          have H1 := Lib.hid h1
          have K1 := Lib.hid k1
          clear h1 k1
          cases hg : get r.2.now a with
          | none =>
            have hfin : Hid (s.rename a b = (34, r.2)) := by unfold Hid; rw [hsy2.out, St.renameB, hg]
            rw [hg] at hfi
            have Hfi := Lib.hid hfi
            clear hfi hg
            go_wp2_with fail
            refine Hfi.out.mono ?_
            rintro e w2 ⟨rfl, m, rfl⟩
            go_wp2_with fail
            go_ret
            rw [hfin.out]
            exact ⟨rfl, DidR.same (H1.out.keepNo ((Keep.refl No w1).drewN m)) (K1.out.drewN m)⟩
          | some i =>
            have hsy3 : Hid (s.rename a b = if (r.2.fls 1).2.1 then (30, (r.2.fls 1).2.2) else if a = b then (0, (r.2.fls 1).2.2) else (0, { (r.2.fls 1).2.2 with now := ins (rem (r.2.fls 1).2.2.now a) b i, changes := (r.2.fls 1).2.2.changes ++ [.ren a b] })) := by unfold Hid; rw [hsy2.out, St.renameB, hg]
            have hpos := hw1.out.sdN.get_pos hg
            have hplt := pos_lt hw1.out.sdN (by rw [hg]; rfl)
            rw [hg] at hfi
            have Hfi := Lib.hid hfi
            have hfl := Lib.hid (fls_files r.2 1)
            have hF := fun m => fallsR_any (H1.out.keepNo ((Keep.refl No w1).drewN m)) hw1.out.bleft 1 (by omega) (by omega)
            simp only [Int.toNat_one] at hF
            generalize hq : r.2.fls 1 = q at *
            generalize pos r.2.now a = p at *
            have HF := Lib.hid hF
            have Hpos := Lib.hid hpos
            clear hfi hg hq hF hsy2 hpos
            go_wp2_with fail
            refine Hfi.out.mono ?_
            rintro e w2 ⟨rfl, m, rfl⟩
            go_wp2_with fail
            refine (HF.out m).mono ?_
            rintro e w2 ⟨rfl, h2, k2⟩
            have k2 : Keep (fun k => k = D) w1 w2 := ((Keep.refl (fun k => k = D) w1).drewN m).trans' k2
            have H2 := Lib.hid h2
            have K2 := Lib.hid (K1.out.trans' k2)
            clear h2 k2 c2
            cases hq2 : q.2.1 with
            | true =>
              have hfin : Hid (s.rename a b = (30, q.2.2)) := by unfold Hid; rw [hsy3.out, hq2]; rfl
              go_wp2_with fail
              go_ret
              rw [hfin.out]
              exact ⟨rfl, DidR.same H2.out K2.out⟩
            | false =>
              by_cases hab : a = b
              · have hfin : Hid (s.rename a b = (0, q.2.2)) := by unfold Hid; rw [hsy3.out, hq2, if_pos hab]; rfl
                subst hab
                have e1 : (a.toList != a.toList) = false := by simp
                go_wp2_with fail
                go_ret
                rw [hfin.out]
                exact ⟨rfl, DidR.same H2.out K2.out⟩
              · have hfin : Hid (s.rename a b = (0, { q.2.2 with now := ins (rem q.2.2.now a) b i, changes := q.2.2.changes ++ [.ren a b] })) := by unfold Hid; rw [hsy3.out, hq2, if_neg hab]; rfl
                obtain ⟨e1, e2⟩ := nm_ne hab
                have hnl := hw1.out.nlen
                rw [← hfl.out.2.1] at hnl hplt
                have hsd : Sd q.2.2.now := by rw [hfl.out.2.1]; exact hw1.out.sdN
                have hpos2 : q.2.2.now[p]? = some (a, i) := by rw [hfl.out.2.1]; exact Hpos.out
                obtain ⟨gN, hN⟩ := H2.out.now.some_of (by omega)
                have hcell := (pair_of H2.out.now hN hpos2).2
                simp only at hcell
                have hplt' : (p : Int) < q.2.2.now.length := by omega
                have hwo := without_any H2.out.now hsd (by omega) a
                have c2 : w2.cell? ⟨D, 2, none⟩ = some (.slice L.nA q.2.2.now.length L.nC) := H2.out.cell 2 rfl
                have hrl : (rem q.2.2.now a).length ≤ 8388608 := by have := rem_length hsd a; split at this <;> omega
                have hsdr := Lib.hid (rem_sd hsd a)
                rw [hN] at hwo c2
                have HN := Lib.hid hN
                have Hwo := Lib.hid hwo
                clear hwo hab hsd hpos2 hN
                go_wp2_with fail
                refine Hwo.out.mono ?_
                rintro e w2a ⟨Aw, cw, rfl, hOw, hkw, hAw⟩
                rw [← HN.out] at hkw hAw
                have hwi := with_any hOw hsdr.out (by omega) b i
                have HOw := Lib.hid hOw
                have Hkw := Lib.hid hkw
                have HAw := Lib.hid hAw
                have Hwi := Lib.hid hwi
                clear hOw hkw hAw hwi hcell c2
                go_wp2_with fail
                refine Hwi.out.mono ?_
                rintro e w3 ⟨A', c', rfl, hO3, hk3', hA3'⟩
                have hk3 : Keep (fun k => bk L.nA = some k) w2 w3 := Hkw.out.trans hk3' fun k hk e => by
                  rcases HAw.out k e with e | e
                  · exact e
                  · have := e.1; omega
                have hA3 : ∀ k, bk A' = some k → bk L.nA = some k ∨ New w2 w3 k := fun k hk => by
                  have hs1 := Hkw.out.size
                  have hs2 := hk3'.size
                  rcases hA3' k hk with e | e
                  · rcases HAw.out k e with e | e
                    · exact .inl e
                    · exact .inr ⟨e.1, by have := e.2; omega⟩
                  · exact .inr ⟨by have := e.1; omega, e.2⟩
                clear hk3' hA3' HOw Hkw HAw Hwi hsdr hrl hplt hplt' e1 e2 Hwo HN
                have hD3 : w3.heap[D]? = some (.cells (diskR q.2.2 L) 85 (0, 0)) := (hk3.block D (lt_blk H2.out.disk) (H2.out.now.ne_blk H2.out.disk (by decide))).trans H2.out.disk
                have d2 : w3.cell? ⟨D, 2, none⟩ = some (.slice L.nA q.2.2.now.length L.nC) := (cell_blk hD3 2).trans rfl
                have d4 : w3.cell? ⟨D, 4, none⟩ = some (.slice L.cA q.2.2.changes.length L.cC) := (cell_blk hD3 4).trans rfl
                have z2 : w3.frozen? ⟨D, 2, none⟩ = false := froz_blk hD3 2
                have hC3 := H2.out.chs.keep hk3 fun k hk e => H2.out.rows.2.1 k e hk
                have hD4 := set_blk hD3 2 (.slice A' (ins (rem q.2.2.now a) b i).length c')
                have hk4 := (Keep.refl (fun k => k = D) w3).setAt rfl 2 (.slice A' (ins (rem q.2.2.now a) b i).length c')
                have hC4 := hC3.keep hk4 fun k hk e => H2.out.neD k (.inr (.inr (.inr (.inl hk)))) e
                have hO4 := hO3.keep hk4 fun k hk e => hO3.ne_blk hD3 (by decide) (by rw [← e]; exact hk)
                have hcl : q.2.2.changes.length ≤ 1000000 := by rw [hfl.out.2.2.2.1, hrf.out.2.2.2.1]; exact hch
                have HD4 := Lib.hid hD4
                have Hk4 := Lib.hid hk4
                have HC4 := Lib.hid hC4
                have HO4 := Lib.hid hO4
                have Hk3 := Lib.hid hk3
                have HA3 := Lib.hid hA3
                clear hD4 hk4 hC4 hC3 hD3 hk3 hA3 hO3 hO4
                have d4' : (w3.setCell ⟨D, 2, none⟩ (.slice A' (ins (rem q.2.2.now a) b i).length c')).cell? ⟨D, 4, none⟩ = some (.slice L.cA q.2.2.changes.length L.cC) := (cell_blk HD4.out 4).trans rfl
                go_wp2_with (
                  (have hsz5 : (w3.setCell ⟨D, 2, none⟩ (.slice A' (ins (rem q.2.2.now a) b i).length c')).heap.size = w3.heap.size := by simp [World.setCell]
                   have hnw5 : ((w3.setCell ⟨D, 2, none⟩ (.slice A' (ins (rem q.2.2.now a) b i).length c')).alloc (.cells #[.int .i64 2, .string a, .string b, .int .i64 0] 116)).heap[w3.heap.size]? = some (.cells #[.int .i64 2, .string a, .string b, .int .i64 0] 116 (0, 0)) := by
                     have h := alloc_new (w3.setCell ⟨D, 2, none⟩ (.slice A' (ins (rem q.2.2.now a) b i).length c')) (.cells #[.int .i64 2, .string a, .string b, .int .i64 0] 116)
                     rw [hsz5] at h
                     exact h
                   have hR5 : Rd ((w3.setCell ⟨D, 2, none⟩ (.slice A' (ins (rem q.2.2.now a) b i).length c')).alloc (.cells #[.int .i64 2, .string a, .string b, .int .i64 0] 116)) (fun k => k = w3.heap.size) (some ⟨w3.heap.size, 0, none⟩) [.int .i64 2, .string a, .string b, .int .i64 0] := fun _ => ⟨_, 0, rfl, rfl, Run.of_blk hnw5⟩
                   have hO5 := HC4.out.keep ((Keep.refl No _).alloc (.cells #[.int .i64 2, .string a, .string b, .int .i64 0] 116)) fun _ _ h => h
                   refine wpList_app (by rfl) (.tmp 70) (.tmp 74) 83 83 rfl hO5 Try.underlying83 info116 rfl (by omega) rfl rfl (src_rd (news := [.int .i64 2, .string a, .string b, .int .i64 0]) (m := 1) Try.underlying83 hR5 rfl (by omega) (by intro u hu; simp at hu; rcases hu with rfl | rfl | rfl | rfl <;> rfl)) (by unfold maxLen; omega) (by omega) ?_
                   intro A5 c5 w5 hO6 hK6 hA6
                   have hk46 : Keep (fun k => bk L.cA = some k) (w3.setCell ⟨D, 2, none⟩ (.slice A' (ins (rem q.2.2.now a) b i).length c')) w5 := ((Keep.refl (fun k => bk L.cA = some k) _).alloc (.cells #[.int .i64 2, .string a, .string b, .int .i64 0] 116)).trans' (hK6.mono fun k _ e => e.symm)
                   have hD5 := (hk46.block D (lt_blk HD4.out) (H2.out.chs.ne_blk H2.out.disk (by decide))).trans HD4.out
                   have d45 : w5.cell? ⟨D, 4, none⟩ = some (.slice L.cA q.2.2.changes.length L.cC) := (cell_blk hD5 4).trans rfl
                   have z45 : w5.frozen? ⟨D, 4, none⟩ = false := froz_blk hD5 4
                   have HD5 := Lib.hid hD5
                   have HO6 := Lib.hid hO6
                   have HK6 := Lib.hid hK6
                   have HA6 := Lib.hid hA6
                   have Hk46 := Lib.hid hk46
                   clear hR5 hnw5 hsz5 hO5 hO6 hK6 hA6 hk46 hD5))
                go_ret
                rw [hfin.out]
                have k6 := (Keep.refl (fun k => k = D) w5).setAt rfl 4 (.slice A5 (q.2.2.changes.length + 1) c5)
                have hO56 := HO4.out.keep Hk46.out fun k hk e => HO4.out.ne HC4.out (by decide) k hk e
                have hO57 := hO56.keep k6 fun k hk e => hO56.ne_blk HD5.out (by decide) (by rw [← e]; exact hk)
                have hC57 := HO6.out.keep k6 fun k hk e => HO6.out.ne_blk HD5.out (by decide) (by rw [← e]; exact hk)
                have kall : Keep (fun k => k = D ∨ bk L.nA = some k ∨ bk L.cA = some k) w2 (w5.setCell ⟨D, 4, none⟩ (.slice A5 (q.2.2.changes.length + 1) c5)) :=
                  (((Hk3.out.mono fun k _ e => .inr (.inl e)).trans' (Hk4.out.mono fun k _ e => .inl e)).trans' (Hk46.out.mono fun k _ e => .inr (.inr e))).trans' (k6.mono fun k _ e => .inl e)
                have hs3 := Hk3.out.size
                have hs4 := Hk4.out.size
                have hs5 := Hk46.out.size
                have hs6 := k6.size
                have hs0 := K2.out.size
                refine ⟨rfl, { L with nA := A', nC := c', cA := A5, cC := c5 }, H2.out.reDir (s' := { q.2.2 with now := ins (rem q.2.2.now a) b i, changes := q.2.2.changes ++ [.ren a b] }) kall ?_ hO57 ?_ (fun k hk => ?_) rfl rfl, ?_, ?_⟩
                · have h := set_blk HD5.out 4 (.slice A5 (q.2.2.changes.length + 1) c5)
                  rw [h]
                  simp only [diskR, List.length_append, List.length_cons, List.length_nil]
                  rfl
                · rw [rcsV_snoc, List.length_append]
                  exact hC57
                · rcases HA3.out k hk with e | e
                  · exact .inl e
                  · exact .inr e.1
                · refine (K2.out.mono fun k _ e => .inl e).trans' (kall.mono fun k _ e => ?_)
                  rcases e with e | e | e
                  · exact .inl e
                  · exact .inr (.inr (.inl e))
                  · exact .inr (.inr (.inr (.inr (.inl e))))
                · rintro k (e | e | e | e | e | e)
                  · exact .inl (.inl e)
                  · exact .inl (.inr (.inl e))
                  · rcases HA3.out k e with e | e
                    · exact .inl (.inr (.inr (.inl e)))
                    · exact .inr ⟨Nat.le_trans hs0 e.1, by have := e.2; omega⟩
                  · exact .inl (.inr (.inr (.inr (.inl e))))
                  · rcases HA6.out with e2 | ⟨e2, h6⟩
                    · rw [e2] at e
                      exact .inl (.inr (.inr (.inr (.inr (.inl e)))))
                    · right
                      rw [e2] at e
                      have hszS : (w3.setCell ⟨D, 2, none⟩ (.slice A' (ins (rem q.2.2.now a) b i).length c')).heap.size = w3.heap.size := by simp [World.setCell]
                      rw [World.size_alloc, hszS] at h6
                      simp only [bk_some, Option.some.injEq, World.size_alloc, hszS] at e
                      exact ⟨by omega, by omega⟩
                  · exact .inl (.inr (.inr (.inr (.inr (.inr e)))))

end Go.Dx
