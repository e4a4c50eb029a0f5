/- The document's disk: Files. No condition. The document's disk: rest. No condition. The document's disk: Image. No condition. The document's disk: Fall. No condition. The document's disk: New. No condition. -/
import Derived.Test.YtlkgkckejfkblaaGg
import Derived.Test.YtlkgkckejfkblaaGe
namespace Go.Dx
open Go.RowKit Go.Proofs

theorem New.sub {w a b : World} (h : a.heap.size ≤ b.heap.size) {k : Nat} (hk : New w a k) : New w b k := ⟨hk.1, Nat.lt_of_lt_of_le hk.2 h⟩
/-- A file is told: one more behind those so far. -/
theorem Told.more {w wr w3 w4 : World} {l : List FT} {A A' A1 : Option Addr} {c c' c1 : Nat} {ds : List (Option Addr × Nat)} {x : FT} (hT : Told wr l A c ds) (h0 : Keep No w wr) (hn : ∀ k, footT A ds k → New w wr k)
    (hk3 : Keep No wr w3) (hO1 : Own w3 5 1 A1 x.2.1.length c1 (BV x.2.1)) (hn1 : ∀ k, bk A1 = some k → New wr w3 k)
    (hK4 : Keep (fun k => bk A = some k) w3 w4) (hO4 : Own w4 60 3 A' (l.length + 1) c' (tsV l ds ++ tV x (A1, c1))) (hA : ∀ k, bk A' = some k → bk A = some k ∨ New w3 w4 k) :
    Told w4 (l ++ [x]) A' c' (ds ++ [(A1, c1)]) ∧ Keep No w w4 ∧ ∀ k, footT A' (ds ++ [(A1, c1)]) k → New w w4 k := by
  have hT3 := hT.keep hk3 fun _ _ h => h
  have hs0 := h0.size
  have hs3 := hk3.size
  have hs4 := hK4.size
  refine ⟨hT3.push (x := x) (d := (A1, c1)) hK4 hO4 hO1 fun k hk1 hk2 => ?_, ?_, ?_⟩
  · have h1 := (hn1 k hk1).1
    have h2 := hT.lt k hk2
    omega
  · refine (h0.trans' hk3).trans hK4 fun k hk e => ?_
    have := (hn k (.inl e)).1
    omega
  · rintro k (hk | ⟨y, hy, hk⟩)
    · rcases hA k hk with e | e
      · exact (hn k (.inl e)).sub (by omega)
      · exact ⟨by have := e.1; omega, e.2⟩
    · rcases List.mem_append.1 hy with hy | hy
      · exact (hn k (.inr ⟨y, hy, hk⟩)).sub (by omega)
      · simp at hy
        subst hy
        have h1 := hn1 k hk
        exact ⟨by have := h1.1; omega, by have := h1.2; omega⟩

set_option maxRecDepth 100000 in
set_option maxHeartbeats 4000000 in
theorem filesR_any {w : World} {D : Nat} {s : St} {L : RL} (h : RDL w D s L) (hw : Wf s) : Calls Try.prog 13 #[.pointer (some ⟨D, 0, none⟩)] w (ToldR w s.filesOf) := by
  have H := Lib.hid h
  have Hw := Lib.hid hw
  have hnl := hw.nlen
  clear h hw
  go_enter Try.func13, Try.ntmps13
  go_wp2_with fail
  go_loopw [3, 4] (fun v i wr => ∃ (j : Nat) (A : Option Addr) (c : Nat) (ds : List (Option Addr × Nat)), j ≤ s.now.length ∧ v = .slice A j c ∧ i = .int .i64 j ∧ Hid (Told wr (s.filesOf.take j) A c ds ∧ Keep No w wr ∧ (∀ k, footT A ds k → New w wr k))) (fun _ i _ => s.now.length - (RowKit.intOf i).toNat)
  case atStart => exact ⟨0, none, 0, [], Nat.zero_le _, rfl, rfl, Told.nil _, Keep.refl _ _, (fun k hk => by rcases hk with e | ⟨x, hx, _⟩ <;> simp at *)⟩
  case round =>
    obtain ⟨j, A, c, ds, hj, rfl, rfl, hR⟩ := hrel
    have h1 := H.out.keepNo hR.out.2.1
    have c1 : wr.cell? ⟨D, 1, none⟩ = some (.slice L.fA s.files.length L.fC) := h1.cell 1 rfl
    have c2 : wr.cell? ⟨D, 2, none⟩ = some (.slice L.nA s.now.length L.nC) := h1.cell 2 rfl
    by_cases hlt : j < s.now.length
    · have hlt' : (j : Int) < s.now.length := by omega
      obtain ⟨x, hx⟩ : ∃ x, s.now[j]? = some x := ⟨_, List.getElem?_eq_getElem hlt⟩
      obtain ⟨gN, gF, f, b, d, hN, hF, hff, hfb, hfd, q0, q1, q2, hblk, hown, hi⟩ := h1.ent Hw.out hx
      have hi' : (x.2 : Int) < s.files.length := by omega
      rw [hN] at c2
      rw [hF] at c1
      have hfl := (Hw.out.fsure f (List.mem_of_getElem? hff)).2
      have hdat : s.dataAt x.2 = f.data := by simp [St.dataAt, hff]
      have hsur : s.sureAt x.2 = f.sure := by simp [St.sureAt, hff]
      have htk : s.filesOf.take (j + 1) = s.filesOf.take j ++ [(x.1, f.data, f.sure)] := by
        have hg : s.filesOf[j]? = some (x.1, f.data, f.sure) := by simp [St.filesOf, St.told, hx, hdat, hsur]
        exact take_snoc hg
      have hlen0 : (s.filesOf.take j).length = j := by rw [List.length_take]; simp [St.filesOf, St.told]; omega
      have hrow : Own wr 60 3 A j c (tsV (s.filesOf.take j) ds) := by have := hR.out.1.row; rw [hlen0] at this; exact this
      have hcells : Hid (∀ W, Keep (fun k => bk A = some k) wr W → (W.cell? ⟨D, 2, none⟩ = some (.slice (some ⟨gN, 0, none⟩) s.now.length L.nC) ∧ W.cell? ⟨gN, j * 2, none⟩ = some (.string x.1) ∧ W.cell? ⟨b, 0, none⟩ = some (.slice d.1 f.data.length d.2) ∧ W.cell? ⟨b, 1, none⟩ = some (.int .i64 f.sure))) := by
        intro W hW
        have hDW := (hW.block D (lt_blk h1.disk) (hrow.ne_blk h1.disk (by decide))).trans h1.disk
        have hbW := (hW.block b (lt_blk hblk) (hrow.ne_blk hblk (by decide))).trans hblk
        have hNW := h1.now.keep hW fun k hk e => h1.now.ne hrow (by decide) k hk e
        refine ⟨(cell_blk hDW 2).trans ?_, (pair_of hNW hN hx).1, (cell_blk hbW 0).trans rfl, (cell_blk hbW 1).trans rfl⟩
        rw [← hN]; rfl
      have Htk := Lib.hid htk
      have Hlen0 := Lib.hid hlen0
      have Hown := Lib.hid hown
      have Hrow := Lib.hid hrow
      clear hx hdat hsur htk hff hfb hfd hblk hown hN hF hlen0 hrow h1
      go_wp2_with fail
      go_quiet (fail)
      go_wp2_with fail
      have hcells : Hid (∀ W, Keep (fun k => bk A = some k) (wr.drewN nq) W → (W.cell? ⟨D, 2, none⟩ = some (.slice (some ⟨gN, 0, none⟩) s.now.length L.nC) ∧ W.cell? ⟨gN, j * 2, none⟩ = some (.string x.1) ∧ W.cell? ⟨b, 0, none⟩ = some (.slice d.1 f.data.length d.2) ∧ W.cell? ⟨b, 1, none⟩ = some (.int .i64 f.sure))) := fun W hW =>
        hcells.out W hW.of_drewN
      have kq : Keep No wr (wr.drewN nq) := (Keep.refl No wr).drewN nq
      have Kq := Lib.hid kq
      have hrowq := Hrow.out.keep kq fun _ _ h => h
      have hownq := Hown.out.keep kq fun _ _ h => h
      have Hrow := Lib.hid hrowq
      have Hown := Lib.hid hownq
      clear kq hrowq hownq c1 c2 q0 q1 q2
      generalize wr.drewN nq = wq at *
      refine wp_region_T (Keep (fun k => bk A = some k) wq) [(0, true), (1, true), (2, true), (3, true), (4, true), (5, true), (6, true), (7, true), (8, true), (9, true), (10, true), (11, true), (12, true), (14, true), (15, true), (16, true), (17, true), (13, false), (18, true), (19, false), (20, false), (21, false)] (by kernel_rfl) (by kernel_rfl) (Keep.refl _ _).drew ?_
      iterate 17
        (apply T_read rfl (by rfl)
         (· (intro W hW; have hc := hcells.out W hW; go_simp; try with_reducible rfl))
         (try simp only [Act.put, List.getElem_toArray, List.getElem_cons_succ, List.getElem_cons_zero, List.setIfInBounds_toArray, List.set_cons_zero, List.set_cons_succ]))
      refine T_do rfl (by rfl) (fun K hK => ?_)
      have hownd := Hown.out.keep (Keep.refl No wq).drew fun _ _ h => h
      refine wp_app (.const (.slice none 0 0)) (.tmp 41) 43 43 rfl (Own.nil wq.drew 5 1) Try.underlying43 info5 rfl (by omega) rfl rfl (src_rd (news := BV f.data) (m := f.data.length) Try.underlying43 hownd.rd (by rw [BV_length, Nat.mul_one]) (by omega) (BV_one _)) (by unfold maxLen; omega) (by omega) (fun A1 c1 w3 hO1 hK1 hA1 => ?_)
      rw [Nat.zero_add, List.nil_append] at hO1
      rw [Nat.zero_add]
      have hk3 : Keep No wq w3 := (Keep.refl No wq).drew.trans' (hK1.mono fun k _ e => by simp at e)
      have hn1 : ∀ k, bk A1 = some k → New wq w3 k := fun k hk => by
        rcases hA1 with rfl | ⟨rfl, h2⟩
        · simp at hk
        · simp at hk
          subst hk
          exact ⟨Nat.le_refl _, h2⟩
      refine hK _ _ (fun _ => hk3.mono fun _ _ h => h.elim) ?_
      iterate 1
        (apply T_read rfl (by rfl)
         (· (intro W hW; have hc := hcells.out W hW; go_simp; try with_reducible rfl))
         (try simp only [Act.put, List.getElem_toArray, List.getElem_cons_succ, List.getElem_cons_zero, List.setIfInBounds_toArray, List.set_cons_zero, List.set_cons_succ]))
      refine T_do rfl (by rfl) (fun K hK => ?_)
      go_simp
      have hk3a : Keep No wq (w3.alloc (.cells #[.string x.1, .slice A1 f.data.length c1, .int .i64 f.sure] 60)) := hk3.alloc _
      refine hK _ _ (fun _ => hk3a.mono fun _ _ h => h.elim) ?_
      refine T_do rfl (by rfl) (fun K hK => ?_)
      have hO3 := Hrow.out.keep hk3a fun _ _ h => h
      have hR3 : Rd (w3.alloc (.cells #[.string x.1, .slice A1 f.data.length c1, .int .i64 f.sure] 60)) (fun k => k = w3.heap.size) (some ⟨w3.heap.size, 0, none⟩) [.string x.1, .slice A1 f.data.length c1, .int .i64 f.sure] := fun _ => ⟨w3.heap.size, 0, rfl, rfl, Run.of_blk (alloc_new w3 _)⟩
      refine wp_app (.tmp 29) (.tmp 48) 22 22 rfl hO3 Try.underlying22 info60 rfl (by omega) rfl rfl (src_rd (news := [.string x.1, .slice A1 f.data.length c1, .int .i64 f.sure]) (m := 1) Try.underlying22 hR3 rfl (by omega) (by intro u hu; simp at hu; rcases hu with rfl | rfl | rfl <;> rfl)) (by unfold maxLen; omega) (by omega) (fun A' c' w4 hO4 hK4 hA => ?_)
      have hk4 : Keep (fun k => bk A = some k) wq w4 := (hk3a.mono (G := fun k => bk A = some k) fun _ _ h => h.elim).trans' (hK4.mono fun k _ e => e.symm)
      refine hK _ _ (fun _ => hk4) ?_
      have HRel := Told.more (x := (x.1, f.data, f.sure)) (hR.out.1.keep Kq.out fun _ _ h => h) (hR.out.2.1.trans' Kq.out) (fun k hk => (hR.out.2.2 k hk).sub Kq.out.size) hk3a (hO1.keep ((Keep.refl No w3).alloc _) fun _ _ h => h) (fun k hk => (hn1 k hk).sub (by simp)) (hK4.mono fun k _ e => e.symm) (by rw [Hlen0.out]; exact hO4) (fun k hk => by
        rcases hA with rfl | ⟨rfl, h2⟩
        · exact .inl hk
        · simp only [bk_some, Option.some.injEq] at hk
          subst hk
          exact .inr ⟨Nat.le_refl _, h2⟩)
      rw [← Htk.out] at HRel
      have HRel := Lib.hid HRel
      clear hO1 hK1 hA1 hk3 hn1 hk3a hO3 hR3 hO4 hK4 hA hk4
      refine T_do rfl (by rfl) (fun K hK => ?_)
      go_simp
      refine hK _ _ (fun h => absurd rfl h) (T_end ?_)
      go_wp2_with fail
      go_roundw
      case rel => exact ⟨j + 1, A', c', ds ++ [(A1, c1)], by omega, rfl, by go_num, HRel⟩
      case measure => simp [RowKit.intOf]; omega
    · obtain rfl : j = s.now.length := by omega
      have hall : s.filesOf.take s.now.length = s.filesOf := List.take_of_length_le (by simp [St.filesOf, St.told])
      have hlen : s.filesOf.length = s.now.length := by simp [St.filesOf, St.told]
      have Hall := Lib.hid hall
      have Hlen := Lib.hid hlen
      clear hall hlen h1
      go_wp2_with fail
      go_ret
      refine ⟨A, c, ds, by rw [Hlen.out]; rfl, ?_, hR.out.2.1, hR.out.2.2⟩
      have := hR.out.1
      rw [Hall.out] at this
      exact this

end Go.Dx

namespace Go.Dx
open Go.RowKit Go.Proofs

theorem rcsV_get : ∀ (l : List Ch) (j : Nat) (c : Ch), l[j]? = some c → ∀ q, q < 4 → (rcsV l)[4 * j + q]? = (rcV c)[q]?
  | [], _, _, h, _, _ => by simp at h
  | x :: l, 0, c, h, q, hq => by
    simp at h; subst h
    unfold rcsV
    rw [List.flatMap_cons, List.getElem?_append_left (by rw [rcV_len]; omega), Nat.mul_zero, Nat.zero_add]
  | x :: l, j + 1, c, h, q, hq => by
    simp at h
    have := rcsV_get l j c h q hq
    unfold rcsV at *
    rw [List.flatMap_cons, List.getElem?_append_right (by rw [rcV_len]; omega), ← this, rcV_len]
    congr 1
    omega
theorem RDL.chAt {w : World} {D : Nat} {s : St} {L : RL} (h : RDL w D s L) {j : Nat} {c : Ch} (hj : s.changes[j]? = some c) : ∃ g, L.cA = some ⟨g, 0, none⟩ ∧ ∀ q, q < 4 → w.cell? ⟨g, j * 4 + q, none⟩ = (rcV c)[q]? := by
  have hlt := (List.getElem?_eq_some_iff.1 hj).1
  rcases h.chs.2 with ⟨_, h0, _⟩ | ⟨g, cur, hA, hg, _, _, _, ht⟩
  · omega
  · refine ⟨g, hA, fun q hq => ?_⟩
    have h4 := rcsV_get s.changes j c hj q hq
    rw [cell_blk hg, ← h4, ← ht, List.getElem?_take, if_pos (by omega), Nat.mul_comm j 4]
    simp
theorem rest_step {w wr w1 w2 : World} {A A' : Option Addr} (h0 : Keep No w wr) (hn : ∀ k, bk A = some k → New w wr k) (k1 : Keep No wr w1) (hk : Keep (fun k => bk A = some k) w1 w2) (hA : ∀ k, bk A' = some k → bk A = some k ∨ New w1 w2 k) :
    Keep No w w2 ∧ ∀ k, bk A' = some k → New w w2 k := by
  have hs0 := h0.size
  have hs1 := k1.size
  have hs2 := hk.size
  refine ⟨(h0.trans' k1).trans hk fun k hk e => ?_, fun k hk => ?_⟩
  · have := (hn k e).1; omega
  · rcases hA k hk with e | e
    · exact (hn k e).sub (by omega)
    · exact ⟨by have := e.1; omega, e.2⟩

def RestR (w : World) (d : Dir Nat) (e : Ending) (w' : World) : Prop := ∃ A c, e = .returned (.slice A d.length c) ∧ Own w' 88 2 A d.length c (eVs d) ∧ Keep No w w' ∧ ∀ k, bk A = some k → New w w' k

set_option maxRecDepth 100000 in
set_option maxHeartbeats 8000000 in
theorem restR_any {w : World} {D : Nat} {s : St} {L : RL} (h : RDL w D s L) (hw : Wf s) (hch : s.changes.length ≤ 1000000) (dir : Int) : Calls Try.prog 44 #[.pointer (some ⟨D, 0, none⟩), .int .i64 dir] w (RestR w (s.rest dir)) := by
  have c3 : w.cell? ⟨D, 3, none⟩ = some (.slice L.sA s.sure.length L.sC) := h.cell 3 rfl
  have hsl : s.sure.length ≤ 8388608 := by have := hw.pre 0; simpa [lays] using this
  have htw := twin_any (c := L.sC) h.sure.rd (by omega)
  have H := Lib.hid h
  have Hw := Lib.hid hw
  have Htw := Lib.hid htw
  clear h hw htw
  go_enter Try.func44, Try.ntmps44
  go_wp2_with fail
  refine Htw.out.mono ?_
  rintro e w1 ⟨A0, c0, rfl, hO0, hk0, hn0⟩
  have HS : Hid (Own w1 88 2 A0 (lays s.sure (s.changes.take 0)).length c0 (eVs (lays s.sure (s.changes.take 0))) ∧ Keep No w w1 ∧ ∀ k, bk A0 = some k → New w w1 k) := ⟨hO0, hk0, hn0⟩
  have hl0 : Hid (s.sure.length = (lays s.sure (s.changes.take 0)).length) := rfl
  clear hO0 hk0 hn0
  go_wp2_with fail
  go_loopw [5, 6] (fun v i wr => ∃ (j : Nat) (A : Option Addr) (c : Nat), j ≤ s.changes.length ∧ j ≤ dir.toNat ∧ v = .slice A (lays s.sure (s.changes.take j)).length c ∧ i = .int .i64 j ∧ Hid (Own wr 88 2 A (lays s.sure (s.changes.take j)).length c (eVs (lays s.sure (s.changes.take j))) ∧ Keep No w wr ∧ (∀ k, bk A = some k → New w wr k))) (fun _ i _ => s.changes.length - (RowKit.intOf i).toNat)
  case atStart => exact ⟨0, A0, c0, Nat.zero_le _, Nat.zero_le _, by rw [← hl0.out], rfl, HS⟩
  case round =>
    obtain ⟨j, A, c, hj, hjd, rfl, rfl, hR⟩ := hrel
    have h1 := H.out.keepNo hR.out.2.1
    have c4 : wr.cell? ⟨D, 4, none⟩ = some (.slice L.cA s.changes.length L.cC) := h1.cell 4 rfl
    by_cases hlt : j < s.changes.length ∧ (j : Int) < dir
    · obtain ⟨hlt, hd⟩ := hlt
      have hlt' : (j : Int) < s.changes.length := by omega
      obtain ⟨x, hx⟩ : ∃ x, s.changes[j]? = some x := ⟨_, List.getElem?_eq_getElem hlt⟩
      obtain ⟨g, hA, hcell⟩ := h1.chAt hx
      have hok := valid_ok _ _ Hw.out.val j x hx
      have hsd : Sd (lays s.sure (s.changes.take j)) := lays_sd Hw.out.sdS _
      have hpl := Hw.out.pre j
      have htk : lays s.sure (s.changes.take (j + 1)) = lay1 (lays s.sure (s.changes.take j)) x := by rw [take_snoc hx, lays_append]; rfl
      rw [hA] at c4
      have q0 := hcell 0 (by omega)
      have q1 := hcell 1 (by omega)
      have q2 := hcell 2 (by omega)
      have q3 := hcell 3 (by omega)
      have Hok := Lib.hid hok
      have Hsd := Lib.hid hsd
      have Htk := Lib.hid htk
      generalize lays s.sure (s.changes.take j) = d at *
      clear hx hcell hok hsd htk h1 hA
      cases x with
      | mk n i =>
        simp only [rcV, List.getElem?_cons_zero, List.getElem?_cons_succ, Nat.add_zero] at q0 q1 q2 q3
        have k1 : Keep No wr (wr.alloc (.cells #[.int .i64 1, .string n, .string ByteArray.empty, .int .i64 i] 116)) := (Keep.refl No wr).alloc _
        have hwi := with_any (hR.out.1.keep k1 fun _ _ h => h) Hsd.out (by omega) n i
        have Hwi := Lib.hid hwi
        have K1 := Lib.hid k1
        clear hwi k1
        go_wp2_with fail
        refine Hwi.out.mono ?_
        rintro e w2 ⟨A', c', rfl, hO2, hk2, hA2⟩
        obtain ⟨r1, r2⟩ := rest_step hR.out.2.1 hR.out.2.2 K1.out hk2 hA2
        have HR2 : Hid (Own w2 88 2 A' (lays s.sure (s.changes.take (j + 1))).length c' (eVs (lays s.sure (s.changes.take (j + 1)))) ∧ Keep No w w2 ∧ (∀ k, bk A' = some k → New w w2 k)) := ⟨by rw [Htk.out]; exact hO2, r1, r2⟩
        have hln : Hid ((ins d n i).length = (lays s.sure (s.changes.take (j + 1))).length) := by unfold Hid; rw [Htk.out]; rfl
        clear hO2 hk2 hA2 r1 r2
        go_wp2_with fail
        go_roundw
        case rel => exact ⟨j + 1, A', c', by omega, by omega, by rw [hln.out], by go_num, HR2⟩
        case measure => simp [RowKit.intOf]; omega
      | del n =>
        simp only [rcV, List.getElem?_cons_zero, List.getElem?_cons_succ, Nat.add_zero] at q0 q1 q2 q3
        have k1 : Keep No wr (wr.alloc (.cells #[.int .i64 3, .string n, .string ByteArray.empty, .int .i64 0] 116)) := (Keep.refl No wr).alloc _
        have hwi := without_any (hR.out.1.keep k1 fun _ _ h => h) Hsd.out (by omega) n
        have Hwi := Lib.hid hwi
        have K1 := Lib.hid k1
        clear hwi k1
        go_wp2_with fail
        refine Hwi.out.mono ?_
        rintro e w2 ⟨A', c', rfl, hO2, hk2, hA2⟩
        obtain ⟨r1, r2⟩ := rest_step hR.out.2.1 hR.out.2.2 K1.out hk2 hA2
        have HR2 : Hid (Own w2 88 2 A' (lays s.sure (s.changes.take (j + 1))).length c' (eVs (lays s.sure (s.changes.take (j + 1)))) ∧ Keep No w w2 ∧ (∀ k, bk A' = some k → New w w2 k)) := ⟨by rw [Htk.out]; exact hO2, r1, r2⟩
        have hln : Hid ((rem d n).length = (lays s.sure (s.changes.take (j + 1))).length) := by unfold Hid; rw [Htk.out]; rfl
        clear hO2 hk2 hA2 r1 r2
        go_wp2_with fail
        go_roundw
        case rel => exact ⟨j + 1, A', c', by omega, by omega, by rw [hln.out], by go_num, HR2⟩
        case measure => simp [RowKit.intOf]; omega
      | ren a b =>
        simp only [rcV, List.getElem?_cons_zero, List.getElem?_cons_succ, Nat.add_zero] at q0 q1 q2 q3
        have hoka : (get d a).isSome = true := Hok.out.1
        obtain ⟨i, hi⟩ := Option.isSome_iff_exists.1 hoka
        have hpos := Hsd.out.get_pos hi
        have hplt := pos_lt Hsd.out hoka
        have hl1 : lay1 d (.ren a b) = ins (rem d a) b i := by simp only [lay1, hi]
        have k1 : Keep No wr (wr.alloc (.cells #[.int .i64 2, .string a, .string b, .int .i64 0] 116)) := (Keep.refl No wr).alloc _
        have hO1 := hR.out.1.keep k1 fun _ _ h => h
        have hb1 : (wr.alloc (.cells #[.int .i64 2, .string a, .string b, .int .i64 0] 116)).heap[wr.heap.size]? = some (.cells #[.int .i64 2, .string a, .string b, .int .i64 0] 116 (0, 0)) := alloc_new _ _
        have hfi := find_any hO1.rd Hsd.out (by omega) c a
        rw [hoka] at hfi
        generalize pos d a = p at *
        obtain ⟨gA, hgA⟩ := hO1.some_of (by omega)
        have hplt' : (p : Int) < d.length := by omega
        have Hfi := Lib.hid hfi
        have K1 := Lib.hid k1
        have HO1 := Lib.hid hO1
        have Hb1 := Lib.hid hb1
        have Hpos := Lib.hid hpos
        have Hl1 := Lib.hid hl1
        clear hfi k1 hO1 hb1 hi hpos hl1 hoka
        subst hgA
        go_wp2_with fail
        refine Hfi.out.mono ?_
        rintro e w2 ⟨rfl, m, rfl⟩
        have k1 : Keep No wr ((wr.alloc (.cells #[.int .i64 2, .string a, .string b, .int .i64 0] 116)).drewN m) := K1.out.drewN m
        have hO1 := HO1.out.keep ((Keep.refl No (wr.alloc (.cells #[.int .i64 2, .string a, .string b, .int .i64 0] 116))).drewN m) fun _ _ h => h
        have hb1 : ((wr.alloc (.cells #[.int .i64 2, .string a, .string b, .int .i64 0] 116)).drewN m).heap[wr.heap.size]? = some (.cells #[.int .i64 2, .string a, .string b, .int .i64 0] 116 (0, 0)) := Hb1.out
        clear K1 HO1 Hb1 Hfi
        generalize (wr.alloc (.cells #[.int .i64 2, .string a, .string b, .int .i64 0] 116)).drewN m = w1 at *
        have p1 := (pair_of hO1 rfl Hpos.out).2
        simp only at p1
        have hcells : Hid (∀ W, Keep (fun k => bk (some (⟨gA, 0, none⟩ : Addr)) = some k) w1 W → (W.cell? ⟨wr.heap.size, 1, none⟩ = some (.string a) ∧ W.cell? ⟨wr.heap.size, 2, none⟩ = some (.string b))) := by
          intro W hW
          have hbW := (hW.block _ (lt_blk hb1) (hO1.ne_blk hb1 (by decide))).trans hb1
          exact ⟨(cell_blk hbW 1).trans rfl, (cell_blk hbW 2).trans rfl⟩
        have hwo := fun (W : World) (hW : Keep No w1 W) => without_any (hO1.keep hW fun _ _ h => h) Hsd.out (by omega) a
        have Hwo := Lib.hid hwo
        have K1 := Lib.hid k1
        have hrl : (rem d a).length ≤ 8388608 := by have := rem_length Hsd.out a; split at this <;> omega
        have hsdr := Lib.hid (rem_sd Hsd.out a)
        clear hwo k1 hO1 hb1
        go_wp2_with fail
        refine wp_region_T (Keep (fun k => bk (some (⟨gA, 0, none⟩ : Addr)) = some k) w1) [(0, true), (1, true), (2, true), (4, true), (5, true), (6, true), (3, false), (7, false), (8, false)] (by kernel_rfl) (by kernel_rfl) (Keep.refl _ _).drew ?_
        iterate 6
          (apply T_read rfl (by rfl)
           (· (intro W hW; have hc := hcells.out W hW; go_simp; try with_reducible rfl))
           (try simp only [Act.put, List.getElem_toArray, List.getElem_cons_succ, List.getElem_cons_zero, List.setIfInBounds_toArray, List.set_cons_zero, List.set_cons_succ]))
        refine T_do rfl (by rfl) (fun K hK => ?_)
        go_simp
        refine (Hwo.out _ (Keep.refl No w1).drew).mono ?_
        rintro e w2 ⟨A2, c2, rfl, hO2, hk2, hA2⟩
        have hk2 := hk2.of_drew
        refine hK _ _ (fun _ => hk2) ?_
        refine T_do rfl (by rfl) (fun K hK => ?_)
        have hwi := with_any hO2 hsdr.out (by omega) b i
        go_simp
        refine hwi.mono ?_
        rintro e w3 ⟨A3, c3, rfl, hO3, hk3', hA3'⟩
        have hk3 : Keep (fun k => bk (some (⟨gA, 0, none⟩ : Addr)) = some k) w1 w3 := hk2.trans hk3' fun k hk e => by
          rcases hA2 k e with e | e
          · exact e
          · have := e.1; rw [World.size_drew] at this; omega
        have hA3 : ∀ k, bk A3 = some k → bk (some (⟨gA, 0, none⟩ : Addr)) = some k ∨ New w1 w3 k := fun k hk => by
          have hs1 := hk2.size
          have hs2 := hk3'.size
          rcases hA3' k hk with e | e
          · rcases hA2 k e with e | e
            · exact .inl e
            · exact .inr ⟨by have := e.1; rw [World.size_drew] at this; exact this, by have := e.2; omega⟩
          · exact .inr ⟨by have := e.1; omega, e.2⟩
        refine hK _ _ (fun _ => hk3) ?_
        obtain ⟨r1, r2⟩ := rest_step hR.out.2.1 hR.out.2.2 K1.out hk3 hA3
        have HR2 : Hid (Own w3 88 2 A3 (lays s.sure (s.changes.take (j + 1))).length c3 (eVs (lays s.sure (s.changes.take (j + 1)))) ∧ Keep No w w3 ∧ (∀ k, bk A3 = some k → New w w3 k)) := ⟨by rw [Htk.out, Hl1.out]; exact hO3, r1, r2⟩
        have hln : Hid ((ins (rem d a) b i).length = (lays s.sure (s.changes.take (j + 1))).length) := by unfold Hid; rw [Htk.out, Hl1.out]
        clear hO2 hk2 hA2 hO3 hk3 hA3 hk3' hA3' r1 r2 hcells p1 hwi
        refine T_do rfl (by rfl) (fun K hK => ?_)
        go_simp
        refine hK _ _ (fun h => absurd rfl h) (T_end ?_)
        go_wp2_with fail
        go_roundw
        case rel => exact ⟨j + 1, A3, c3, by omega, by omega, by rw [hln.out], by go_num, HR2⟩
        case measure => simp [RowKit.intOf]; omega
    · have hd : Hid (lays s.sure (s.changes.take j) = s.rest dir) := by
        unfold St.rest Hid
        by_cases hl : j < s.changes.length
        · have : dir.toNat = j := by omega
          rw [this]
        · rw [List.take_of_length_le (by omega), List.take_of_length_le (by omega)]
      have hgo : (j : Int) < s.changes.length → dir ≤ j := by omega
      clear h1
      by_cases hl : (j : Int) < s.changes.length
      · have hd' := hgo hl
        clear hgo hlt
        go_wp2_with fail
        go_ret
        rw [← hd.out]
        exact ⟨A, c, rfl, hR.out.1, hR.out.2.1, hR.out.2.2⟩
      · have hl' : (s.changes.length : Int) ≤ j := by omega
        clear hgo hlt hl
        go_wp2_with fail
        go_ret
        rw [← hd.out]
        exact ⟨A, c, rfl, hR.out.1, hR.out.2.1, hR.out.2.2⟩

end Go.Dx

namespace Go.Dx
open Go.RowKit Go.Proofs

theorem image_get {s : St} {dir : Int} {ks : List Int} {j : Nat} {x : Nm × Nat} {f : FV} (hx : (s.rest dir)[j]? = some x) (hf : s.files[x.2]? = some f) :
    (s.image dir ks)[j]? = some (x.1, f.data.take (f.sure + St.more ks j f.data.length f.sure), f.sure + St.more ks j f.data.length f.sure) := by
  simp [St.image, St.told, hx, St.cut, St.dataAt, St.sureAt, hf]

set_option maxRecDepth 100000 in
set_option maxHeartbeats 8000000 in
theorem imageR_any {w : World} {D : Nat} {s : St} {L : RL} (h : RDL w D s L) (hw : Wf s) (hch : s.changes.length ≤ 1000000) (dir : Int) {S : Nat → Prop} {B : Option Addr} {ks : List Int} {cb : Nat} (hb : Rd w S B (IV ks)) (hS : ∀ k, S k → k < w.heap.size) (hkl : ks.length ≤ 140737488355328) :
    Calls Try.prog 15 #[.pointer (some ⟨D, 0, none⟩), .int .i64 dir, .slice B ks.length cb] w (ToldR w (s.image dir ks)) := by
  have hre := restR_any h hw hch dir
  have hrl := rest_len hw dir
  have H := Lib.hid h
  have Hw := Lib.hid hw
  have HB := Lib.hid hb
  have Hre := Lib.hid hre
  have himl : Hid ((s.image dir ks).length = (s.rest dir).length) := image_len s dir ks
  clear h hw hb hre
  go_enter Try.func15, Try.ntmps15
  go_wp2_with fail
  refine Hre.out.mono ?_
  rintro e w1 ⟨A0, c0, rfl, hO0, hk0, hn0⟩
  have HS : Hid (Told w1 ((s.image dir ks).take 0) none 0 [] ∧ Keep No w w1 ∧ (∀ k, footT none [] k → New w w1 k) ∧ Own w1 88 2 A0 (s.rest dir).length c0 (eVs (s.rest dir)) ∧ ∀ k, bk A0 = some k → New w w1 k) :=
    ⟨Told.nil _, hk0, (fun k hk => by rcases hk with e | ⟨x, hx, _⟩ <;> simp at *), hO0, hn0⟩
  clear hO0 hk0 hn0
  go_wp2_with fail
  go_loopw [8, 9] (fun v i wr => ∃ (j : Nat) (A : Option Addr) (c : Nat) (ds : List (Option Addr × Nat)), j ≤ (s.rest dir).length ∧ v = .slice A j c ∧ i = .int .i64 j ∧ Hid (Told wr ((s.image dir ks).take j) A c ds ∧ Keep No w wr ∧ (∀ k, footT A ds k → New w wr k) ∧
    Own wr 88 2 A0 (s.rest dir).length c0 (eVs (s.rest dir)) ∧ ∀ k, bk A0 = some k → New w wr k)) (fun _ i _ => (s.rest dir).length - (RowKit.intOf i).toNat)
  case atStart => exact ⟨0, none, 0, [], Nat.zero_le _, rfl, rfl, HS⟩
  case round =>
    obtain ⟨j, A, c, ds, hj, rfl, rfl, hR⟩ := hrel
    by_cases hlt : j < (s.rest dir).length
    · have hlt' : (j : Int) < (s.rest dir).length := by omega
      obtain ⟨x, hx⟩ : ∃ x, (s.rest dir)[j]? = some x := ⟨_, List.getElem?_eq_getElem hlt⟩
      have hxi := Hw.out.rest_idx dir x (List.mem_of_getElem? hx)
      have hxi' : (x.2 : Int) < s.files.length := by omega
      have h1 := H.out.keepNo hR.out.2.1
      obtain ⟨f, b, d, hff, hfb, hfd, hp, hblk, hown⟩ := h1.at hxi
      obtain ⟨gF, hgF, hcF⟩ := h1.ptrs.cellAt (j := x.2) (u := .pointer (some ⟨b, 0, none⟩)) (by simp [ptrsV, hfb])
      obtain ⟨gN, hgN⟩ := hR.out.2.2.2.1.some_of (by omega)
      obtain ⟨q0, q1⟩ := pair_of hR.out.2.2.2.1 hgN hx
      have hfs := Hw.out.fsure f (List.mem_of_getElem? hff)
      have hfs1 := hfs.1
      have hfs2 := hfs.2
      have hig := image_get (ks := ks) hx hff
      have hmo := more_le ks j f.data.length f.sure
      have hlc : f.data.length ≤ d.2 := hown.le.1
      have c1 : wr.cell? ⟨D, 1, none⟩ = some (.slice L.fA s.files.length L.fC) := h1.cell 1 rfl
      rw [hgF] at c1
      have b0 : wr.cell? ⟨b, 0, none⟩ = some (.slice d.1 f.data.length d.2) := (cell_blk hblk 0).trans rfl
      have b1 : wr.cell? ⟨b, 1, none⟩ = some (.int .i64 f.sure) := (cell_blk hblk 1).trans rfl
      have hlen0 : ((s.image dir ks).take j).length = j := by rw [List.length_take, himl.out]; omega
      have hrow : Own wr 60 3 A j c (tsV ((s.image dir ks).take j) ds) := by have := hR.out.1.row; rw [hlen0] at this; exact this
      have Hlen0 := Lib.hid hlen0
      have Hrow := Lib.hid hrow
      have Hown := Lib.hid hown
      have Hig := Lib.hid hig
      clear hx hff hfb hfd hp hblk hown hgF hfs hig hlen0 hrow h1
      subst hgN
      go_wp2_with fail
      go_quiet (fail)
      have kq : Keep No wr (wr.drewN nq) := (Keep.refl No wr).drewN nq
      have q0 : (wr.drewN nq).cell? ⟨gN, j * 2, none⟩ = some (.string x.1) := q0
      have b0 : (wr.drewN nq).cell? ⟨b, 0, none⟩ = some (.slice d.1 f.data.length d.2) := b0
      have b1 : (wr.drewN nq).cell? ⟨b, 1, none⟩ = some (.int .i64 f.sure) := b1
      have HQ := Lib.hid kq
      clear kq c1 q1 hcF
      generalize wr.drewN nq = wq at *
      by_cases hk0 : ks.length = 0
      · have hm0 : St.more ks j f.data.length f.sure = 0 := by simp [St.more, hk0]
        have hig := Hig.out
        rw [hm0, Nat.add_zero] at hig
        have Hig := Lib.hid hig
        have hwn : IntKind.i64.wrap (f.sure : Int) = (f.sure : Int) := by rw [IntKind.wrap_i64]; omega
        have hk0' : (ks.length : Int) ≤ 0 := by omega
        clear hm0 hmo hig hk0
        go_wp2_with fail
        have hslc := fun W => run_to W d.1 f.data.length d.2 f.sure (by omega)
        have Hcells := Lib.hid (fun (W : World) (hW : Keep No wq W) => And.intro ((hW.cell (a := ⟨b, 0, none⟩) (World.block_lt_of_cell? wq _ b0) id).trans b0) ((hW.cell (a := ⟨b, 1, none⟩) (World.block_lt_of_cell? wq _ b1) id).trans b1))
        refine wp_region_T (Keep No wq) [(0, true), (1, true), (2, true), (3, true), (4, true), (5, true), (6, true), (7, true), (8, true), (9, true), (10, true), (11, false), (12, false)] (by kernel_rfl) (by kernel_rfl) (Keep.refl _ _).drew ?_
        iterate 11
          (apply T_read rfl (by rfl)
           (· (intro W hW; have hc := Hcells.out W hW; go_simp; try with_reducible rfl))
           (try simp only [Act.put, List.getElem_toArray, List.getElem_cons_succ, List.getElem_cons_zero, List.setIfInBounds_toArray, List.set_cons_zero, List.set_cons_succ]))
        have hownd := ((Hown.out.keep HQ.out fun _ _ h => h).keep (Keep.refl No wq).drew fun _ _ h => h).take f.sure (by omega)
        rw [Nat.mul_one, BV_take] at hownd
        refine T_do rfl (by rfl) (fun K hK => ?_)
        refine wp_app (.const (.slice none 0 0)) (.tmp 65) 43 43 rfl (Own.nil wq.drew 5 1) Try.underlying43 info5 rfl (by omega) rfl rfl (src_rd (news := BV (f.data.take f.sure)) (m := f.sure) Try.underlying43 hownd.rd (by rw [BV_length, List.length_take, Nat.mul_one]; omega) (by omega) (BV_one _)) (by unfold maxLen; omega) (by omega) (fun A1 c1 w3 hO1 hK1 hA1 => ?_)
        rw [Nat.zero_add, List.nil_append] at hO1
        rw [Nat.zero_add]
        have hk3 : Keep No wq w3 := (Keep.refl No wq).drew.trans' (hK1.mono fun k _ e => by simp at e)
        have hn1 : ∀ k, bk A1 = some k → New wq w3 k := fun k hk => by
          rcases hA1 with rfl | ⟨rfl, h2⟩
          · simp at hk
          · simp at hk
            subst hk
            exact ⟨Nat.le_refl _, h2⟩
        have q0 : w3.cell? ⟨gN, j * 2, none⟩ = some (.string x.1) := (hk3.cell (a := ⟨gN, j * 2, none⟩) (World.block_lt_of_cell? wq _ q0) id).trans q0
        have HO1 := Lib.hid hO1
        have Hk3 := Lib.hid hk3
        have Hn1 := Lib.hid hn1
        clear hownd hO1 hK1 hA1
        refine hK _ _ (fun _ => hk3) ?_
        clear hk3 hn1 b0 b1 hslc Hcells
        refine T_do rfl (by rfl) (fun K hK => ?_)
        go_simp
        refine hK _ _ (fun h => absurd rfl h) (T_end ?_)
        go_wp2_with (
          (have hk3a : Keep No wq (w3.alloc (.cells #[.string x.1, .slice A1 f.sure c1, .int .i64 f.sure] 60)) := Hk3.out.alloc _
           have hO3 := (Hrow.out.keep HQ.out fun _ _ h => h).keep hk3a fun _ _ h => h
           have hR3 : Rd (w3.alloc (.cells #[.string x.1, .slice A1 f.sure c1, .int .i64 f.sure] 60)) (fun k => k = w3.heap.size) (some ⟨w3.heap.size, 0, none⟩) [.string x.1, .slice A1 f.sure c1, .int .i64 f.sure] := fun _ => ⟨w3.heap.size, 0, rfl, rfl, Run.of_blk (alloc_new w3 _)⟩
           refine wpList_app (by rfl) (.tmp 67) (.tmp 77) 22 22 rfl hO3 Try.underlying22 info60 rfl (by omega) rfl rfl (src_rd (news := [.string x.1, .slice A1 f.sure c1, .int .i64 f.sure]) (m := 1) Try.underlying22 hR3 rfl (by omega) (by intro u hu; simp at hu; rcases hu with rfl | rfl | rfl <;> rfl)) (by unfold maxLen; omega) (by omega) ?_
           intro A' c' w4 hO4 hK4 hA
           have hk4 : Keep (fun k => bk A = some k) wq w4 := (hk3a.mono (G := fun k => bk A = some k) fun _ _ h => h.elim).trans' (hK4.mono fun k _ e => e.symm)
           have hdl : (f.data.take f.sure).length = f.sure := by rw [List.length_take]; omega
           have htv : tV (x.1, f.data.take f.sure, f.sure) (A1, c1) = [.string x.1, .slice A1 f.sure c1, .int .i64 f.sure] := by simp only [tV]; rw [hdl]
           have htk : (s.image dir ks).take (j + 1) = (s.image dir ks).take j ++ [(x.1, f.data.take f.sure, f.sure)] := take_snoc Hig.out
           have hsq := HQ.out.size
           have hsa := hk3a.size
           have hs4 := hK4.size
           have hs3 : w3.heap.size ≤ (w3.alloc (.cells #[.string x.1, .slice A1 f.sure c1, .int .i64 f.sure] 60)).heap.size := by simp
           have HRel := Told.more (x := (x.1, f.data.take f.sure, f.sure)) (hR.out.1.keep HQ.out fun _ _ h => h) (hR.out.2.1.trans' HQ.out) (fun k hk => (hR.out.2.2.1 k hk).sub hsq) hk3a (by simp only [hdl]; exact HO1.out.keep ((Keep.refl No w3).alloc _) fun _ _ h => h) (fun k hk => (Hn1.out k hk).sub hs3) (hK4.mono fun k _ e => e.symm) (by rw [Hlen0.out, htv]; exact hO4) (fun k hk => by
             rcases hA with rfl | ⟨rfl, h2⟩
             · exact .inl hk
             · simp only [bk_some, Option.some.injEq] at hk
               subst hk
               exact .inr ⟨Nat.le_refl _, h2⟩)
           rw [← htk] at HRel
           have HRel2 : Hid (Told w4 ((s.image dir ks).take (j + 1)) A' c' (ds ++ [(A1, c1)]) ∧ Keep No w w4 ∧ (∀ k, footT A' (ds ++ [(A1, c1)]) k → New w w4 k) ∧ Own w4 88 2 (some ⟨gN, 0, none⟩) (s.rest dir).length c0 (eVs (s.rest dir)) ∧ ∀ k, bk (some (⟨gN, 0, none⟩ : Addr)) = some k → New w w4 k) :=
             ⟨HRel.1, HRel.2.1, HRel.2.2, (hR.out.2.2.2.1.keep HQ.out fun _ _ h => h).keep hk4 (fun k hk e => (hR.out.2.2.2.1.keep HQ.out fun _ _ h => h).ne (Hrow.out.keep HQ.out fun _ _ h => h) (by decide) k hk e), fun k hk => (hR.out.2.2.2.2 k hk).sub (by omega)⟩
           clear hO3 hR3 hO4 hK4 hA hk4 hdl htv htk HRel hk3a hs3 hsq hsa hs4))
        go_roundw
        case rel => exact ⟨j + 1, A', c', ds ++ [(A1, c1)], by omega, rfl, by go_num, HRel2⟩
        case measure => simp [RowKit.intOf]; omega
      · have hkpos : (0 : Int) < ks.length := by omega
        obtain ⟨bb, o, rfl, hSb, hrun⟩ := HB.out (by simp [IV]; omega)
        have hmod : j % ks.length < ks.length := Nat.mod_lt _ (by omega)
        have hmore : St.more ks j f.data.length f.sure = min (ks.getD (j % ks.length) 0).toNat (f.data.length - f.sure) := by simp [St.more, hk0]
        obtain ⟨r, hr⟩ : ∃ r, j % ks.length = r := ⟨_, rfl⟩
        have htm : Int.tmod (j : Int) ks.length = r := by rw [Int.tmod_eq_emod_of_nonneg (by omega)]; omega
        have hem : (j : Int) % ks.length = r := by omega
        rw [hr] at hmod hmore
        obtain ⟨kv, hkv⟩ : ∃ kv, ks[r]? = some kv := ⟨_, List.getElem?_eq_getElem hmod⟩
        rw [List.getD_eq_getElem?_getD, hkv, Option.getD_some] at hmore
        have hcell : wq.cell? ⟨bb, o + r, none⟩ = some (.int .i64 kv) := by
          rw [(hR.out.2.1.trans' HQ.out).cell (a := ⟨bb, o + r, none⟩) (hS bb hSb) id]
          exact hrun _ _ (by simp [IV, hkv])
        obtain ⟨m3, hm3⟩ : ∃ m : Nat, kv.toNat = m := ⟨_, rfl⟩
        rw [hm3] at hmore
        have hig := Hig.out
        obtain ⟨mr, hmr⟩ : ∃ mr : Nat, St.more ks j f.data.length f.sure = mr := ⟨_, rfl⟩
        rw [hmr] at hmore hmo hig
        obtain ⟨nn, hnn⟩ : ∃ nn : Nat, f.sure + mr = nn := ⟨_, rfl⟩
        rw [hnn] at hig
        have hmx : ∀ ts t W, (Builtin.max_ ts t #[.int .i64 kv, .int .i64 0]).run Try.prog W = .ok (.int .i64 m3) W := fun ts t W => by rw [run_max2, ← Int.toNat_eq_max, hm3]
        have hmn : ∀ ts t W, (Builtin.min_ ts t #[.int .i64 m3, .int .i64 ((f.data.length : Int) - f.sure)]).run Try.prog W = .ok (.int .i64 mr) W := fun ts t W => by rw [run_min2]; congr 2; omega
        have hadd : (f.sure : Int) + mr = nn := by omega
        have hwn : IntKind.i64.wrap (nn : Int) = (nn : Int) := by rw [IntKind.wrap_i64]; omega
        have hrlt : (r : Int) < ks.length := by omega
        have hnl : nn ≤ f.data.length := by omega
        have Hig := Lib.hid hig
        have Hadd := Lib.hid hadd
        have Hwn := Lib.hid hwn
        clear hrun hkv hm3 hmr hmore hr hnn hig hmo hadd hwn
        go_wp2_with fail
        go_quiet (fail)
        have kq : Keep No wq (wq.drewN nq) := (Keep.refl No wq).drewN nq
        have q0 : (wq.drewN nq).cell? ⟨gN, j * 2, none⟩ = some (.string x.1) := q0
        have b0 : (wq.drewN nq).cell? ⟨b, 0, none⟩ = some (.slice d.1 f.data.length d.2) := b0
        have b1 : (wq.drewN nq).cell? ⟨b, 1, none⟩ = some (.int .i64 f.sure) := b1
        have HQ := Lib.hid (HQ.out.trans' kq)
        have hadd := Hadd.out
        have hwn := Hwn.out
        clear kq hcell hmx hmn htm hem hrlt Hadd Hwn hk0
        generalize wq.drewN nq = wq at *
        go_wp2_with fail
        have hslc := fun W => run_to W d.1 f.data.length d.2 nn (by omega)
        have Hcells := Lib.hid (fun (W : World) (hW : Keep No wq W) => And.intro ((hW.cell (a := ⟨b, 0, none⟩) (World.block_lt_of_cell? wq _ b0) id).trans b0) ((hW.cell (a := ⟨b, 1, none⟩) (World.block_lt_of_cell? wq _ b1) id).trans b1))
        refine wp_region_T (Keep No wq) [(0, true), (1, true), (2, true), (3, true), (4, true), (5, true), (6, true), (7, true), (8, true), (9, true), (10, true), (11, false), (12, false)] (by kernel_rfl) (by kernel_rfl) (Keep.refl _ _).drew ?_
        iterate 11
          (apply T_read rfl (by rfl)
           (· (intro W hW; have hc := Hcells.out W hW; go_simp; try with_reducible rfl))
           (try simp only [Act.put, List.getElem_toArray, List.getElem_cons_succ, List.getElem_cons_zero, List.setIfInBounds_toArray, List.set_cons_zero, List.set_cons_succ]))
        have hownd := ((Hown.out.keep HQ.out fun _ _ h => h).keep (Keep.refl No wq).drew fun _ _ h => h).take nn (by omega)
        rw [Nat.mul_one, BV_take] at hownd
        refine T_do rfl (by rfl) (fun K hK => ?_)
        refine wp_app (.const (.slice none 0 0)) (.tmp 65) 43 43 rfl (Own.nil wq.drew 5 1) Try.underlying43 info5 rfl (by omega) rfl rfl (src_rd (news := BV (f.data.take nn)) (m := nn) Try.underlying43 hownd.rd (by rw [BV_length, List.length_take, Nat.mul_one]; omega) (by omega) (BV_one _)) (by unfold maxLen; omega) (by omega) (fun A1 c1 w3 hO1 hK1 hA1 => ?_)
        rw [Nat.zero_add, List.nil_append] at hO1
        rw [Nat.zero_add]
        have hk3 : Keep No wq w3 := (Keep.refl No wq).drew.trans' (hK1.mono fun k _ e => by simp at e)
        have hn1 : ∀ k, bk A1 = some k → New wq w3 k := fun k hk => by
          rcases hA1 with rfl | ⟨rfl, h2⟩
          · simp at hk
          · simp at hk
            subst hk
            exact ⟨Nat.le_refl _, h2⟩
        have q0 : w3.cell? ⟨gN, j * 2, none⟩ = some (.string x.1) := (hk3.cell (a := ⟨gN, j * 2, none⟩) (World.block_lt_of_cell? wq _ q0) id).trans q0
        have HO1 := Lib.hid hO1
        have Hk3 := Lib.hid hk3
        have Hn1 := Lib.hid hn1
        clear hownd hO1 hK1 hA1
        refine hK _ _ (fun _ => hk3) ?_
        clear hk3 hn1 b0 b1 hslc Hcells
        refine T_do rfl (by rfl) (fun K hK => ?_)
        go_simp
        refine hK _ _ (fun h => absurd rfl h) (T_end ?_)
        go_wp2_with (
          (have hk3a : Keep No wq (w3.alloc (.cells #[.string x.1, .slice A1 nn c1, .int .i64 nn] 60)) := Hk3.out.alloc _
           have hO3 := (Hrow.out.keep HQ.out fun _ _ h => h).keep hk3a fun _ _ h => h
           have hR3 : Rd (w3.alloc (.cells #[.string x.1, .slice A1 nn c1, .int .i64 nn] 60)) (fun k => k = w3.heap.size) (some ⟨w3.heap.size, 0, none⟩) [.string x.1, .slice A1 nn c1, .int .i64 nn] := fun _ => ⟨w3.heap.size, 0, rfl, rfl, Run.of_blk (alloc_new w3 _)⟩
           refine wpList_app (by rfl) (.tmp 67) (.tmp 77) 22 22 rfl hO3 Try.underlying22 info60 rfl (by omega) rfl rfl (src_rd (news := [.string x.1, .slice A1 nn c1, .int .i64 nn]) (m := 1) Try.underlying22 hR3 rfl (by omega) (by intro u hu; simp at hu; rcases hu with rfl | rfl | rfl <;> rfl)) (by unfold maxLen; omega) (by omega) ?_
           intro A' c' w4 hO4 hK4 hA
           have hk4 : Keep (fun k => bk A = some k) wq w4 := (hk3a.mono (G := fun k => bk A = some k) fun _ _ h => h.elim).trans' (hK4.mono fun k _ e => e.symm)
           have hdl : (f.data.take nn).length = nn := by rw [List.length_take]; omega
           have htv : tV (x.1, f.data.take nn, nn) (A1, c1) = [.string x.1, .slice A1 nn c1, .int .i64 nn] := by simp only [tV]; rw [hdl]
           have htk : (s.image dir ks).take (j + 1) = (s.image dir ks).take j ++ [(x.1, f.data.take nn, nn)] := take_snoc Hig.out
           have hsq := HQ.out.size
           have hsa := hk3a.size
           have hs4 := hK4.size
           have hs3 : w3.heap.size ≤ (w3.alloc (.cells #[.string x.1, .slice A1 nn c1, .int .i64 nn] 60)).heap.size := by simp
           have HRel := Told.more (x := (x.1, f.data.take nn, nn)) (hR.out.1.keep HQ.out fun _ _ h => h) (hR.out.2.1.trans' HQ.out) (fun k hk => (hR.out.2.2.1 k hk).sub hsq) hk3a (by simp only [hdl]; exact HO1.out.keep ((Keep.refl No w3).alloc _) fun _ _ h => h) (fun k hk => (Hn1.out k hk).sub hs3) (hK4.mono fun k _ e => e.symm) (by rw [Hlen0.out, htv]; exact hO4) (fun k hk => by
             rcases hA with rfl | ⟨rfl, h2⟩
             · exact .inl hk
             · simp only [bk_some, Option.some.injEq] at hk
               subst hk
               exact .inr ⟨Nat.le_refl _, h2⟩)
           rw [← htk] at HRel
           have HRel2 : Hid (Told w4 ((s.image dir ks).take (j + 1)) A' c' (ds ++ [(A1, c1)]) ∧ Keep No w w4 ∧ (∀ k, footT A' (ds ++ [(A1, c1)]) k → New w w4 k) ∧ Own w4 88 2 (some ⟨gN, 0, none⟩) (s.rest dir).length c0 (eVs (s.rest dir)) ∧ ∀ k, bk (some (⟨gN, 0, none⟩ : Addr)) = some k → New w w4 k) :=
             ⟨HRel.1, HRel.2.1, HRel.2.2, (hR.out.2.2.2.1.keep HQ.out fun _ _ h => h).keep hk4 (fun k hk e => (hR.out.2.2.2.1.keep HQ.out fun _ _ h => h).ne (Hrow.out.keep HQ.out fun _ _ h => h) (by decide) k hk e), fun k hk => (hR.out.2.2.2.2 k hk).sub (by omega)⟩
           clear hO3 hR3 hO4 hK4 hA hk4 hdl htv htk HRel hk3a hs3 hsq hsa hs4))
        go_roundw
        case rel => exact ⟨j + 1, A', c', ds ++ [(A1, c1)], by omega, rfl, by go_num, HRel2⟩
        case measure => simp [RowKit.intOf]; omega
    · obtain rfl : j = (s.rest dir).length := by omega
      have hall : (s.image dir ks).take (s.rest dir).length = s.image dir ks := List.take_of_length_le (by rw [himl.out]; exact Nat.le_refl _)
      have Hall := Lib.hid hall
      clear hall
      go_wp2_with fail
      go_ret
      refine ⟨A, c, ds, by rw [himl.out]; rfl, ?_, hR.out.2.1, hR.out.2.2.1⟩
      have := hR.out.1
      rw [Hall.out] at this
      exact this

end Go.Dx

namespace Go.Dx
open Go.RowKit Go.Proofs

def RL.nil : RL := ⟨none, 0, none, 0, none, 0, none, 0, [], []⟩
/-- A disk that is being made. -/
def St.begun (room : Nat) (fs : List FV) (d : Dir Nat) : St := { room := room, files := fs, now := d, sure := [], changes := [], left := 0, well := 0, fails := 0, part := 0, down := false }
theorem RDL.fresh {w : World} {E room : Nat} (h : w.heap[E]? = some (.cells (diskR (St.begun room [] []) RL.nil) 85 (0, 0))) : RDL w E (St.begun room [] []) RL.nil :=
  ⟨h, Own.nil _ _ _, ⟨rfl, rfl, fun i f hf => by simp [St.begun] at hf, List.nodup_nil, fun i j x y _ hx => by simp [RL.nil] at hx⟩, Own.nil _ _ _, Own.nil _ _ _, Own.nil _ _ _, fun k hk => by simp [RL.nil] at hk⟩

section
variable {w w' : World} {D : Nat} {s : St} {L : RL}
theorem RDL.addFile2 (h : RDL w D s L) {f : FV} {b : Nat} {d : Option Addr × Nat} {fA' : Option Addr} {fC' : Nat} (hk : Keep (fun k => k = D ∨ bk L.fA = some k) w w')
    (hd : w'.heap[D]? = some (.cells (diskR { s with files := s.files ++ [f] } { L with fA := fA', fC := fC' }) 85 (0, 0))) (hp : Own w' 86 1 fA' (s.files.length + 1) fC' (ptrsV (L.fb ++ [b])))
    (hb : w'.heap[b]? = some (.cells (fileC f d) 90 (0, 0))) (hbn : w.heap.size ≤ b) (ho : Own w' 5 1 d.1 f.data.length d.2 (BV f.data)) (hdn : ∀ k, bk d.1 = some k → ∀ x ∈ L.fd, bk x.1 ≠ some k) :
    RDL w' D { s with files := s.files ++ [f] } { L with fA := fA', fC := fC', fb := L.fb ++ [b], fd := L.fd ++ [d] } := by
  refine ⟨hd, by simp only [List.length_append, List.length_cons, List.length_nil]; exact hp, ?_, ?_, ?_, ?_, h.apart⟩
  · refine h.files.push (by decide) hk (fun k hk1 e => ?_) hb ho (fun hm => ?_) hdn
    · rcases e with e | e
      · exact h.neD k (.inr (.inr (.inr (.inr hk1)))) e
      · exact (h.rowF k hk1).2.2.2 e
    · have := h.files.lt b (.inl hm); omega
  · exact h.now.keep hk fun k hk1 e => by
      rcases e with e | e
      · exact h.neD k (.inr (.inl hk1)) e
      · exact h.rows.1 k hk1 e
  · exact h.sure.keep hk fun k hk1 e => by
      rcases e with e | e
      · exact h.neD k (.inr (.inr (.inl hk1))) e
      · exact h.rows.2.2.1 k hk1 e
  · exact h.chs.keep hk fun k hk1 e => by
      rcases e with e | e
      · exact h.neD k (.inr (.inr (.inr (.inl hk1)))) e
      · exact h.rows.2.2.2.2 k hk1 e
theorem RDL.reNow (h : RDL w D s L) {s' : St} {nA' : Option Addr} {nC' : Nat} (hk : Keep (fun k => k = D ∨ bk L.nA = some k) w w')
    (hd : w'.heap[D]? = some (.cells (diskR s' { L with nA := nA', nC := nC' }) 85 (0, 0))) (hn : Own w' 88 2 nA' s'.now.length nC' (eVs s'.now))
    (hnA : ∀ k, bk nA' = some k → bk L.nA = some k ∨ w.heap.size ≤ k) (e1 : s'.files = s.files) (e3 : s'.sure = s.sure) (e4 : s'.changes = s.changes) : RDL w' D s' { L with nA := nA', nC := nC' } := by
  refine h.reDir (cA' := L.cA) (cC' := L.cC) (hk.mono fun k _ e => ?_) hd hn ?_ hnA e1 e3
  · rcases e with e | e
    · exact .inl e
    · exact .inr (.inl e)
  · rw [e4]
    exact h.chs.keep hk fun k hk1 e => by
      rcases e with e | e
      · exact h.neD k (.inr (.inr (.inr (.inl hk1)))) e
      · exact h.rows.2.1 k e hk1
theorem RDL.reSure (h : RDL w D s L) {s' : St} {sA' : Option Addr} {sC' : Nat} (hk : Keep (fun k => k = D) w w')
    (hd : w'.heap[D]? = some (.cells (diskR s' { L with sA := sA', sC := sC' }) 85 (0, 0))) (hs : Own w' 88 2 sA' s'.sure.length sC' (eVs s'.sure))
    (hsA : ∀ k, bk L.nA = some k → bk sA' ≠ some k) (e1 : s'.files = s.files) (e2 : s'.now = s.now) (e4 : s'.changes = s.changes) : RDL w' D s' { L with sA := sA', sC := sC' } := by
  refine ⟨hd, ?_, ?_, ?_, hs, ?_, hsA⟩
  · rw [e1]; exact h.ptrs.keep hk fun k hk e => h.neD k (.inl hk) e
  · rw [e1]; exact h.files.same (S := footF L.fb L.fd) (fun k hk1 => hk.block k (h.files.lt k hk1) (h.neD k (.inr (.inr (.inr (.inr hk1)))))) fun _ h => h
  · rw [e2]; exact h.now.keep hk fun k hk e => h.neD k (.inr (.inl hk)) e
  · rw [e4]; exact h.chs.keep hk fun k hk e => h.neD k (.inr (.inr (.inr (.inl hk)))) e
theorem RDL.move {E : Nat} (h : RDL w E s L) (hk : Keep (fun k => k = D) w w') (hd : w'.heap[D]? = some (.cells (diskR s L) 85 (0, 0)))
    (hn : ∀ k, (bk L.fA = some k ∨ bk L.nA = some k ∨ bk L.sA = some k ∨ bk L.cA = some k ∨ footF L.fb L.fd k) → k ≠ D) : RDL w' D s L :=
  ⟨hd, h.ptrs.keep hk fun k hk e => hn k (.inl hk) e, h.files.same (S := footF L.fb L.fd) (fun k hk1 => hk.block k (h.files.lt k hk1) (hn k (.inr (.inr (.inr (.inr hk1)))))) fun _ h => h,
   h.now.keep hk fun k hk e => hn k (.inr (.inl hk)) e, h.sure.keep hk fun k hk e => hn k (.inr (.inr (.inl hk))) e, h.chs.keep hk fun k hk e => hn k (.inr (.inr (.inr (.inl hk)))) e, h.apart⟩
theorem Told.obj2 {l : List FT} {A : Option Addr} {c : Nat} {ds : List (Option Addr × Nat)} (h : Told w l A c ds) {k : Nat} (hk : footT A ds k) : ∃ cs t, w.heap[k]? = some (.cells cs t (0, 0)) ∧ (t = 60 ∨ t = 5) := by
  rcases hk with hk | ⟨d, hd, hk⟩
  · rcases h.row.2 with ⟨e, _⟩ | ⟨g, cur, e, hg, _⟩
    · rw [e] at hk; simp at hk
    · rw [e] at hk; simp at hk; subst hk; exact ⟨_, _, hg, .inl rfl⟩
  · obtain ⟨n, xs, ho⟩ := h.obj hd
    rcases ho.2 with ⟨e, _⟩ | ⟨g, cur, e, hg, _⟩
    · rw [e] at hk; simp at hk
    · rw [e] at hk; simp at hk; subst hk; exact ⟨_, _, hg, .inr rfl⟩
end

/-- What the loop of Fall holds. -/
structure FallI (w wr : World) (E room : Nat) (l : List FT) (A : Option Addr) (c : Nat) (ds : List (Option Addr × Nat)) (j : Nat) (L : RL) : Prop where
  rdl : RDL wr E (St.begun room ((l.take j).map fvOf) (nowOf (l.take j))) L
  told : Told wr l A c ds
  keep : Keep No w wr
  new : ∀ k, footR E L k → New w wr k
  fd : L.fd = ds.take j

set_option maxRecDepth 100000 in
set_option maxHeartbeats 8000000 in
theorem fallR_any {w : World} {D : Nat} {s : St} {L : RL} (h : RDL w D s L) (hw : Wf s) (hch : s.changes.length ≤ 1000000) (dir : Int) {S : Nat → Prop} {B : Option Addr} {ks : List Int} {cb : Nat} (hb : Rd w S B (IV ks)) (hS : ∀ k, S k → k < w.heap.size) (hkl : ks.length ≤ 140737488355328) :
    Calls Try.prog 35 #[.pointer (some ⟨D, 0, none⟩), .int .i64 dir, .slice B ks.length cb] w fun e w' => e = .returned (.tuple #[]) ∧ DidR w D L (s.fall dir ks) w' := by
  have hI := imageR_any (cb := cb) h hw hch dir hb hS hkl
  have hlen : (s.image dir ks).length ≤ 8388608 := by rw [image_len]; exact rest_len hw dir
  have hfin : Hid (s.fall dir ks = { room := s.room, files := (s.image dir ks).map fvOf, now := nowOf (s.image dir ks), sure := nowOf (s.image dir ks), changes := [], left := 0, well := 0, fails := 0, part := 0, down := false }) := rfl
  have H := Lib.hid h
  have HI := Lib.hid hI
  clear h hI hb
  generalize s.image dir ks = l at *
  go_enter Try.func35, Try.ntmps35
  go_wp2_with fail
  refine HI.out.mono ?_
  rintro e w1 ⟨A, c, ds, rfl, hT, hk1, hn1⟩
  have h1 := H.out.keepNo hk1
  have c0 : w1.cell? ⟨D, 0, none⟩ = some (.int .i64 s.room) := h1.cell 0 rfl
  have hs1 := hk1.size
  have hDlt : D < w.heap.size := lt_blk H.out.disk
  have HS : Hid (FallI w (w1.alloc (.cells #[.int .i64 s.room, .slice none 0 0, .slice none 0 0, .slice none 0 0, .slice none 0 0, .int .i64 0, .int .i64 0, .int .i64 0, .int .i64 0, .bool false] 85)) w1.heap.size s.room l A c ds 0 RL.nil) := by
    refine ⟨RDL.fresh (alloc_new w1 _), hT.keep ((Keep.refl No w1).alloc _) fun _ _ h => h, hk1.alloc _, ?_, rfl⟩
    rintro k (e | e | e | e | e | e)
    · subst e; exact ⟨hs1, by simp⟩
    · simp [RL.nil] at e
    · simp [RL.nil] at e
    · simp [RL.nil] at e
    · simp [RL.nil] at e
    · rcases e with e | ⟨x, hx, _⟩
      · simp [RL.nil] at e
      · simp [RL.nil] at hx
  have HN1 : Hid (∀ k, footT A ds k → w.heap.size ≤ k ∧ k < w1.heap.size) := hn1
  clear h1 hT hk1 hn1
  go_wp2_with fail
  obtain ⟨E, hE⟩ : ∃ E, w1.heap.size = E := ⟨_, rfl⟩
  rw [hE] at HN1 HS hs1 ⊢
  clear hE
  go_loopw [8] (fun i wr => ∃ (j : Nat) (L' : RL), j ≤ l.length ∧ i = .int .i64 j ∧ Hid (FallI w wr E s.room l A c ds j L')) (fun i _ => l.length - (RowKit.intOf i).toNat)
  case atStart => exact ⟨0, RL.nil, Nat.zero_le _, rfl, HS⟩
  case round =>
    clear HS c0
    obtain ⟨j, L', hj, rfl, hR⟩ := hrel
    by_cases hlt : j < l.length
    · have hlt' : (j : Int) < l.length := by omega
      obtain ⟨x, hx⟩ : ∃ x, l[j]? = some x := ⟨_, List.getElem?_eq_getElem hlt⟩
      obtain ⟨g, d, rfl, hd, q0, q1, q2, hown⟩ := hR.out.told.at hx
      have hjl : (l.take j).length = j := by rw [List.length_take]; omega
      have hpt : Own wr 86 1 L'.fA j L'.fC (ptrsV L'.fb) := by have := hR.out.rdl.ptrs; simp only [St.begun, List.length_map, hjl] at this; exact this
      have hnw : Own wr 88 2 L'.nA j L'.nC (eVs (nowOf (l.take j))) := by have := hR.out.rdl.now; simp only [St.begun, nowOf_len, hjl] at this; exact this
      obtain ⟨xn, xd, xs⟩ := x
      have hcells : Hid (∀ W, Keep (fun k => bk L'.fA = some k) wr W → (W.cell? ⟨E, 1, none⟩ = some (.slice L'.fA j L'.fC) ∧ W.frozen? ⟨E, 1, none⟩ = false ∧ W.cell? ⟨g, j * 3 + 1, none⟩ = some (.slice d.1 xd.length d.2) ∧ W.cell? ⟨g, j * 3 + 2, none⟩ = some (.int .i64 xs))) := by
        intro W hW
        have hEW := (hW.block E (lt_blk hR.out.rdl.disk) (hpt.ne_blk hR.out.rdl.disk (by decide))).trans hR.out.rdl.disk
        have hgl : g < wr.heap.size := hR.out.told.lt g (.inl rfl)
        have hgn : ¬ bk L'.fA = some g := fun e => by
          obtain ⟨cs, t, hb, ht⟩ := hR.out.told.obj2 (k := g) (.inl rfl)
          exact hpt.ne_blk hb (by rcases ht with rfl | rfl <;> decide) e
        refine ⟨(cell_blk hEW 1).trans ?_, froz_blk hEW 1, (hW.cell (a := ⟨g, j * 3 + 1, none⟩) hgl hgn).trans q1, (hW.cell (a := ⟨g, j * 3 + 2, none⟩) hgl hgn).trans q2⟩
        simp [diskR, St.begun]; omega
      have Hx := Lib.hid hx
      have Hd := Lib.hid hd
      have Hown := Lib.hid hown
      have Hjl := Lib.hid hjl
      have Hpt := Lib.hid hpt
      have Hnw := Lib.hid hnw
      clear hx hd hown hjl hpt hnw q1 q2
      simp only at q0
      go_wp2_with fail
      refine wp_region_T (Keep (fun k => bk L'.fA = some k) wr) [(0, true), (1, true), (2, true), (3, true), (4, true), (5, true), (6, true), (7, true), (8, true), (9, true), (10, true), (11, true), (12, true), (13, true), (14, true), (15, true), (16, false), (17, false), (18, false), (19, true), (20, true), (21, false)] (by kernel_rfl) (by kernel_rfl) (Keep.refl _ _).drew ?_
      iterate 16
        (apply T_read rfl (by rfl)
         (· (intro W hW; have hc := hcells.out W hW; go_simp; try with_reducible rfl))
         (try simp only [Act.put, List.getElem_toArray, List.getElem_cons_succ, List.getElem_cons_zero, List.setIfInBounds_toArray, List.set_cons_zero, List.set_cons_succ]))
      refine T_do rfl (by rfl) (fun K hK => ?_)
      go_simp
      have hka : Keep No wr (wr.alloc (.cells #[.slice d.1 xd.length d.2, .int .i64 xs] 90)).drew := ((Keep.refl No wr).alloc _).drew
      refine hK _ _ (fun _ => hka.mono fun _ _ h => h.elim) ?_
      refine T_do rfl (by rfl) (fun K hK => ?_)
      go_simp
      have hkb : Keep No wr ((wr.alloc (.cells #[.slice d.1 xd.length d.2, .int .i64 xs] 90)).alloc (.cells #[.pointer (some ⟨wr.heap.size, 0, none⟩)] 86)).drew := (((Keep.refl No wr).alloc _).alloc _).drew
      refine hK _ _ (fun _ => hkb.mono fun _ _ h => h.elim) ?_
      have hbF : ((wr.alloc (.cells #[.slice d.1 xd.length d.2, .int .i64 xs] 90)).alloc (.cells #[.pointer (some ⟨wr.heap.size, 0, none⟩)] 86)).drew.heap[wr.heap.size]? = some (.cells #[.slice d.1 xd.length d.2, .int .i64 xs] 90 (0, 0)) := (alloc_old _ _ (by simp)).trans (alloc_new wr _)
      have hbP : ((wr.alloc (.cells #[.slice d.1 xd.length d.2, .int .i64 xs] 90)).alloc (.cells #[.pointer (some ⟨wr.heap.size, 0, none⟩)] 86)).drew.heap[wr.heap.size + 1]? = some (.cells #[.pointer (some ⟨wr.heap.size, 0, none⟩)] 86 (0, 0)) := by
        have h := alloc_new (wr.alloc (.cells #[.slice d.1 xd.length d.2, .int .i64 xs] 90)) (.cells #[.pointer (some ⟨wr.heap.size, 0, none⟩)] 86)
        rw [World.size_alloc] at h
        exact h
      have hsb : ((wr.alloc (.cells #[.slice d.1 xd.length d.2, .int .i64 xs] 90)).alloc (.cells #[.pointer (some ⟨wr.heap.size, 0, none⟩)] 86)).drew.heap.size = wr.heap.size + 2 := by simp
      have hO5 := Hpt.out.keep hkb fun _ _ h => h
      have hR5 : Rd ((wr.alloc (.cells #[.slice d.1 xd.length d.2, .int .i64 xs] 90)).alloc (.cells #[.pointer (some ⟨wr.heap.size, 0, none⟩)] 86)).drew (fun k => k = wr.heap.size + 1) (some ⟨wr.heap.size + 1, 0, none⟩) [.pointer (some ⟨wr.heap.size, 0, none⟩)] := fun _ => ⟨_, 0, rfl, rfl, Run.of_blk hbP⟩
      refine T_do rfl (by rfl) (fun K hK => ?_)
      refine wp_app (.tmp 29) (.tmp 42) 81 81 rfl hO5 Try.underlying81 info86 rfl (by omega) rfl rfl (src_rd (news := [.pointer (some ⟨wr.heap.size, 0, none⟩)]) (m := 1) Try.underlying81 hR5 rfl (by omega) (by intro u hu; simp at hu; rcases hu with rfl; rfl)) (by unfold maxLen; omega) (by omega) (fun A3 c3 w3 hO3 hK3 hA3 => ?_)
      have hk3 : Keep (fun k => bk L'.fA = some k) wr w3 := (hkb.mono fun _ _ h => h.elim).trans' (hK3.mono fun k _ e => e.symm)
      refine hK _ _ (fun _ => hk3) ?_
      (try simp only [Act.put, List.getElem_toArray, List.getElem_cons_succ, List.getElem_cons_zero, List.setIfInBounds_toArray, List.set_cons_zero, List.set_cons_succ])
      iterate 2
        (apply T_read rfl (by rfl)
         (· (intro W hW; have hc := hcells.out W hW; go_simp; try with_reducible rfl))
         (try simp only [Act.put, List.getElem_toArray, List.getElem_cons_succ, List.getElem_cons_zero, List.setIfInBounds_toArray, List.set_cons_zero, List.set_cons_succ]))
      obtain ⟨x1, xz1, _, _⟩ := hcells.out w3 hk3
      have hb3 : w3.heap[wr.heap.size]? = some (.cells (fileC (fvOf (xn, xd, xs)) d) 90 (0, 0)) := (hK3.block _ (by rw [hsb]; omega) (fun e => by have := Hpt.out.lt e.symm; omega)).trans hbF
      have hs3 := hK3.size
      rw [hsb] at hs3 hA3
      have hE3 : w3.heap[E]? = some (.cells (diskR (St.begun s.room ((l.take j).map fvOf) (nowOf (l.take j))) L') 85 (0, 0)) := (hk3.block E (lt_blk hR.out.rdl.disk) (Hpt.out.ne_blk hR.out.rdl.disk (by decide))).trans hR.out.rdl.disk
      have k34 := (Keep.refl (fun k => k = E) w3).setAt rfl 1 (.slice A3 (j + 1) c3)
      have k4 : Keep (fun k => k = E ∨ bk L'.fA = some k) wr (w3.setCell ⟨E, 1, none⟩ (.slice A3 (j + 1) c3)) := (hk3.mono fun _ _ e => .inr e).trans' (k34.mono fun _ _ e => .inl e)
      have hE4 := set_blk hE3 1 (.slice A3 (j + 1) c3)
      have hP4 := hO3.keep k34 fun k hk e => by subst e; exact hO3.ne_blk hE3 (by decide) hk
      have hnb : wr.heap.size ≠ E := fun e => by have := lt_blk hR.out.rdl.disk; omega
      have hb4 := (set_far (a := ⟨E, 1, none⟩) hnb (.slice A3 (j + 1) c3)).trans hb3
      have hO4 : Own (w3.setCell ⟨E, 1, none⟩ (.slice A3 (j + 1) c3)) 5 1 d.1 xd.length d.2 (BV xd) := Hown.out.keep k4 fun k hk e => by
        rcases e with e | e
        · subst e; exact Hown.out.ne_blk hR.out.rdl.disk (by decide) hk
        · exact Hown.out.ne Hpt.out (by decide) k hk e
      have h4 := hR.out.rdl.addFile2 (f := fvOf (xn, xd, xs)) (b := wr.heap.size) (d := d) (fA' := A3) (fC' := c3) k4 (by
        rw [hE4]
        simp only [diskR, St.begun, List.length_append, List.length_map, List.length_cons, List.length_nil, Hjl.out]
        rfl) (by rw [ptrsV_snoc]; simp only [St.begun, List.length_map, Hjl.out]; exact hP4) hb4 (Nat.le_refl _) hO4 (fun k hk y hy e => by
        rw [hR.out.fd] at hy
        obtain ⟨q, hq⟩ := List.mem_iff_getElem?.1 hy
        rw [List.getElem?_take] at hq
        split at hq
        · exact hR.out.told.apart j q d y (by omega) Hd.out hq k hk e
        · cases hq)
      have hT4 : Told (w3.setCell ⟨E, 1, none⟩ (.slice A3 (j + 1) c3)) l (some ⟨g, 0, none⟩) c ds := hR.out.told.keep k4 fun k hk e => by
        obtain ⟨cs, t, hb, ht⟩ := hR.out.told.obj2 hk
        rcases e with e | e
        · subst e; exact ne_type hb hR.out.rdl.disk (by rcases ht with rfl | rfl <;> decide) rfl
        · exact Hpt.out.ne_blk hb (by rcases ht with rfl | rfl <;> decide) e
      have k04 : Keep No w (w3.setCell ⟨E, 1, none⟩ (.slice A3 (j + 1) c3)) := hR.out.keep.trans k4 fun k hk e => by
        rcases e with e | e
        · have := (hR.out.new k (.inl e)).1; omega
        · have := (hR.out.new k (.inr (.inl e))).1; omega
      have hsr := hR.out.keep.size
      have hs4 := k34.size
      have f04 : ∀ k, footR E { L' with fA := A3, fC := c3, fb := L'.fb ++ [wr.heap.size], fd := L'.fd ++ [d] } k → New w (w3.setCell ⟨E, 1, none⟩ (.slice A3 (j + 1) c3)) k := by
        rintro k (e | e | e | e | e | e)
        · exact (hR.out.new k (.inl e)).sub (by omega)
        · rcases hA3 with rfl | ⟨rfl, h6⟩
          · exact (hR.out.new k (.inr (.inl e))).sub (by omega)
          · simp at e
            subst e
            exact ⟨by omega, by omega⟩
        · exact (hR.out.new k (.inr (.inr (.inl e)))).sub (by omega)
        · exact (hR.out.new k (.inr (.inr (.inr (.inl e))))).sub (by omega)
        · exact (hR.out.new k (.inr (.inr (.inr (.inr (.inl e)))))).sub (by omega)
        · rcases e with e | ⟨y, hy, e⟩
          · rcases List.mem_append.1 e with e | e
            · exact (hR.out.new k (.inr (.inr (.inr (.inr (.inr (.inl e))))))).sub (by omega)
            · simp at e
              subst e
              exact ⟨by omega, by omega⟩
          · rcases List.mem_append.1 hy with hy | hy
            · exact (hR.out.new k (.inr (.inr (.inr (.inr (.inr (.inr ⟨y, hy, e⟩))))))).sub (by omega)
            · simp at hy
              rw [hy] at e
              have h1 := HN1.out k (.inr ⟨d, List.mem_of_getElem? Hd.out, e⟩)
              have h2 := lt_blk hR.out.rdl.disk
              exact ⟨h1.1, by omega⟩
      have q0 : (w3.setCell ⟨E, 1, none⟩ (.slice A3 (j + 1) c3)).cell? ⟨g, j * 3, none⟩ = some (.string xn) := by
        obtain ⟨g2, d2, e2, _, q, _⟩ := hT4.at Hx.out
        cases e2
        exact q
      have hn4 : Own (w3.setCell ⟨E, 1, none⟩ (.slice A3 (j + 1) c3)) 88 2 L'.nA j L'.nC (eVs (nowOf (l.take j))) := by have := h4.now; simp only [St.begun, nowOf_len, Hjl.out] at this; exact this
      have H4 := Lib.hid h4
      have HT4 := Lib.hid hT4
      have K04 := Lib.hid k04
      have F04 := Lib.hid f04
      have Hn4 := Lib.hid hn4
      have Hfd := Lib.hid hR.out.fd
      clear hka hkb hbF hbP hO5 hR5 hO3 hK3 hk3 hb3 hE3 k34 k4 hE4 hP4 hb4 hO4 h4 hT4 k04 f04 hn4 hcells Hpt Hnw hnb hsb hA3 hR Hown
      refine T_do rfl (by rfl) (fun K hK => ?_)
      go_simp
      refine hK _ _ (fun h => absurd rfl h) (T_end ?_)
      generalize w3.setCell ⟨E, 1, none⟩ (.slice A3 (j + 1) c3) = w4 at *
      clear x1 xz1 hK hs3 hs4
      go_wp2_with fail
      have hcells : Hid (∀ W, Keep (fun k => bk L'.nA = some k) w4 W → (W.cell? ⟨E, 2, none⟩ = some (.slice L'.nA j L'.nC) ∧ W.frozen? ⟨E, 2, none⟩ = false ∧ W.cell? ⟨g, j * 3, none⟩ = some (.string xn))) := by
        intro W hW
        have hEW := (hW.block E (lt_blk H4.out.disk) (Hn4.out.ne_blk H4.out.disk (by decide))).trans H4.out.disk
        have hgl : g < w4.heap.size := HT4.out.lt g (.inl rfl)
        have hgn : ¬ bk L'.nA = some g := fun e => by
          obtain ⟨cs, t, hb, ht⟩ := HT4.out.obj2 (k := g) (.inl rfl)
          exact Hn4.out.ne_blk hb (by rcases ht with rfl | rfl <;> decide) e
        refine ⟨(cell_blk hEW 2).trans ?_, froz_blk hEW 2, (hW.cell (a := ⟨g, j * 3, none⟩) hgl hgn).trans q0⟩
        simp [diskR, St.begun, nowOf_len, Hjl.out]
      refine wp_region_T (Keep (fun k => bk L'.nA = some k) w4) [(0, true), (1, true), (2, true), (3, true), (4, true), (5, true), (6, true), (7, true), (8, true), (9, true), (10, true), (11, true), (12, false), (13, false), (14, true), (15, true), (16, false)] (by kernel_rfl) (by kernel_rfl) (Keep.refl _ _).drew ?_
      iterate 12
        (apply T_read rfl (by rfl)
         (· (intro W hW; have hc := hcells.out W hW; go_simp; try with_reducible rfl))
         (try simp only [Act.put, List.getElem_toArray, List.getElem_cons_succ, List.getElem_cons_zero, List.setIfInBounds_toArray, List.set_cons_zero, List.set_cons_succ]))
      refine T_do rfl (by rfl) (fun K hK => ?_)
      go_simp
      have hka : Keep No w4 (w4.alloc (.cells #[.string xn, .int .i64 j] 88)).drew := ((Keep.refl No w4).alloc _).drew
      refine hK _ _ (fun _ => hka.mono fun _ _ h => h.elim) ?_
      have hO5 := Hn4.out.keep hka fun _ _ h => h
      have hR5 : Rd (w4.alloc (.cells #[.string xn, .int .i64 j] 88)).drew (fun k => k = w4.heap.size) (some ⟨w4.heap.size, 0, none⟩) [.string xn, .int .i64 j] := fun _ => ⟨_, 0, rfl, rfl, Run.of_blk (w := (w4.alloc (.cells #[.string xn, .int .i64 j] 88)).drew) (alloc_new w4 (.cells #[.string xn, .int .i64 j] 88))⟩
      have hsb : (w4.alloc (.cells #[.string xn, .int .i64 j] 88)).drew.heap.size = w4.heap.size + 1 := by simp
      refine T_do rfl (by rfl) (fun K hK => ?_)
      refine wp_app (.tmp 50) (.tmp 58) 82 82 rfl hO5 Try.underlying82 info88 rfl (by omega) rfl rfl (src_rd (news := [.string xn, .int .i64 j]) (m := 1) Try.underlying82 hR5 rfl (by omega) (by intro u hu; simp at hu; rcases hu with rfl | rfl <;> rfl)) (by unfold maxLen; omega) (by omega) (fun A6 c6 w6 hO6 hK6 hA6 => ?_)
      have hk6 : Keep (fun k => bk L'.nA = some k) w4 w6 := (hka.mono fun _ _ h => h.elim).trans' (hK6.mono fun k _ e => e.symm)
      refine hK _ _ (fun _ => hk6) ?_
      (try simp only [Act.put, List.getElem_toArray, List.getElem_cons_succ, List.getElem_cons_zero, List.setIfInBounds_toArray, List.set_cons_zero, List.set_cons_succ])
      iterate 2
        (apply T_read rfl (by rfl)
         (· (intro W hW; have hc := hcells.out W hW; go_simp; try with_reducible rfl))
         (try simp only [Act.put, List.getElem_toArray, List.getElem_cons_succ, List.getElem_cons_zero, List.setIfInBounds_toArray, List.set_cons_zero, List.set_cons_succ]))
      obtain ⟨x2, xz2, _⟩ := hcells.out w6 hk6
      have hs6 := hK6.size
      rw [hsb] at hs6 hA6
      have hE6 := (hk6.block E (lt_blk H4.out.disk) (Hn4.out.ne_blk H4.out.disk (by decide))).trans H4.out.disk
      have k67 := (Keep.refl (fun k => k = E) w6).setAt rfl 2 (.slice A6 (j + 1) c6)
      have k7 : Keep (fun k => k = E ∨ bk L'.nA = some k) w4 (w6.setCell ⟨E, 2, none⟩ (.slice A6 (j + 1) c6)) := (hk6.mono fun _ _ e => .inr e).trans' (k67.mono fun _ _ e => .inl e)
      have hE7 := set_blk hE6 2 (.slice A6 (j + 1) c6)
      have hO7 := hO6.keep k67 fun k hk e => by subst e; exact hO6.ne_blk hE6 (by decide) hk
      have hnow : nowOf (l.take (j + 1)) = nowOf (l.take j) ++ [(xn, j)] := by rw [take_snoc Hx.out, nowOf_snoc, Hjl.out]
      have hfil : (l.take (j + 1)).map fvOf = (l.take j).map fvOf ++ [fvOf (xn, xd, xs)] := by rw [take_snoc Hx.out, List.map_append]; rfl
      have hnl : (nowOf (l.take (j + 1))).length = j + 1 := by rw [hnow, List.length_append, nowOf_len, Hjl.out]; rfl
      have h7 := H4.out.reNow (s' := St.begun s.room ((l.take (j + 1)).map fvOf) (nowOf (l.take (j + 1)))) (nA' := A6) (nC' := c6) k7 (by
        rw [hE7]
        simp only [diskR, St.begun, hnl]
        simp only [hfil]
        rfl) (by
        simp only [St.begun, hnl]
        rw [hnow, eVs_app]
        exact hO7) (fun k hk => by
        rcases hA6 with rfl | ⟨rfl, h6⟩
        · exact .inl hk
        · simp only [bk_some, Option.some.injEq] at hk
          subst hk
          exact .inr (by simp)) hfil rfl rfl
      have hT7 : Told (w6.setCell ⟨E, 2, none⟩ (.slice A6 (j + 1) c6)) l (some ⟨g, 0, none⟩) c ds := HT4.out.keep k7 fun k hk e => by
        obtain ⟨cs, t, hb, ht⟩ := HT4.out.obj2 hk
        rcases e with e | e
        · subst e; exact ne_type hb H4.out.disk (by rcases ht with rfl | rfl <;> decide) rfl
        · exact Hn4.out.ne_blk hb (by rcases ht with rfl | rfl <;> decide) e
      have k07 : Keep No w (w6.setCell ⟨E, 2, none⟩ (.slice A6 (j + 1) c6)) := K04.out.trans k7 fun k hk e => by
        rcases e with e | e
        · have := (F04.out k (.inl e)).1; omega
        · have := (F04.out k (.inr (.inr (.inl e)))).1; omega
      have hs7 := k67.size
      have hs04 := K04.out.size
      have f07 : ∀ k, footR E { L' with fA := A3, fC := c3, fb := L'.fb ++ [wr.heap.size], fd := L'.fd ++ [d], nA := A6, nC := c6 } k → New w (w6.setCell ⟨E, 2, none⟩ (.slice A6 (j + 1) c6)) k := by
        rintro k (e | e | e | e | e | e)
        · exact (F04.out k (.inl e)).sub (by omega)
        · exact (F04.out k (.inr (.inl e))).sub (by omega)
        · rcases hA6 with rfl | ⟨rfl, h6⟩
          · exact (F04.out k (.inr (.inr (.inl e)))).sub (by omega)
          · simp only [bk_some, Option.some.injEq] at e
            subst e
            exact ⟨by omega, by omega⟩
        · exact (F04.out k (.inr (.inr (.inr (.inl e))))).sub (by omega)
        · exact (F04.out k (.inr (.inr (.inr (.inr (.inl e)))))).sub (by omega)
        · exact (F04.out k (.inr (.inr (.inr (.inr (.inr e)))))).sub (by omega)
      have hfd7 : L'.fd ++ [d] = ds.take (j + 1) := by rw [Hfd.out, take_snoc Hd.out]
      have HRel : Hid (FallI w (w6.setCell ⟨E, 2, none⟩ (.slice A6 (j + 1) c6)) E s.room l (some ⟨g, 0, none⟩) c ds (j + 1) { L' with fA := A3, fC := c3, fb := L'.fb ++ [wr.heap.size], fd := L'.fd ++ [d], nA := A6, nC := c6 }) := ⟨h7, hT7, k07, f07, hfd7⟩
      clear hka hO5 hR5 hsb hO6 hK6 hA6 hk6 hs6 hE6 k67 k7 hE7 hO7 hnow hfil hnl h7 hT7 k07 f07 hfd7 hcells
      refine T_do rfl (by rfl) (fun K hK => ?_)
      go_simp
      refine hK _ _ (fun h => absurd rfl h) (T_end ?_)
      generalize w6.setCell ⟨E, 2, none⟩ (.slice A6 (j + 1) c6) = w7 at *
      clear x2 xz2
      go_wp2_with fail
      go_roundw
      case rel => exact ⟨j + 1, _, by omega, by go_num, HRel⟩
      case measure => simp [RowKit.intOf]; omega
    · obtain rfl : j = l.length := by omega
      have hR1 := hR.out.rdl
      rw [List.take_length] at hR1
      have c2 : wr.cell? ⟨E, 2, none⟩ = some (.slice L'.nA (nowOf l).length L'.nC) := hR1.cell 2 rfl
      have htw := twin_any (d := nowOf l) (c := L'.nC) hR1.now.rd (by rw [nowOf_len]; omega)
      have hll : (nowOf l).length = l.length := nowOf_len l
      have Htw := Lib.hid htw
      have HR1 := Lib.hid hR1
      have hEl : Hid (E < wr.heap.size) := lt_blk hR1.disk
      have Hll := Lib.hid hll
      clear htw hR1 hll
      go_wp2_with fail
      refine Htw.out.mono ?_
      rintro e w2 ⟨A2, c2', rfl, hO2, hk2, hn2⟩
      have h2 := HR1.out.keepNo hk2
      have hE2 := h2.disk
      have hne : E ≠ D := by have := (hR.out.new E (.inl rfl)).1; omega
      have hz3 : w2.frozen? ⟨E, 3, none⟩ = false := froz_blk hE2 3
      have e3 : w2.cell? ⟨E, 3, none⟩ = some (.slice L'.sA 0 L'.sC) := h2.cell 3 rfl
      have h8 := h2.reSure (s' := { St.begun s.room (l.map fvOf) (nowOf l) with sure := nowOf l }) (sA' := A2) (sC' := c2') ((Keep.refl (fun k => k = E) w2).setAt rfl 3 (.slice A2 (nowOf l).length c2')) (by
        rw [set_blk hE2 3 (.slice A2 (nowOf l).length c2')]
        rfl) (hO2.keep ((Keep.refl (fun k => k = E) w2).setAt rfl 3 (.slice A2 (nowOf l).length c2')) fun k hk e => by subst e; exact hO2.ne_blk hE2 (by decide) hk) (fun k hk e => by
        have h3 := (hn2 k e).1
        have h4 := HR1.out.now.lt hk
        omega) rfl rfl rfl
      have hD2 : w2.heap[D]? = some (.cells (diskR s L) 85 (0, 0)) := ((hR.out.keep.trans' hk2).block D hDlt id).trans H.out.disk
      have hD8 : (w2.setCell ⟨E, 3, none⟩ (.slice A2 (nowOf l).length c2')).heap[D]? = some (.cells (diskR s L) 85 (0, 0)) := (set_far (a := ⟨E, 3, none⟩) hne.symm _).trans hD2
      have k08 : Keep No w (w2.setCell ⟨E, 3, none⟩ (.slice A2 (nowOf l).length c2')) := (hR.out.keep.trans' hk2).setNew (hR.out.new E (.inl rfl)).1 3 _
      have hz8 : (w2.setCell ⟨E, 3, none⟩ (.slice A2 (nowOf l).length c2')).heap.size = w2.heap.size := by simp [World.setCell]
      have hs2 := hk2.size
      have hsr := hR.out.keep.size
      have hel := hEl.out
      have f08 : ∀ k, footR E { L' with sA := A2, sC := c2' } k → New w (w2.setCell ⟨E, 3, none⟩ (.slice A2 (nowOf l).length c2')) k := by
        rintro k (e | e | e | e | e | e)
        · exact (hR.out.new k (.inl e)).sub (by omega)
        · exact (hR.out.new k (.inr (.inl e))).sub (by omega)
        · exact (hR.out.new k (.inr (.inr (.inl e)))).sub (by omega)
        · have h3 := hn2 k e
          exact ⟨by have := h3.1; omega, by have := h3.2; omega⟩
        · exact (hR.out.new k (.inr (.inr (.inr (.inr (.inl e)))))).sub (by omega)
        · exact (hR.out.new k (.inr (.inr (.inr (.inr (.inr e)))))).sub (by omega)
      have e0 : (w2.setCell ⟨E, 3, none⟩ (.slice A2 (nowOf l).length c2')).cell? ⟨E, 0, none⟩ = some (.int .i64 s.room) := (h8.cell 0 rfl)
      have d0 : (w2.setCell ⟨E, 3, none⟩ (.slice A2 (nowOf l).length c2')).cell? ⟨D, 0, none⟩ = some (.int .i64 s.room) := (cell_blk hD8 0).trans rfl
      have z0 : (w2.setCell ⟨E, 3, none⟩ (.slice A2 (nowOf l).length c2')).frozen? ⟨D, 0, none⟩ = false := froz_blk hD8 0
      have e1 : (w2.setCell ⟨E, 3, none⟩ (.slice A2 (nowOf l).length c2')).cell? ⟨E, 1, none⟩ = some (.slice L'.fA l.length L'.fC) := (h8.cell 1 rfl).trans (by simp [diskR, St.begun])
      have d1 : (w2.setCell ⟨E, 3, none⟩ (.slice A2 (nowOf l).length c2')).cell? ⟨D, 1, none⟩ = some (.slice L.fA s.files.length L.fC) := (cell_blk hD8 1).trans rfl
      have z1 : (w2.setCell ⟨E, 3, none⟩ (.slice A2 (nowOf l).length c2')).frozen? ⟨D, 1, none⟩ = false := froz_blk hD8 1
      have e2 : (w2.setCell ⟨E, 3, none⟩ (.slice A2 (nowOf l).length c2')).cell? ⟨E, 2, none⟩ = some (.slice L'.nA (nowOf l).length L'.nC) := (h8.cell 2 rfl)
      have d2 : (w2.setCell ⟨E, 3, none⟩ (.slice A2 (nowOf l).length c2')).cell? ⟨D, 2, none⟩ = some (.slice L.nA s.now.length L.nC) := (cell_blk hD8 2).trans rfl
      have z2 : (w2.setCell ⟨E, 3, none⟩ (.slice A2 (nowOf l).length c2')).frozen? ⟨D, 2, none⟩ = false := froz_blk hD8 2
      have e3 : (w2.setCell ⟨E, 3, none⟩ (.slice A2 (nowOf l).length c2')).cell? ⟨E, 3, none⟩ = some (.slice A2 (nowOf l).length c2') := (h8.cell 3 rfl)
      have d3 : (w2.setCell ⟨E, 3, none⟩ (.slice A2 (nowOf l).length c2')).cell? ⟨D, 3, none⟩ = some (.slice L.sA s.sure.length L.sC) := (cell_blk hD8 3).trans rfl
      have z3 : (w2.setCell ⟨E, 3, none⟩ (.slice A2 (nowOf l).length c2')).frozen? ⟨D, 3, none⟩ = false := froz_blk hD8 3
      have e4 : (w2.setCell ⟨E, 3, none⟩ (.slice A2 (nowOf l).length c2')).cell? ⟨E, 4, none⟩ = some (.slice L'.cA 0 L'.cC) := (h8.cell 4 rfl)
      have d4 : (w2.setCell ⟨E, 3, none⟩ (.slice A2 (nowOf l).length c2')).cell? ⟨D, 4, none⟩ = some (.slice L.cA s.changes.length L.cC) := (cell_blk hD8 4).trans rfl
      have z4 : (w2.setCell ⟨E, 3, none⟩ (.slice A2 (nowOf l).length c2')).frozen? ⟨D, 4, none⟩ = false := froz_blk hD8 4
      have e5 : (w2.setCell ⟨E, 3, none⟩ (.slice A2 (nowOf l).length c2')).cell? ⟨E, 5, none⟩ = some (.int .i64 0) := (h8.cell 5 rfl)
      have d5 : (w2.setCell ⟨E, 3, none⟩ (.slice A2 (nowOf l).length c2')).cell? ⟨D, 5, none⟩ = some (.int .i64 s.left) := (cell_blk hD8 5).trans rfl
      have z5 : (w2.setCell ⟨E, 3, none⟩ (.slice A2 (nowOf l).length c2')).frozen? ⟨D, 5, none⟩ = false := froz_blk hD8 5
      have e6 : (w2.setCell ⟨E, 3, none⟩ (.slice A2 (nowOf l).length c2')).cell? ⟨E, 6, none⟩ = some (.int .i64 0) := (h8.cell 6 rfl)
      have d6 : (w2.setCell ⟨E, 3, none⟩ (.slice A2 (nowOf l).length c2')).cell? ⟨D, 6, none⟩ = some (.int .i64 s.well) := (cell_blk hD8 6).trans rfl
      have z6 : (w2.setCell ⟨E, 3, none⟩ (.slice A2 (nowOf l).length c2')).frozen? ⟨D, 6, none⟩ = false := froz_blk hD8 6
      have e7 : (w2.setCell ⟨E, 3, none⟩ (.slice A2 (nowOf l).length c2')).cell? ⟨E, 7, none⟩ = some (.int .i64 0) := (h8.cell 7 rfl)
      have d7 : (w2.setCell ⟨E, 3, none⟩ (.slice A2 (nowOf l).length c2')).cell? ⟨D, 7, none⟩ = some (.int .i64 s.fails) := (cell_blk hD8 7).trans rfl
      have z7 : (w2.setCell ⟨E, 3, none⟩ (.slice A2 (nowOf l).length c2')).frozen? ⟨D, 7, none⟩ = false := froz_blk hD8 7
      have e8 : (w2.setCell ⟨E, 3, none⟩ (.slice A2 (nowOf l).length c2')).cell? ⟨E, 8, none⟩ = some (.int .i64 0) := (h8.cell 8 rfl)
      have d8 : (w2.setCell ⟨E, 3, none⟩ (.slice A2 (nowOf l).length c2')).cell? ⟨D, 8, none⟩ = some (.int .i64 s.part) := (cell_blk hD8 8).trans rfl
      have z8 : (w2.setCell ⟨E, 3, none⟩ (.slice A2 (nowOf l).length c2')).frozen? ⟨D, 8, none⟩ = false := froz_blk hD8 8
      have e9 : (w2.setCell ⟨E, 3, none⟩ (.slice A2 (nowOf l).length c2')).cell? ⟨E, 9, none⟩ = some (.bool false) := (h8.cell 9 rfl)
      have d9 : (w2.setCell ⟨E, 3, none⟩ (.slice A2 (nowOf l).length c2')).cell? ⟨D, 9, none⟩ = some (.bool s.down) := (cell_blk hD8 9).trans rfl
      have z9 : (w2.setCell ⟨E, 3, none⟩ (.slice A2 (nowOf l).length c2')).frozen? ⟨D, 9, none⟩ = false := froz_blk hD8 9
      have H8 := Lib.hid h8
      have HD8 := Lib.hid hD8
      have K08 := Lib.hid k08
      have F08 := Lib.hid f08
      clear h8 hD8 k08 f08 hz8 hD2 hE2 h2 hn2 hO2 hk2 hs2 hsr hel
      go_wp2_with fail
      go_end0
      have kD := (((((((((((Keep.refl (fun k => k = D) (w2.setCell ⟨E, 3, none⟩ (.slice A2 (nowOf l).length c2'))).setAt rfl 0 (.int .i64 s.room)).setAt rfl 1 (.slice L'.fA l.length L'.fC)).setAt rfl 2 (.slice L'.nA (nowOf l).length L'.nC)).setAt rfl 3 (.slice A2 (nowOf l).length c2')).setAt rfl 4 (.slice L'.cA 0 L'.cC)).setAt rfl 5 (.int .i64 0)).setAt rfl 6 (.int .i64 0)).setAt rfl 7 (.int .i64 0)).setAt rfl 8 (.int .i64 0)).setAt rfl 9 (.bool false))
      have hbD := (set_blk (set_blk (set_blk (set_blk (set_blk (set_blk (set_blk (set_blk (set_blk (set_blk HD8.out 0 (.int .i64 s.room)) 1 (.slice L'.fA l.length L'.fC)) 2 (.slice L'.nA (nowOf l).length L'.nC)) 3 (.slice A2 (nowOf l).length c2')) 4 (.slice L'.cA 0 L'.cC)) 5 (.int .i64 0)) 6 (.int .i64 0)) 7 (.int .i64 0)) 8 (.int .i64 0)) 9 (.bool false))
      have harr : (((((((((((diskR s L).setIfInBounds 0 (.int .i64 s.room)).setIfInBounds 1 (.slice L'.fA l.length L'.fC)).setIfInBounds 2 (.slice L'.nA (nowOf l).length L'.nC)).setIfInBounds 3 (.slice A2 (nowOf l).length c2')).setIfInBounds 4 (.slice L'.cA 0 L'.cC)).setIfInBounds 5 (.int .i64 0)).setIfInBounds 6 (.int .i64 0)).setIfInBounds 7 (.int .i64 0)).setIfInBounds 8 (.int .i64 0)).setIfInBounds 9 (.bool false)) = diskR { St.begun s.room (l.map fvOf) (nowOf l) with sure := nowOf l } { L' with sA := A2, sC := c2' } := by
        simp only [diskR, St.begun, List.setIfInBounds_toArray, List.set_cons_zero, List.set_cons_succ, List.length_nil, List.length_map]
        rfl
      rw [harr] at hbD
      have hmv := H8.out.move kD hbD (fun k hk e => by
        have h3 := (F08.out k (.inr hk)).1
        omega)
      rw [hfin.out]
      refine ⟨rfl, _, hmv, (K08.out.mono fun _ _ h => h.elim).trans' (kD.mono fun _ _ e => .inl e), fun k hk => ?_⟩
      have hsD := kD.size
      rcases hk with e | e
      · exact .inl (.inl e)
      · have h3 := F08.out k (.inr e)
        exact .inr ⟨h3.1, by have := h3.2; omega⟩

end Go.Dx

namespace Go.Dx
open Go.RowKit Go.Proofs

/-- What the document's New has come to. -/
def NewRR (w : World) (room : Int) (l : List FI) (e : Ending) (w' : World) : Prop :=
  (¬ newOk room l ∧ e = .returned (.tuple #[.pointer none, .int .i64 36]) ∧ Keep No w w') ∨
  (newOk room l ∧ ∃ D L, e = .returned (.tuple #[.pointer (some ⟨D, 0, none⟩), .int .i64 0]) ∧ RDL w' D (St.mkI room l) L ∧ Keep No w w' ∧ ∀ k, footR D L k → New w w' k)

def fvI (x : FI) : FV := fvOf (toN x)
structure NewI (w wr : World) (E rm : Nat) (l : List FI) (j : Nat) (L : RL) : Prop where
  rdl : RDL wr E (St.begun rm ((l.take j).map fvI) (insUp (l.take j))) L
  keep : Keep No w wr
  new : ∀ k, footR E L k → New w wr k
  ok : okFs (l.take j)
theorem NewI.step {w wr wr' : World} {E rm : Nat} {l : List FI} {j : Nat} {L : RL} (h : NewI w wr E rm l j L) (k : Keep No wr wr') : NewI w wr' E rm l j L :=
  ⟨h.rdl.keepNo k, h.keep.trans' k, fun q hq => (h.new q hq).sub k.size, h.ok⟩
theorem okFs_snoc {l : List FI} {j : Nat} {x : FI} (h : okFs (l.take j)) (hx : l[j]? = some x) (ho : okF (l.take j) x) : okFs (l.take (j + 1)) := by
  intro q y hy
  rw [List.getElem?_take] at hy
  split at hy
  · rename_i hq
    have e : (l.take (j + 1)).take q = (l.take j).take q := by rw [List.take_take, List.take_take, Nat.min_eq_left (by omega), Nat.min_eq_left (by omega)]
    rw [e]
    by_cases hqj : q = j
    · subst hqj
      rw [hx] at hy
      cases hy
      rw [List.take_take, Nat.min_self]
      exact ho
    · exact h q y (by rw [List.getElem?_take, if_pos (by omega)]; exact hy)
  · cases hy
theorem okFs_at {room : Int} {l : List FI} {j : Nat} {x : FI} (h : newOk room l) (hx : l[j]? = some x) : okF (l.take j) x := h.2.2.1 j x hx

set_option maxRecDepth 100000 in
set_option maxHeartbeats 16000000 in
theorem newR_any {w : World} (room : Int) (hr63 : room < 9223372036854775808) {S : Nat → Prop} {A : Option Addr} {c : Nat} {l : List FI} {fa : List (Option Addr × Nat)} (ha : ArgF w S A l fa) (hl63 : l.length < 9223372036854775808) :
    Calls Try.prog 39 #[.int .i64 room, .slice A l.length c] w (NewRR w room l) := by
  have HA := Lib.hid ha
  clear ha
  by_cases hro : room < 0
  · have hno : Hid (¬ newOk room l) := fun h => by have := h.1; omega
    go_enter Try.func39, Try.ntmps39
    go_wp2_with fail
    go_ret2
    exact .inl ⟨hno.out, rfl, Keep.refl No w⟩
  · have hro' : (0 : Int) ≤ room := by omega
    by_cases hlen : 8388608 < l.length
    · have hno : Hid (¬ newOk room l) := fun h => by have := h.2.1; omega
      have hlen' : decide ((8388608 : Int) < l.length) = true := decide_eq_true (by omega)
      go_enter Try.func39, Try.ntmps39
      go_wp2_with fail
      go_ret2
      exact .inl ⟨hno.out, rfl, Keep.refl No w⟩
    · have hlen' : decide ((8388608 : Int) < l.length) = false := decide_eq_false (by omega)
      have hlen2 : l.length ≤ 8388608 := by omega
      obtain ⟨rm, hrm⟩ : ∃ rm : Nat, (rm : Int) = room := ⟨room.toNat, Int.toNat_of_nonneg hro'⟩
      have HS : Hid (NewI w (w.alloc (.cells #[.int .i64 room, .slice none 0 0, .slice none 0 0, .slice none 0 0, .slice none 0 0, .int .i64 0, .int .i64 0, .int .i64 0, .int .i64 0, .bool false] 85)) w.heap.size rm l 0 RL.nil) := by
        rw [← hrm]
        refine ⟨RDL.fresh (alloc_new w _), (Keep.refl No w).alloc _, ?_, fun q y hy => by simp at hy⟩
        rintro k (e | e | e | e | e | e)
        · subst e; exact ⟨Nat.le_refl _, by simp⟩
        · simp [RL.nil] at e
        · simp [RL.nil] at e
        · simp [RL.nil] at e
        · simp [RL.nil] at e
        · rcases e with e | ⟨x, hx, _⟩
          · simp [RL.nil] at e
          · simp [RL.nil] at hx
      have Hlen2 := Lib.hid hlen2
      have Hrm := Lib.hid hrm
      clear hro hlen hlen2 hrm
      go_enter Try.func39, Try.ntmps39
      go_wp2_with fail
      have hlen2 := Hlen2.out
      obtain rfl := Hrm.out
      go_loopw [7, 8] (fun v i wr => ∃ (j : Nat) (L' : RL), j ≤ l.length ∧ v = .int .i64 (sumF (l.take j)) ∧ i = .int .i64 j ∧ Hid (NewI w wr w.heap.size rm l j L')) (fun _ i _ => l.length - (RowKit.intOf i).toNat)
      case atStart => exact ⟨0, RL.nil, Nat.zero_le _, rfl, rfl, HS⟩
      case round =>
        clear HS hlen'
        obtain ⟨j, L', hj, rfl, rfl, hR⟩ := hrel
        by_cases hlt : j < l.length
        · have hlt' : (j : Int) < l.length := by omega
          obtain ⟨x, hx⟩ : ∃ x, l[j]? = some x := ⟨_, List.getElem?_eq_getElem hlt⟩
          have hAr := HA.out.keep hR.out.keep fun _ _ h => h
          obtain ⟨b, o, d, rfl, hSb, hd, q0, q1, q2, hArg⟩ := hAr.at hx
          obtain ⟨xn, xd, xs⟩ := x
          have hnm := HA.out.name _ (List.mem_of_getElem? hx)
          simp only at q0 q1 q2 hArg hnm
          have hok := fun W => okB_any xn W hnm
          have hmx := hArg.max
          have hka : Keep No wr (wr.alloc (.cells #[.string xn, .slice d.1 xd.length d.2, .int .i64 xs] 60)) := (Keep.refl No wr).alloc _
          have hnew : (wr.alloc (.cells #[.string xn, .slice d.1 xd.length d.2, .int .i64 xs] 60)).heap[wr.heap.size]? = some (.cells #[.string xn, .slice d.1 xd.length d.2, .int .i64 xs] 60 (0, 0)) := alloc_new wr _
          have hRa := hR.out.step hka
          have hArga := hArg.keep hka fun _ _ h => h
          have Hok := Lib.hid hok
          have Hx := Lib.hid hx
          have HArg := Lib.hid hArga
          have HRa := Lib.hid hRa
          have Hnew := Lib.hid hnew
          clear hx hd hArg hArga hAr hR hRa hok hka hnew
          go_wp2_with fail
          have f0 := (cell_blk Hnew.out 0).trans (show _ = some (Value.string xn) from rfl)
          have f1 := (cell_blk Hnew.out 1).trans (show _ = some (Value.slice d.1 xd.length d.2) from rfl)
          have f2 := (cell_blk Hnew.out 2).trans (show _ = some (Value.int .i64 xs) from rfl)
          have hlf : wr.heap.size < (wr.alloc (.cells #[.string xn, .slice d.1 xd.length d.2, .int .i64 xs] 60)).heap.size := lt_blk Hnew.out
          generalize wr.alloc (.cells #[.string xn, .slice d.1 xd.length d.2, .int .i64 xs] 60) = wa at *
          generalize wr.heap.size = fv at *
          clear q0 q1 q2
          cases hrt : right xn with
          | false =>
            have hno : Hid (¬ newOk rm l) := fun h => by have := (okFs_at h Hx.out).1; simp only [hrt] at this; cases this
            have hok := Hok.out wa
            rw [hrt] at hok
            have Hok2 := Lib.hid hok
            clear hrt hok
            refine Hok2.out.mono ?_
            rintro e w1 ⟨rfl, rfl⟩
            go_wp2_with fail
            go_ret2
            exact .inl ⟨hno.out, rfl, HRa.out.keep⟩
          | true =>
            have hok := Hok.out wa
            rw [hrt] at hok
            have Hok2 := Lib.hid hok
            clear hok
            by_cases hx3 : 2147483648 < xd.length
            · have hno : Hid (¬ newOk rm l) := fun h => by have := (okFs_at h Hx.out).2.2.1; simp only at this; omega
              have t3 : decide ((2147483648 : Int) < xd.length) = true := decide_eq_true (by omega)
              clear hrt hx3
              refine Hok2.out.mono ?_
              rintro e w1 ⟨rfl, rfl⟩
              go_wp2_with fail
              go_ret2
              exact .inl ⟨hno.out, rfl, HRa.out.keep⟩
            · have t3 : decide ((2147483648 : Int) < xd.length) = false := decide_eq_false (by omega)
              have Hx3 : Hid (xd.length ≤ 2147483648) := by unfold Hid; omega
              clear hx3
              by_cases hx4 : xs < 0
              · have hno : Hid (¬ newOk rm l) := fun h => by have := (okFs_at h Hx.out).2.2.2.1; simp only at this; omega
                clear hrt
                refine Hok2.out.mono ?_
                rintro e w1 ⟨rfl, rfl⟩
                go_wp2_with fail
                go_ret2
                exact .inl ⟨hno.out, rfl, HRa.out.keep⟩
              · have hx4' : (0 : Int) ≤ xs := by omega
                by_cases hx5 : (xd.length : Int) < xs
                · have hno : Hid (¬ newOk rm l) := fun h => by have := (okFs_at h Hx.out).2.2.2.2; simp only at this; omega
                  clear hrt hx4
                  refine Hok2.out.mono ?_
                  rintro e w1 ⟨rfl, rfl⟩
                  go_wp2_with fail
                  go_ret2
                  exact .inl ⟨hno.out, rfl, HRa.out.keep⟩
                · have hx5' : xs ≤ (xd.length : Int) := by omega
                  have t4 : decide (xs < 0) = false := decide_eq_false hx4
                  have t5 : decide ((xd.length : Int) < xs) = false := decide_eq_false hx5
                  have Hx4 := Lib.hid hx4'
                  have Hx5 := Lib.hid hx5'
                  clear hx4 hx5 hx4' hx5'
                  refine Hok2.out.mono ?_
                  rintro e w1 ⟨rfl, rfl⟩
                  go_wp2_with fail
                  have hx4' := Hx4.out
                  have hx5' := Hx5.out
                  clear t4 t5 Hx4 Hx5
                  obtain ⟨m, rfl⟩ := Int.eq_ofNat_of_zero_le hx4'
                  have hsd := insUp_sd l j hj
                  have hil := insUp_length l j hj
                  have e2 : wa.cell? ⟨w.heap.size, 2, none⟩ = some (.slice L'.nA (insUp (l.take j)).length L'.nC) := HRa.out.rdl.cell 2 rfl
                  have hfi := fun m2 => find_any (w := wa.drewN m2) (d := insUp (l.take j)) (HRa.out.rdl.keepNo ((Keep.refl No wa).drewN m2)).now.rd hsd (by omega) L'.nC xn
                  have hge := insUp_get l xn j hj
                  have Hfi := Lib.hid hfi
                  have Hsd := Lib.hid hsd
                  have Hge := Lib.hid hge
                  have Hil := Lib.hid hil
                  have Hrt := Lib.hid hrt
                  clear hfi hsd hge hil hrt t3 Hok Hok2
                  go_quiet ((go_at_call 65; exact Calls.quiet_of (Hfi.out _)))
                  have kq : Keep No wa (wa.drewN nq) := (Keep.refl No wa).drewN nq
                  have HRq := Lib.hid (HRa.out.step kq)
                  have HArgq := Lib.hid (HArg.out.keep kq fun _ _ h => h)
                  have f0 : (wa.drewN nq).cell? ⟨fv, 0, none⟩ = some (.string xn) := f0
                  have f1 : (wa.drewN nq).cell? ⟨fv, 1, none⟩ = some (.slice d.1 xd.length d.2) := f1
                  have f2 : (wa.drewN nq).cell? ⟨fv, 2, none⟩ = some (.int .i64 m) := f2
                  have Hnewq : Hid ((wa.drewN nq).heap[fv]? = some (.cells #[.string xn, .slice d.1 xd.length d.2, .int .i64 m] 60 (0, 0))) := Hnew.out
                  clear kq e2 Hfi HRa HArg Hnew hlf
                  generalize wa.drewN nq = wb at *
                  cases hgt : (get (insUp (l.take j)) xn).isSome with
                  | true =>
                    have hno : Hid (¬ newOk rm l) := fun h => by
                      obtain ⟨y, hy, e⟩ := Hge.out.1 hgt
                      exact (okFs_at h Hx.out).2.1 y hy e
                    clear hgt
                    go_wp2_with fail
                    go_ret2
                    exact .inl ⟨hno.out, rfl, HRq.out.keep⟩
                  | false =>
                    have hokj : Hid (okF (l.take j) (xn, xd, (m : Int))) := ⟨Hrt.out, (fun y hy e => by
                      have := Hge.out.2 ⟨y, hy, e⟩
                      rw [hgt] at this; cases this), Hx3.out, hx4', hx5'⟩
                    have Hgt := Lib.hid hgt
                    clear hgt hx4' hx5'
                    have hjl : (l.take j).length = j := by rw [List.length_take]; omega
                    have hpt : Own wb 86 1 L'.fA j L'.fC (ptrsV L'.fb) := by have := HRq.out.rdl.ptrs; simp only [St.begun, List.length_map, hjl] at this; exact this
                    have hcells : Hid (∀ W, Keep (fun k => bk L'.fA = some k) wb W → (W.cell? ⟨w.heap.size, 1, none⟩ = some (.slice L'.fA j L'.fC) ∧ W.frozen? ⟨w.heap.size, 1, none⟩ = false ∧ W.cell? ⟨fv, 1, none⟩ = some (.slice d.1 xd.length d.2) ∧ W.cell? ⟨fv, 2, none⟩ = some (.int .i64 m))) := by
                      intro W hW
                      have hEW := (hW.block _ (lt_blk HRq.out.rdl.disk) (hpt.ne_blk HRq.out.rdl.disk (by decide))).trans HRq.out.rdl.disk
                      have hfW := (hW.block _ (lt_blk Hnewq.out) (hpt.ne_blk Hnewq.out (by decide))).trans Hnewq.out
                      refine ⟨(cell_blk hEW 1).trans ?_, froz_blk hEW 1, (cell_blk hfW 1).trans rfl, (cell_blk hfW 2).trans rfl⟩
                      simp [diskR, St.begun]; omega
                    have Hpt := Lib.hid hpt
                    have Hjl := Lib.hid hjl
                    clear hpt hjl
                    go_wp2_with fail
                    refine wp_region_T (Keep (fun k => bk L'.fA = some k) wb) [(0, true), (1, true), (2, true), (3, true), (4, true), (5, true), (6, true), (8, true), (9, true), (7, false), (10, true), (11, false), (12, false), (13, false), (14, true), (15, true), (16, false)] (by kernel_rfl) (by kernel_rfl) (Keep.refl _ _).drew ?_
                    iterate 9
                      (apply T_read rfl (by rfl)
                       (· (intro W hW; have hc := hcells.out W hW; go_simp; try with_reducible rfl))
                       (try simp only [Act.put, List.getElem_toArray, List.getElem_cons_succ, List.getElem_cons_zero, List.setIfInBounds_toArray, List.set_cons_zero, List.set_cons_succ]))
                    refine T_do rfl (by rfl) (fun K hK => ?_)
                    have hsrc := (HArgq.out.keep (Keep.refl No wb).drew fun _ _ h => h).src xd.length (Nat.le_refl _)
                    rw [List.take_length] at hsrc
                    have hx3n := Hx3.out
                    refine wp_app (.const (.slice none 0 0)) (.tmp 72) 43 43 rfl (Own.nil wb.drew 5 1) Try.underlying43 info5 rfl (by omega) rfl rfl hsrc (by unfold maxLen; omega) (by omega) (fun A1 c1 w3 hO1 hK1 hA1 => ?_)
                    rw [Nat.zero_add, List.nil_append] at hO1
                    rw [Nat.zero_add]
                    have hk3 : Keep No wb w3 := (Keep.refl No wb).drew.trans' (hK1.mono fun k _ e => by simp at e)
                    have hn1 : ∀ k, bk A1 = some k → New wb w3 k := fun k hk => by
                      rcases hA1 with rfl | ⟨rfl, h2⟩
                      · simp at hk
                      · simp at hk
                        subst hk
                        exact ⟨Nat.le_refl _, h2⟩
                    refine hK _ _ (fun _ => hk3.mono fun _ _ h => h.elim) ?_
                    iterate 1
                      (apply T_read rfl (by rfl)
                       (· (intro W hW; have hc := hcells.out W hW; go_simp; try with_reducible rfl))
                       (try simp only [Act.put, List.getElem_toArray, List.getElem_cons_succ, List.getElem_cons_zero, List.setIfInBounds_toArray, List.set_cons_zero, List.set_cons_succ]))
                    clear hsrc hK1 hA1
                    refine T_do rfl (by rfl) (fun K hK => ?_)
                    go_simp
                    have hka : Keep No wb (w3.alloc (.cells #[.slice A1 xd.length c1, .int .i64 m] 90)) := hk3.alloc _
                    refine hK _ _ (fun _ => hka.mono fun _ _ h => h.elim) ?_
                    refine T_do rfl (by rfl) (fun K hK => ?_)
                    go_simp
                    have hkb : Keep No wb ((w3.alloc (.cells #[.slice A1 xd.length c1, .int .i64 m] 90)).alloc (.cells #[.pointer (some ⟨w3.heap.size, 0, none⟩)] 86)) := hka.alloc _
                    refine hK _ _ (fun _ => hkb.mono fun _ _ h => h.elim) ?_
                    have hbF : ((w3.alloc (.cells #[.slice A1 xd.length c1, .int .i64 m] 90)).alloc (.cells #[.pointer (some ⟨w3.heap.size, 0, none⟩)] 86)).heap[w3.heap.size]? = some (.cells #[.slice A1 xd.length c1, .int .i64 m] 90 (0, 0)) := (alloc_old _ _ (by simp)).trans (alloc_new w3 _)
                    have hbP : ((w3.alloc (.cells #[.slice A1 xd.length c1, .int .i64 m] 90)).alloc (.cells #[.pointer (some ⟨w3.heap.size, 0, none⟩)] 86)).heap[w3.heap.size + 1]? = some (.cells #[.pointer (some ⟨w3.heap.size, 0, none⟩)] 86 (0, 0)) := by
                      have h := alloc_new (w3.alloc (.cells #[.slice A1 xd.length c1, .int .i64 m] 90)) (.cells #[.pointer (some ⟨w3.heap.size, 0, none⟩)] 86)
                      rw [World.size_alloc] at h
                      exact h
                    have hsb : ((w3.alloc (.cells #[.slice A1 xd.length c1, .int .i64 m] 90)).alloc (.cells #[.pointer (some ⟨w3.heap.size, 0, none⟩)] 86)).heap.size = w3.heap.size + 2 := by simp
                    have hO1b := hO1.keep (((Keep.refl No w3).alloc (.cells #[.slice A1 xd.length c1, .int .i64 m] 90)).alloc (.cells #[.pointer (some ⟨w3.heap.size, 0, none⟩)] 86)) fun _ _ h => h
                    have hO5 := Hpt.out.keep hkb fun _ _ h => h
                    have hR5 : Rd ((w3.alloc (.cells #[.slice A1 xd.length c1, .int .i64 m] 90)).alloc (.cells #[.pointer (some ⟨w3.heap.size, 0, none⟩)] 86)) (fun k => k = w3.heap.size + 1) (some ⟨w3.heap.size + 1, 0, none⟩) [.pointer (some ⟨w3.heap.size, 0, none⟩)] := fun _ => ⟨_, 0, rfl, rfl, Run.of_blk hbP⟩
                    refine T_do rfl (by rfl) (fun K hK => ?_)
                    refine wp_app (.tmp 70) (.tmp 78) 81 81 rfl hO5 Try.underlying81 info86 rfl (by omega) rfl rfl (src_rd (news := [.pointer (some ⟨w3.heap.size, 0, none⟩)]) (m := 1) Try.underlying81 hR5 rfl (by omega) (by intro u hu; simp at hu; rcases hu with rfl; rfl)) (by unfold maxLen; omega) (by omega) (fun A3 c3 w4 hO3 hK3 hA3 => ?_)
                    have hk4 : Keep (fun k => bk L'.fA = some k) wb w4 := (hkb.mono fun _ _ h => h.elim).trans' (hK3.mono fun k _ e => e.symm)
                    refine hK _ _ (fun _ => hk4) ?_
                    (try simp only [Act.put, List.getElem_toArray, List.getElem_cons_succ, List.getElem_cons_zero, List.setIfInBounds_toArray, List.set_cons_zero, List.set_cons_succ])
                    iterate 2
                      (apply T_read rfl (by rfl)
                       (· (intro W hW; have hc := hcells.out W hW; go_simp; try with_reducible rfl))
                       (try simp only [Act.put, List.getElem_toArray, List.getElem_cons_succ, List.getElem_cons_zero, List.setIfInBounds_toArray, List.set_cons_zero, List.set_cons_succ]))
                    obtain ⟨x1, xz1, _, _⟩ := hcells.out w4 hk4
                    have hs3 := hk3.size
                    have hb4 : w4.heap[w3.heap.size]? = some (.cells (fileC (fvI (xn, xd, (m : Int))) (A1, c1)) 90 (0, 0)) := (hK3.block _ (by rw [hsb]; omega) (fun e => by have := Hpt.out.lt e.symm; omega)).trans hbF
                    have hs4 := hK3.size
                    rw [hsb] at hs4 hA3
                    have hE4 := (hk4.block _ (lt_blk HRq.out.rdl.disk) (Hpt.out.ne_blk HRq.out.rdl.disk (by decide))).trans HRq.out.rdl.disk
                    have k45 := (Keep.refl (fun k => k = w.heap.size) w4).setAt rfl 1 (.slice A3 (j + 1) c3)
                    have k5 : Keep (fun k => k = w.heap.size ∨ bk L'.fA = some k) wb (w4.setCell ⟨w.heap.size, 1, none⟩ (.slice A3 (j + 1) c3)) := (hk4.mono fun _ _ e => .inr e).trans' (k45.mono fun _ _ e => .inl e)
                    have hE5 := set_blk hE4 1 (.slice A3 (j + 1) c3)
                    have hP5 := hO3.keep k45 fun k hk e => by subst e; exact hO3.ne_blk hE4 (by decide) hk
                    have hEl := lt_blk HRq.out.rdl.disk
                    have hnb : w3.heap.size ≠ w.heap.size := fun e => by omega
                    have hb5 := (set_far (a := ⟨w.heap.size, 1, none⟩) hnb (.slice A3 (j + 1) c3)).trans hb4
                    have hO15 : Own (w4.setCell ⟨w.heap.size, 1, none⟩ (.slice A3 (j + 1) c3)) 5 1 A1 xd.length c1 (BV xd) := (hO1b.keep hK3 fun k hk e => by
                      have h1 := (hn1 k hk).1
                      have h2 := Hpt.out.lt e.symm
                      omega).keep k45 fun k hk e => by
                        have h1 := (hn1 k hk).1
                        omega
                    have h5 := HRq.out.rdl.addFile (f := fvI (xn, xd, (m : Int))) (b := w3.heap.size) (d := (A1, c1)) (fA' := A3) (fC' := c3) k5 (by
                      rw [hE5]
                      simp only [diskR, St.begun, List.length_append, List.length_map, List.length_cons, List.length_nil, Hjl.out]
                      rfl) (by rw [ptrsV_snoc]; simp only [St.begun, List.length_map, Hjl.out]; exact hP5) hb5 (by omega) hO15 (fun k hk => (hn1 k hk).1)
                    have k05 : Keep No w (w4.setCell ⟨w.heap.size, 1, none⟩ (.slice A3 (j + 1) c3)) := HRq.out.keep.trans k5 fun k hk e => by
                      rcases e with e | e
                      · have := (HRq.out.new k (.inl e)).1; omega
                      · have := (HRq.out.new k (.inr (.inl e))).1; omega
                    have hs5 := k45.size
                    have hsw := HRq.out.keep.size
                    have f05 : ∀ k, footR w.heap.size { L' with fA := A3, fC := c3, fb := L'.fb ++ [w3.heap.size], fd := L'.fd ++ [(A1, c1)] } k → New w (w4.setCell ⟨w.heap.size, 1, none⟩ (.slice A3 (j + 1) c3)) k := by
                      rintro k (e | e | e | e | e | e)
                      · exact (HRq.out.new k (.inl e)).sub (by omega)
                      · rcases hA3 with rfl | ⟨rfl, h6⟩
                        · exact (HRq.out.new k (.inr (.inl e))).sub (by omega)
                        · simp at e
                          subst e
                          exact ⟨by omega, by omega⟩
                      · exact (HRq.out.new k (.inr (.inr (.inl e)))).sub (by omega)
                      · exact (HRq.out.new k (.inr (.inr (.inr (.inl e))))).sub (by omega)
                      · exact (HRq.out.new k (.inr (.inr (.inr (.inr (.inl e)))))).sub (by omega)
                      · rcases e with e | ⟨y, hy, e⟩
                        · rcases List.mem_append.1 e with e | e
                          · exact (HRq.out.new k (.inr (.inr (.inr (.inr (.inr (.inl e))))))).sub (by omega)
                          · simp at e
                            subst e
                            exact ⟨by omega, by omega⟩
                        · rcases List.mem_append.1 hy with hy | hy
                          · exact (HRq.out.new k (.inr (.inr (.inr (.inr (.inr (.inr ⟨y, hy, e⟩))))))).sub (by omega)
                          · simp at hy
                            rw [hy] at e
                            have h1 := hn1 k e
                            exact ⟨by have := h1.1; omega, by have := h1.2; omega⟩
                    have hf5 : (w4.setCell ⟨w.heap.size, 1, none⟩ (.slice A3 (j + 1) c3)).heap[fv]? = some (.cells #[.string xn, .slice d.1 xd.length d.2, .int .i64 m] 60 (0, 0)) := (k5.block _ (lt_blk Hnewq.out) (fun e => by
                      rcases e with e | e
                      · exact ne_type Hnewq.out HRq.out.rdl.disk (by decide) e
                      · exact Hpt.out.ne_blk Hnewq.out (by decide) e)).trans Hnewq.out
                    have hokj1 := okFs_snoc HRq.out.ok Hx.out hokj.out
                    have H5 := Lib.hid h5
                    have K05 := Lib.hid k05
                    have F05 := Lib.hid f05
                    have Hf5 := Lib.hid hf5
                    have Hokj1 := Lib.hid hokj1
                    have Hbb := Lib.hid (show w3.heap.size = w3.heap.size from rfl)
                    clear hka hkb hbF hbP hO1 hO1b hO5 hR5 hO3 hK3 hk3 hk4 hn1 hb4 hE4 k45 k5 hE5 hP5 hb5 hO15 h5 k05 f05 hf5 hcells Hpt hnb hsb hA3 HRq HArgq Hnewq f0 f1 f2 hokj1 hokj
                    refine T_do rfl (by rfl) (fun K hK => ?_)
                    go_simp
                    refine hK _ _ (fun h => absurd rfl h) (T_end ?_)
                    generalize w4.setCell ⟨w.heap.size, 1, none⟩ (.slice A3 (j + 1) c3) = w5 at *
                    generalize w3.heap.size = bb at *
                    clear x1 xz1 hK hs3 hs4 hs5 hsw hEl
                    go_wp2_with fail
                    have hil := Hil.out
                    have hwi := fun (W : World) (hW : Keep No w5 W) => with_any (w := W) (d := insUp (l.take j)) (H5.out.now.keep hW fun _ _ h => h) Hsd.out (by omega) xn j
                    have Hwi := Lib.hid hwi
                    have hnw : Own w5 88 2 L'.nA (insUp (l.take j)).length L'.nC (eVs (insUp (l.take j))) := H5.out.now
                    have Hnw := Lib.hid hnw
                    clear hwi hil hnw
                    have hcells : Hid (∀ W, Keep (fun k => bk L'.nA = some k) w5 W → (W.cell? ⟨w.heap.size, 1, none⟩ = some (.slice A3 (j + 1) c3) ∧ W.cell? ⟨w.heap.size, 2, none⟩ = some (.slice L'.nA (insUp (l.take j)).length L'.nC) ∧ W.frozen? ⟨w.heap.size, 2, none⟩ = false ∧ W.cell? ⟨fv, 0, none⟩ = some (.string xn))) := by
                      intro W hW
                      have hEW := (hW.block _ (lt_blk H5.out.disk) (Hnw.out.ne_blk H5.out.disk (by decide))).trans H5.out.disk
                      have hfW := (hW.block _ (lt_blk Hf5.out) (Hnw.out.ne_blk Hf5.out (by decide))).trans Hf5.out
                      refine ⟨(cell_blk hEW 1).trans ?_, (cell_blk hEW 2).trans rfl, froz_blk hEW 2, (cell_blk hfW 0).trans rfl⟩
                      simp [diskR, St.begun]; omega
                    have hsub : IntKind.i64.wrap (j : Int) = (j : Int) := by rw [IntKind.wrap_i64]; omega
                    refine wp_region_T (Keep (fun k => bk L'.nA = some k) w5) [(0, true), (1, true), (2, true), (3, true), (4, true), (5, true), (6, true), (7, true), (8, true), (9, true), (10, true), (11, true), (12, true), (13, false), (14, true), (15, true), (16, false)] (by kernel_rfl) (by kernel_rfl) (Keep.refl _ _).drew ?_
                    iterate 13
                      (apply T_read rfl (by rfl)
                       (· (intro W hW; have hc := hcells.out W hW; go_simp; try with_reducible rfl))
                       (try simp only [Act.put, List.getElem_toArray, List.getElem_cons_succ, List.getElem_cons_zero, List.setIfInBounds_toArray, List.set_cons_zero, List.set_cons_succ]))
                    refine T_do rfl (by rfl) (fun K hK => ?_)
                    go_simp
                    refine (Hwi.out _ (Keep.refl No w5).drew).mono ?_
                    rintro e w6 ⟨A6, c6, rfl, hO6, hk6, hA6⟩
                    have hk6 := hk6.of_drew
                    refine hK _ _ (fun _ => hk6) ?_
                    (try simp only [Act.put, List.getElem_toArray, List.getElem_cons_succ, List.getElem_cons_zero, List.setIfInBounds_toArray, List.set_cons_zero, List.set_cons_succ])
                    iterate 2
                      (apply T_read rfl (by rfl)
                       (· (intro W hW; have hc := hcells.out W hW; go_simp; try with_reducible rfl))
                       (try simp only [Act.put, List.getElem_toArray, List.getElem_cons_succ, List.getElem_cons_zero, List.setIfInBounds_toArray, List.set_cons_zero, List.set_cons_succ]))
                    obtain ⟨_, x2, xz2, _⟩ := hcells.out w6 hk6
                    have hE6 := (hk6.block _ (lt_blk H5.out.disk) (Hnw.out.ne_blk H5.out.disk (by decide))).trans H5.out.disk
                    have k67 := (Keep.refl (fun k => k = w.heap.size) w6).setAt rfl 2 (.slice A6 (ins (insUp (l.take j)) xn j).length c6)
                    have k7 : Keep (fun k => k = w.heap.size ∨ bk L'.nA = some k) w5 (w6.setCell ⟨w.heap.size, 2, none⟩ (.slice A6 (ins (insUp (l.take j)) xn j).length c6)) := (hk6.mono fun _ _ e => .inr e).trans' (k67.mono fun _ _ e => .inl e)
                    have hE7 := set_blk hE6 2 (.slice A6 (ins (insUp (l.take j)) xn j).length c6)
                    have hO7 := hO6.keep k67 fun k hk e => by subst e; exact hO6.ne_blk hE6 (by decide) hk
                    have hnow : insUp (l.take (j + 1)) = ins (insUp (l.take j)) xn j := by rw [take_snoc Hx.out, insUp_snoc, Hjl.out]
                    have hfil : (l.take (j + 1)).map fvI = (l.take j).map fvI ++ [fvI (xn, xd, (m : Int))] := by rw [take_snoc Hx.out, List.map_append]; rfl
                    have hs6 := hk6.size
                    have hs7 := k67.size
                    have h7 := H5.out.reNow (s' := St.begun rm ((l.take (j + 1)).map fvI) (insUp (l.take (j + 1)))) (nA' := A6) (nC' := c6) k7 (by
                      rw [hE7]
                      simp only [diskR, St.begun, hnow, hfil]
                      rfl) (by
                      simp only [St.begun, hnow]
                      exact hO7) (fun k hk => by
                      rcases hA6 k hk with e | e
                      · exact .inl e
                      · exact .inr e.1) hfil rfl rfl
                    have k07 : Keep No w (w6.setCell ⟨w.heap.size, 2, none⟩ (.slice A6 (ins (insUp (l.take j)) xn j).length c6)) := K05.out.trans k7 fun k hk e => by
                      rcases e with e | e
                      · have := (F05.out k (.inl e)).1; omega
                      · have := (F05.out k (.inr (.inr (.inl e)))).1; omega
                    have hs05 := K05.out.size
                    have f07 : ∀ k, footR w.heap.size { L' with fA := A3, fC := c3, fb := L'.fb ++ [bb], fd := L'.fd ++ [(A1, c1)], nA := A6, nC := c6 } k → New w (w6.setCell ⟨w.heap.size, 2, none⟩ (.slice A6 (ins (insUp (l.take j)) xn j).length c6)) k := by
                      rintro k (e | e | e | e | e | e)
                      · exact (F05.out k (.inl e)).sub (by omega)
                      · exact (F05.out k (.inr (.inl e))).sub (by omega)
                      · rcases hA6 k e with e | e
                        · exact (F05.out k (.inr (.inr (.inl e)))).sub (by omega)
                        · have h1 := e.1
                          have h2 := e.2
                          rw [World.size_drew] at h1
                          exact ⟨by omega, by omega⟩
                      · exact (F05.out k (.inr (.inr (.inr (.inl e))))).sub (by omega)
                      · exact (F05.out k (.inr (.inr (.inr (.inr (.inl e)))))).sub (by omega)
                      · exact (F05.out k (.inr (.inr (.inr (.inr (.inr e)))))).sub (by omega)
                    have HRel : Hid (NewI w (w6.setCell ⟨w.heap.size, 2, none⟩ (.slice A6 (ins (insUp (l.take j)) xn j).length c6)) w.heap.size rm l (j + 1) { L' with fA := A3, fC := c3, fb := L'.fb ++ [bb], fd := L'.fd ++ [(A1, c1)], nA := A6, nC := c6 }) := ⟨h7, k07, f07, Hokj1.out⟩
                    have hf7 : (w6.setCell ⟨w.heap.size, 2, none⟩ (.slice A6 (ins (insUp (l.take j)) xn j).length c6)).heap[fv]? = some (.cells #[.string xn, .slice d.1 xd.length d.2, .int .i64 m] 60 (0, 0)) := (k7.block _ (lt_blk Hf5.out) (fun e => by
                      rcases e with e | e
                      · exact ne_type Hf5.out H5.out.disk (by decide) e
                      · exact Hnw.out.ne_blk Hf5.out (by decide) e)).trans Hf5.out
                    have g1 : (w6.setCell ⟨w.heap.size, 2, none⟩ (.slice A6 (ins (insUp (l.take j)) xn j).length c6)).cell? ⟨fv, 1, none⟩ = some (.slice d.1 xd.length d.2) := (cell_blk hf7 1).trans rfl
                    clear hO6 hA6 hk6 hs6 hE6 k67 k7 hE7 hO7 hnow hfil h7 k07 f07 hcells hf7 hsub
                    refine T_do rfl (by rfl) (fun K hK => ?_)
                    go_simp
                    refine hK _ _ (fun h => absurd rfl h) (T_end ?_)
                    generalize w6.setCell ⟨w.heap.size, 2, none⟩ (.slice A6 (ins (insUp (l.take j)) xn j).length c6) = w7 at *
                    have hsum := sumF_take Hx.out
                    simp only at hsum
                    have hsb : sumF (l.take (j + 1)) ≤ 18014398509481984 := sumF_bound Hokj1.out (by rw [List.length_take]; omega)
                    obtain ⟨sm, hsm⟩ : ∃ sm : Nat, sm = sumF (l.take (j + 1)) := ⟨_, rfl⟩
                    have hadd : ((sumF (l.take j) : Nat) : Int) + xd.length = sm := by omega
                    rw [← hsm] at hsb
                    have Hsm := Lib.hid hsm
                    clear x2 xz2 hK hsum hsm hs7 hs05
                    go_wp2_with fail
                    go_roundw
                    case rel => exact ⟨j + 1, _, by omega, by rw [Hsm.out], by go_num, HRel⟩
                    case measure => simp [RowKit.intOf]; omega
        · obtain rfl : j = l.length := by omega
          have hr := hR.out.rdl
          have hokl := hR.out.ok
          rw [List.take_length] at hr hokl ⊢
          have hsb : sumF l ≤ 18014398509481984 := sumF_bound hokl hlen2
          have hil := insUp_length l l.length (Nat.le_refl _)
          rw [List.take_length] at hil
          have hway : (rm = 0) ∨ (rm ≠ 0 ∧ rm < sumF l) ∨ (rm ≠ 0 ∧ sumF l ≤ rm) := by omega
          have HR1 := Lib.hid hr
          have Hokl := Lib.hid hokl
          clear hr hokl
          rcases hway with hw0 | ⟨hw0, hw1⟩ | ⟨hw0, hw1⟩
          rotate_left
          · have hno : Hid (¬ newOk rm l) := fun h => by
              rcases h.2.2.2 with h | h <;> omega
            have t0 : ((rm : Int) != 0) = true := by simp [hw0]
            have t1 : decide ((rm : Int) < sumF l) = true := decide_eq_true (by omega)
            have t2 : decide (rm < sumF l) = true := decide_eq_true (by omega)
            have Hro := Lib.hid hro'
            generalize sumF l = sm at *
            clear hw0 hw1 hro' hlen2 hsb
            go_wp2_with fail
            go_ret2
            exact .inl ⟨hno.out, rfl, hR.out.keep⟩
          all_goals
            have hyes : Hid (newOk rm l) := ⟨hro', hlen2, Hokl.out, by omega⟩
            first
              | have t0 : ((rm : Int) != 0) = false := by simp [hw0]
              | have t0 : ((rm : Int) != 0) = true := by simp [hw0]
            first
              | have t1 : decide ((rm : Int) < sumF l) = false := decide_eq_false (by omega)
              | have t1 : True := trivial
            first
              | have t2 : decide (rm < sumF l) = false := decide_eq_false (by omega)
              | have t2 : True := trivial
            clear hw0
            try clear hw1
            have c2 : wr.cell? ⟨w.heap.size, 2, none⟩ = some (.slice L'.nA (insUp l).length L'.nC) := HR1.out.cell 2 rfl
            have htw := twin_any (d := insUp l) (c := L'.nC) HR1.out.now.rd (by omega)
            have Htw := Lib.hid htw
            have hEl : Hid (w.heap.size < wr.heap.size) := lt_blk HR1.out.disk
            clear htw hil hro' hlen2 hsb
            generalize sumF l = sm at *
            go_wp2_with fail
            refine Htw.out.mono ?_
            rintro e w2 ⟨A2, c2', rfl, hO2, hk2, hn2⟩
            have h2 := HR1.out.keepNo hk2
            have hE2 := h2.disk
            have hz3 : w2.frozen? ⟨w.heap.size, 3, none⟩ = false := froz_blk hE2 3
            have e3 : w2.cell? ⟨w.heap.size, 3, none⟩ = some (.slice L'.sA 0 L'.sC) := h2.cell 3 rfl
            have k8 := (Keep.refl (fun k => k = w.heap.size) w2).setAt rfl 3 (.slice A2 (insUp l).length c2')
            have h8 := h2.reSure (s' := { St.begun rm (l.map fvI) (insUp l) with sure := insUp l }) (sA' := A2) (sC' := c2') k8 (by
              rw [set_blk hE2 3 (.slice A2 (insUp l).length c2')]
              rfl) (hO2.keep k8 fun k hk e => by subst e; exact hO2.ne_blk hE2 (by decide) hk) (fun k hk e => by
              have h3 := (hn2 k e).1
              have h4 := HR1.out.now.lt hk
              omega) rfl rfl rfl
            have k08 : Keep No w (w2.setCell ⟨w.heap.size, 3, none⟩ (.slice A2 (insUp l).length c2')) := (hR.out.keep.trans' hk2).setNew (hR.out.new _ (.inl rfl)).1 3 _
            have hz8 := k8.size
            have hs2 := hk2.size
            have hsr := hR.out.keep.size
            have hel := hEl.out
            have f08 : ∀ k, footR w.heap.size { L' with sA := A2, sC := c2' } k → New w (w2.setCell ⟨w.heap.size, 3, none⟩ (.slice A2 (insUp l).length c2')) k := by
              rintro k (e | e | e | e | e | e)
              · exact (hR.out.new k (.inl e)).sub (by omega)
              · exact (hR.out.new k (.inr (.inl e))).sub (by omega)
              · exact (hR.out.new k (.inr (.inr (.inl e)))).sub (by omega)
              · have h3 := hn2 k e
                exact ⟨by have := h3.1; omega, by have := h3.2; omega⟩
              · exact (hR.out.new k (.inr (.inr (.inr (.inr (.inl e)))))).sub (by omega)
              · exact (hR.out.new k (.inr (.inr (.inr (.inr (.inr e)))))).sub (by omega)
            have H8 := Lib.hid h8
            have K08 := Lib.hid k08
            have F08 := Lib.hid f08
            clear h8 k08 f08 hz8 hE2 h2 hn2 hO2 hk2 hs2 hsr hel k8
            go_wp2_with fail
            go_ret2
            exact .inr ⟨hyes.out, w.heap.size, _, rfl, H8.out, K08.out, F08.out⟩

end Go.Dx
