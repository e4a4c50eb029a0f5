/- DiskUnits: the walk. No condition. -/
import Derived.Test.YtlkgkckejfkblaaGn
namespace Go.Dx
open Go.RowKit Go.Proofs

set_option maxRecDepth 100000 in
set_option maxHeartbeats 32000000 in
theorem diskUnits_walk {w : World} (room : Int) (hr63 : room < 9223372036854775808) {S : Nat → Prop} {A : Option Addr} {c : Nat} {l : List FI} {fa : List (Option Addr × Nat)} (ha : ArgF w S A l fa) (hl : l.length * 48 ≤ 140737488355328)
    {B : Option Addr} {co : Nat} {ops : List OpE} (ho : ArgS w (fun k => k < w.heap.size) B ops) (hol : ops.length ≤ 1000000000000000) (unit : Int) (hu63 : unit < 9223372036854775808) :
    Calls Try.prog 6 #[.int .i64 room, .slice A l.length c, .slice B ops.length co, .int .i64 unit] w fun e w' => e = .returned (.bool true) ∧ Keep No w w' := by
  have HA := Lib.hid ha
  have HO := Lib.hid ho
  have Hl := Lib.hid hl
  clear ha ho hl
  go_enter Try.func6, Try.ntmps6
  go_wp2_with fail
  refine (known_any w).mono ?_
  rintro e w1 ⟨rfl, hk1⟩
  have K1 := Lib.hid hk1
  have hsm := small_any (c := c) (d := co) (HA.out.keep hk1 fun _ _ h => h) (HO.out.keepF hk1 fun _ _ h => h) (by have := Hl.out; omega) hol
  have Hsm := Lib.hid hsm
  clear hk1 hsm
  go_wp2_with fail
  refine Hsm.out.mono ?_
  rintro e w2 ⟨⟨b, rfl, _⟩, m, rfl⟩
  have K2 := Lib.hid (K1.out.drewN m)
  clear K1 Hsm
  cases b with
  | false =>
    go_wp2_with fail
    go_ret
    exact ⟨rfl, K2.out⟩
  | true =>
    by_cases hlim : 60 < ops.length
    · have hlim' : (60 : Int) < ops.length := by omega
      go_wp2_with fail
      go_ret
      exact ⟨rfl, K2.out⟩
    · have hlim' : (ops.length : Int) ≤ 60 := by omega
      have hbg := beginP_any (c := c) room hr63 (HA.out.keep K2.out fun _ _ h => h) Hl.out
      have Hbg := Lib.hid hbg
      clear hbg
      go_wp2_with fail
      refine Hbg.out.mono ?_
      rintro e w3 (⟨_, rfl, hk3⟩ | ⟨hyes, P, D, E, L, M, rfl, hP, hk3, hn3⟩)
      · have K3 := Lib.hid (K2.out.trans' hk3)
        clear hk3
        go_wp2_with fail
        go_ret
        exact ⟨rfl, K3.out⟩
      · have hrun := Trip.start K2.out hyes hr63 hP hk3 hn3
        generalize St.mkI room l = s at *
        have HR0 := Lib.hid hrun
        clear hk3 hP hn3 hyes hrun Hbg
        have p0 := (HR0.out.blk (Keep.refl No w3)).c0
        have p1 := (HR0.out.blk (Keep.refl No w3)).c1
        go_wp2_with fail
        refine (arm_any HR0.out.pw.d unit).mono ?_
        rintro e w4 ⟨rfl, hd4⟩
        obtain ⟨L4, M4, h4⟩ := HR0.out.half.d hd4
        have p0 : w4.cell? ⟨P, 0, none⟩ = some (.pointer (some ⟨D, 0, none⟩)) := (cell_blk h4.pw.blk 0).trans rfl
        have p1 : w4.cell? ⟨P, 1, none⟩ = some (.pointer (some ⟨E, 0, none⟩)) := (cell_blk h4.pw.blk 1).trans rfl
        have H4 := Lib.hid h4
        clear hd4 h4
        go_wp2_with fail
        refine (armR_any H4.out.pw.r unit).mono ?_
        rintro e w5 ⟨rfl, hd5⟩
        obtain ⟨L5, M5, h5⟩ := H4.out.r hd5
        have HR5 := Lib.hid (h5.run (HR0.out.g.arm unit hu63))
        clear hd5 h5 H4 HR0 K2 p0 p1
        generalize s.arm unit = s5 at *
        generalize s.armR unit = t5 at *
        go_wp2_with fail
        go_loopw [12] (fun i wr => ∃ (j : Nat) (s t : St) (L : PL) (M : RL), j ≤ ops.length ∧ i = .int .i64 j ∧ Hid (Trip w wr P D E s t L M j)) (fun i _ => ops.length - (RowKit.intOf i).toNat)
        case atStart => exact ⟨0, s5, t5, L5, M5, Nat.zero_le _, rfl, HR5⟩
        case round =>
          clear HR5
          obtain ⟨j, s, t, L, M, hj, rfl, hR⟩ := hrel
          by_cases hlt : j < ops.length
          · have hlt' : (j : Int) < ops.length := by omega
            obtain ⟨x, hx⟩ : ∃ x, ops[j]? = some x := ⟨_, List.getElem?_eq_getElem hlt⟩
            have hOr := HO.out.keepF hR.out.k fun _ _ h => h
            obtain ⟨bo, oo, rfl, hSb, hcx⟩ := hOr.at hx
            have hax := HO.out.each x (List.mem_of_getElem? hx)
            obtain ⟨⟨kind, name, to, data, a, b, cc, keep⟩, ⟨dA, dC⟩, ⟨kA, kC⟩⟩ := x
            have q0 : wr.cell? ⟨bo, oo + j * 8, none⟩ = some (.int .i64 kind) := hcx 0 (by omega)
            have q1 : wr.cell? ⟨bo, oo + j * 8 + 1, none⟩ = some (.string name) := hcx 1 (by omega)
            have q2 : wr.cell? ⟨bo, oo + j * 8 + 2, none⟩ = some (.string to) := hcx 2 (by omega)
            have q3 : wr.cell? ⟨bo, oo + j * 8 + 3, none⟩ = some (.slice dA data.length dC) := hcx 3 (by omega)
            have q4 : wr.cell? ⟨bo, oo + j * 8 + 4, none⟩ = some (.int .i64 a) := hcx 4 (by omega)
            have q5 : wr.cell? ⟨bo, oo + j * 8 + 5, none⟩ = some (.int .i64 b) := hcx 5 (by omega)
            have q6 : wr.cell? ⟨bo, oo + j * 8 + 6, none⟩ = some (.int .i64 cc) := hcx 6 (by omega)
            have q7 : wr.cell? ⟨bo, oo + j * 8 + 7, none⟩ = some (.slice kA keep.length kC) := hcx 7 (by omega)
            have Hax := Lib.hid hax
            clear hx hOr hcx hax
            by_cases h10 : kind = 10
            · have n10 : (kind == 10) = true := by simp [h10]
              have hrn := Lib.hid ((hR.out.keepNo ((Keep.refl No wr).alloc (.cells #[.int .i64 kind, .string name, .string to, .slice dA data.length dC, .int .i64 a, .int .i64 b, .int .i64 cc, .slice kA keep.length kC] 45))))
              have hrn2 : Hid (Trip w (wr.alloc (.cells #[.int .i64 kind, .string name, .string to, .slice dA data.length dC, .int .i64 a, .int .i64 b, .int .i64 cc, .slice kA keep.length kC] 45)) P D E s t L M (j + 1)) := ⟨hrn.out.pw, hrn.out.g.mono (by omega), hrn.out.k, hrn.out.new⟩
              clear h10 hrn
              go_wp2_with fail
              go_roundw
              case rel => exact ⟨j + 1, _, _, _, _, by omega, by go_num, hrn2⟩
              case measure => simp [RowKit.intOf]; omega
            · have n10 : (kind == 10) = false := by simp [h10]
              clear h10
              by_cases h11 : kind = 11
              · have n11 : (kind == 11) = true := by simp [h11]
                have hrn := Lib.hid ((hR.out.keepNo ((Keep.refl No wr).alloc (.cells #[.int .i64 kind, .string name, .string to, .slice dA data.length dC, .int .i64 a, .int .i64 b, .int .i64 cc, .slice kA keep.length kC] 45))))
                have hrn2 : Hid (Trip w (wr.alloc (.cells #[.int .i64 kind, .string name, .string to, .slice dA data.length dC, .int .i64 a, .int .i64 b, .int .i64 cc, .slice kA keep.length kC] 45)) P D E s t L M (j + 1)) := ⟨hrn.out.pw, hrn.out.g.mono (by omega), hrn.out.k, hrn.out.new⟩
                clear h11 hrn
                go_wp2_with fail
                go_roundw
                case rel => exact ⟨j + 1, _, _, _, _, by omega, by go_num, hrn2⟩
                case measure => simp [RowKit.intOf]; omega
              · have n11 : (kind == 11) = false := by simp [h11]
                clear h11
                have hka : Keep No wr (wr.alloc (.cells #[.int .i64 kind, .string name, .string to, .slice dA data.length dC, .int .i64 a, .int .i64 b, .int .i64 cc, .slice kA keep.length kC] 45)) := (Keep.refl No wr).alloc _
                have hnw : (wr.alloc (.cells #[.int .i64 kind, .string name, .string to, .slice dA data.length dC, .int .i64 a, .int .i64 b, .int .i64 cc, .slice kA keep.length kC] 45)).heap[wr.heap.size]? = some (.cells #[.int .i64 kind, .string name, .string to, .slice dA data.length dC, .int .i64 a, .int .i64 b, .int .i64 cc, .slice kA keep.length kC] 45 (0, 0)) := alloc_new wr _
                have hra := hR.out.keepNo hka
                have hfo : Hid (¬ footP P D E L M wr.heap.size) := fun e => by have := hR.out.pw.lt _ e; omega
                have Hra := Lib.hid hra
                have Hnw := Lib.hid hnw
                clear hka hnw hra
                go_wp2_with fail
                generalize wr.alloc (.cells #[.int .i64 kind, .string name, .string to, .slice dA data.length dC, .int .i64 a, .int .i64 b, .int .i64 cc, .slice kA keep.length kC] 45) = wk at *
                generalize wr.heap.size = ob at *
                have hcells : Hid (∀ W, SS P D E ob #[.int .i64 kind, .string name, .string to, .slice dA data.length dC, .int .i64 a, .int .i64 b, .int .i64 cc, .slice kA keep.length kC] W → (W.cell? ⟨P, 0, none⟩ = some (.pointer (some ⟨D, 0, none⟩)) ∧ W.cell? ⟨P, 1, none⟩ = some (.pointer (some ⟨E, 0, none⟩)) ∧ W.cell? ⟨ob, 0, none⟩ = some (.int .i64 kind) ∧ W.cell? ⟨ob, 1, none⟩ = some (.string name) ∧ W.cell? ⟨ob, 2, none⟩ = some (.string to) ∧ W.cell? ⟨ob, 3, none⟩ = some (.slice dA data.length dC) ∧ W.cell? ⟨ob, 4, none⟩ = some (.int .i64 a) ∧ W.cell? ⟨ob, 5, none⟩ = some (.int .i64 b) ∧ W.cell? ⟨ob, 6, none⟩ = some (.int .i64 cc) ∧ W.cell? ⟨ob, 7, none⟩ = some (.slice kA keep.length kC))) := fun W hW =>
                  ⟨(cell_blk hW.1 0).trans rfl, (cell_blk hW.1 1).trans rfl, (cell_blk hW.2 0).trans rfl, (cell_blk hW.2 1).trans rfl, (cell_blk hW.2 2).trans rfl, (cell_blk hW.2 3).trans rfl, (cell_blk hW.2 4).trans rfl, (cell_blk hW.2 5).trans rfl, (cell_blk hW.2 6).trans rfl, (cell_blk hW.2 7).trans rfl⟩
                have hdo : Calls Try.prog 31 #[.pointer (some ⟨P, 0, none⟩), .agg #[.int .i64 kind, .string name, .string to, .slice dA data.length dC, .int .i64 a, .int .i64 b, .int .i64 cc, .slice kA keep.length kC]] wk.drew fun e w' => e = .returned (.bool true) ∧ (∃ L' M', Trip w w' P D E (stepP s ⟨kind, name, to, data, a, b, cc, keep⟩) (stepR t ⟨kind, name, to, data, a, b, cc, keep⟩) L' M' (j + 1)) ∧ Keep (footP P D E L M) wk.drew w' :=
                  Hra.out.cDoes2 (by omega) (Keep.refl No wk).drew Hax.out
                have Hdo := Lib.hid hdo
                clear hdo q0 q1 q2 q3 q4 q5 q6 q7
                generalize stepP s ⟨kind, name, to, data, a, b, cc, keep⟩ = s1 at *
                generalize stepR t ⟨kind, name, to, data, a, b, cc, keep⟩ = t1 at *
                refine wp_region_T (SS P D E ob #[.int .i64 kind, .string name, .string to, .slice dA data.length dC, .int .i64 a, .int .i64 b, .int .i64 cc, .slice kA keep.length kC]) [(0, true), (1, true), (2, false), (3, true), (4, true), (5, true), (6, true), (7, true), (8, true), (10, true), (11, true), (12, true), (13, true), (9, false), (14, false), (15, true), (16, false)] (by kernel_rfl) (by kernel_rfl) ⟨Hra.out.pw.blk, Hnw.out⟩ ?_
                iterate 2
                  (apply T_read rfl (by rfl)
                   (· (intro W hW; have hc := hcells.out W hW; go_simp; try with_reducible rfl))
                   (try simp only [Act.put, List.getElem_toArray, List.getElem_cons_succ, List.getElem_cons_zero, List.setIfInBounds_toArray, List.set_cons_zero, List.set_cons_succ]))
                refine T_do rfl (by rfl) (fun K hK => ?_)
                go_simp
                refine Hdo.out.mono ?_
                rintro e wo ⟨rfl, ⟨L1, M1, hrun⟩, hko⟩
                have hob : wo.heap[ob]? = some (.cells #[.int .i64 kind, .string name, .string to, .slice dA data.length dC, .int .i64 a, .int .i64 b, .int .i64 cc, .slice kA keep.length kC] 45 (0, 0)) := (hko.block ob (lt_blk (w := wk) Hnw.out) hfo.out).trans Hnw.out
                have HR1 := Lib.hid hrun
                have Hob := Lib.hid hob
                have hS : ∀ W, Keep No wo W → SS P D E ob #[.int .i64 kind, .string name, .string to, .slice dA data.length dC, .int .i64 a, .int .i64 b, .int .i64 cc, .slice kA keep.length kC] W := fun W hW => ⟨HR1.out.blk hW, (hW.block ob (lt_blk Hob.out) id).trans Hob.out⟩
                clear hrun Hdo hob hko
                refine hK _ _ (fun _ => hS _ (Keep.refl No wo)) ?_
                iterate 2
                  (apply T_read rfl (by rfl)
                   (· (intro W hW; have hc := hcells.out W hW; go_simp; try with_reducible rfl))
                   (try simp only [Act.put, List.getElem_toArray, List.getElem_cons_succ, List.getElem_cons_zero, List.setIfInBounds_toArray, List.set_cons_zero, List.set_cons_succ]))
                iterate 8
                  (apply T_read rfl (by rfl)
                   (· (intro W hW; have hc := hcells.out W hW; go_simp; try with_reducible rfl))
                   (try simp only [Act.put, List.getElem_toArray, List.getElem_cons_succ, List.getElem_cons_zero, List.setIfInBounds_toArray, List.set_cons_zero, List.set_cons_succ]))
                refine T_do rfl (by rfl) (fun K hK => ?_)
                go_simp
                refine (HR1.out.cDown (Keep.refl No wo)).mono ?_
                rintro e w14 ⟨rfl, rfl⟩
                refine hK _ _ (fun _ => hS _ (Keep.refl No wo)) ?_
                refine T_do rfl (by rfl) (fun K hK => ?_)
                go_simp
                refine (HR1.out.cFell (Keep.refl No wo)).mono ?_
                rintro e w14 ⟨rfl, rfl⟩
                refine hK _ _ (fun _ => hS _ (Keep.refl No wo)) ?_
                iterate 1
                  (apply T_read rfl (by rfl)
                   (· (intro W hW; have hc := hcells.out W hW; go_simp; try with_reducible rfl))
                   (try simp only [Act.put, List.getElem_toArray, List.getElem_cons_succ, List.getElem_cons_zero, List.setIfInBounds_toArray, List.set_cons_zero, List.set_cons_succ]))
                refine T_do rfl (by rfl) (fun K hK => ?_)
                go_simp
                refine hK _ _ (fun h => absurd rfl h) (T_end ?_)
                clear hS hcells
                go_wp2_with fail
                go_roundw
                case rel => exact ⟨j + 1, _, _, _, _, by omega, by go_num, HR1⟩
                case measure => simp [RowKit.intOf]; omega
          · obtain rfl : j = ops.length := by omega
            go_wp2_with fail
            have hcells : Hid (∀ W, blkP P D E W → (W.cell? ⟨P, 0, none⟩ = some (.pointer (some ⟨D, 0, none⟩)) ∧ W.cell? ⟨P, 1, none⟩ = some (.pointer (some ⟨E, 0, none⟩)))) := fun W hW => ⟨hW.c0, hW.c1⟩
            have hS : ∀ W, Keep No wr W → blkP P D E W := fun W hW => hR.out.blk hW
            refine wp_region_T (blkP P D E) [(0, true), (1, true), (2, true), (3, true), (5, true), (6, true), (7, true), (8, true), (4, false), (9, false), (10, false), (11, false)] (by kernel_rfl) (by kernel_rfl) (hS _ (Keep.refl No wr).drew) ?_
            iterate 8
              (apply T_read rfl (by rfl)
               (· (intro W hW; have hc := hcells.out W hW; go_simp; try with_reducible rfl))
               (try simp only [Act.put, List.getElem_toArray, List.getElem_cons_succ, List.getElem_cons_zero, List.setIfInBounds_toArray, List.set_cons_zero, List.set_cons_succ]))
            refine T_do rfl (by rfl) (fun K hK => ?_)
            go_simp
            refine (hR.out.cFiles ((Keep.refl No wr).drew)).mono ?_
            rintro e w11 ⟨A11, c11, ds11, rfl, hT11, hk11, _⟩
            have k11 : Keep No wr w11 := ((Keep.refl No wr).drew).trans' hk11
            refine hK _ _ (fun _ => hS _ k11) ?_
            refine T_do rfl (by rfl) (fun K hK => ?_)
            go_simp
            refine (hR.out.cFilesR (k11)).mono ?_
            rintro e w12 ⟨A12, c12, ds12, rfl, hT12, hk12, _⟩
            have k12 : Keep No wr w12 := (k11).trans' hk12
            refine hK _ _ (fun _ => hS _ k12) ?_
            refine T_do rfl (by rfl) (fun K hK => ?_)
            go_simp
            refine (sameTold (hT11.keep hk12 fun _ _ h => h) hT12 (filesOf_le hR.out.g.gs.wf)).mono ?_
            rintro e w13 ⟨rfl, m1, rfl⟩
            have k13 : Keep No wr (w12.drewN m1) := k12.drewN m1
            refine hK _ _ (fun _ => hS _ k13) ?_
            refine T_do rfl (by rfl) (fun K hK => ?_)
            go_simp
            refine hK _ _ (fun h => absurd rfl h) (T_end ?_)
            have HRb := Lib.hid (hR.out.keepNo k13)
            clear hT11 hT12 hk11 hk12 k11 k12 k13 hS
            generalize w12.drewN m1 = w13 at *
            have p0 := (HRb.out.blk ((Keep.refl No w13).alloc (.cells #[.int .i64 3, .int .i64 0] 3))).c0
            have p1 := (HRb.out.blk ((Keep.refl No w13).alloc (.cells #[.int .i64 3, .int .i64 0] 3))).c1
            have p0' := (HRb.out.blk (Keep.refl No w13)).c0
            have p1' := (HRb.out.blk (Keep.refl No w13)).c1
            have hka : Keep No w13 (w13.alloc (.cells #[.int .i64 3, .int .i64 0] 3)) := (Keep.refl No w13).alloc _
            have hfa := fall_any (cb := 2) (HRb.out.keepNo hka).pw.d HRb.out.g.gs (by omega) 2 (S := fun k => k = w13.heap.size) (B := some ⟨w13.heap.size, 0, none⟩) (ks := [3, 0]) (fun _ => ⟨_, 0, rfl, rfl, Run.of_blk (alloc_new w13 _)⟩) (fun k e => by rw [e]; simp) (by simp)
            have Hfa : Hid (Calls Try.prog 30 #[.pointer (some ⟨D, 0, none⟩), .int .i64 2, .slice (some ⟨w13.heap.size, 0, none⟩) 2 2] (w13.alloc (.cells #[.int .i64 3, .int .i64 0] 3)) fun e w' => e = .returned (.tuple #[]) ∧ Did (w13.alloc (.cells #[.int .i64 3, .int .i64 0] 3)) D L (s.fall 2 [3, 0]) w') := hfa
            have Hka := Lib.hid hka
            clear hfa hka
            go_wp2_with fail
            refine Hfa.out.mono ?_
            rintro e w20 ⟨rfl, hd20⟩
            obtain ⟨L2, M2, h20⟩ := (HRb.out.keepNo Hka.out).half.d hd20
            have hd9 : s.changes.length ≤ 1000000 := Nat.le_trans HRb.out.g.gs.ch (by omega)
            have hg20 : SimG (s.fall 2 [3, 0]) (t.fall 2 [3, 0]) 0 := HRb.out.g.fall 2 [3, 0]
            have hgt := HRb.out.g.gt
            have Hgt := Lib.hid hgt
            have Hg20 := Lib.hid hg20
            have H20 := Lib.hid h20
            have hdn : Hid ((s.fall 2 [3, 0]).down = false) := rfl
            have p0 : w20.cell? ⟨P, 0, none⟩ = some (.pointer (some ⟨D, 0, none⟩)) := (cell_blk h20.pw.blk 0).trans rfl
            have p1 : w20.cell? ⟨P, 1, none⟩ = some (.pointer (some ⟨E, 0, none⟩)) := (cell_blk h20.pw.blk 1).trans rfl
            have hka : Keep No w20 (w20.alloc (.cells #[.int .i64 3, .int .i64 0] 3)) := (Keep.refl No w20).alloc _
            have p1' : (w20.alloc (.cells #[.int .i64 3, .int .i64 0] 3)).cell? ⟨P, 1, none⟩ = some (.pointer (some ⟨E, 0, none⟩)) := (cell_blk (h20.keepNo hka).pw.blk 1).trans rfl
            have Hfr : Hid (Calls Try.prog 35 #[.pointer (some ⟨E, 0, none⟩), .int .i64 2, .slice (some ⟨w20.heap.size, 0, none⟩) 2 2] (w20.alloc (.cells #[.int .i64 3, .int .i64 0] 3)) fun e w' => e = .returned (.tuple #[]) ∧ DidR (w20.alloc (.cells #[.int .i64 3, .int .i64 0] 3)) E M2 (t.fall 2 [3, 0]) w') :=
              fallR_any (cb := 2) (h20.keepNo hka).pw.r hgt.wf (Nat.le_trans hgt.ch (by omega)) 2 (S := fun k => k = w20.heap.size) (B := some ⟨w20.heap.size, 0, none⟩) (ks := [3, 0]) (fun _ => ⟨_, 0, rfl, rfl, Run.of_blk (alloc_new w20 _)⟩) (fun k e => by rw [e]; simp) (by simp)
            have Hka2 := Lib.hid hka
            clear hd20 h20 hd9 hg20 hgt hka Hfa p0' HRb Hka
            go_wp2_with fail
            refine Hfr.out.mono ?_
            rintro e w21 ⟨rfl, hd21⟩
            obtain ⟨L3, M3, h21⟩ := (H20.out.keepNo Hka2.out).r hd21
            have HR1 := Lib.hid (h21.run Hg20.out)
            clear hd21 h21 Hg20 H20 Hfr Hka2 p0 p1 p1' Hgt
            generalize s.fall 2 [3, 0] = s9 at *
            generalize t.fall 2 [3, 0] = t9 at *
            go_wp2_with fail
            have hS : ∀ W, Keep No w21 W → blkP P D E W := fun W hW => HR1.out.blk hW
            refine wp_region_T (blkP P D E) [(0, true), (1, true), (2, true), (3, true), (4, false), (5, true), (6, true), (7, true), (8, true), (9, true), (10, true), (12, true), (13, true), (14, true), (15, true), (11, false), (16, false), (17, false), (18, true), (19, true), (20, true), (21, true), (22, true), (23, true), (25, true), (26, true), (27, true), (28, true), (24, false), (29, false), (30, true), (31, true), (32, false)] (by kernel_rfl) (by kernel_rfl) (hS _ (Keep.refl No w21).drew) ?_
            iterate 4
              (apply T_read rfl (by rfl)
               (· (intro W hW; have hc := hcells.out W hW; go_simp; try with_reducible rfl))
               (try simp only [Act.put, List.getElem_toArray, List.getElem_cons_succ, List.getElem_cons_zero, List.setIfInBounds_toArray, List.set_cons_zero, List.set_cons_succ]))
            refine T_do rfl (by rfl) (fun K hK => ?_)
            go_simp
            have hcd := HR1.out.cDown (Keep.refl No w21).drew
            rw [hdn.out] at hcd
            refine hcd.mono ?_
            rintro e w22 ⟨rfl, rfl⟩
            refine hK _ _ (fun _ => hS _ (Keep.refl No w21).drew) ?_
            clear hcd
            iterate 2
              (apply T_read rfl (by rfl)
               (· (intro W hW; have hc := hcells.out W hW; go_simp; try with_reducible rfl))
               (try simp only [Act.put, List.getElem_toArray, List.getElem_cons_succ, List.getElem_cons_zero, List.setIfInBounds_toArray, List.set_cons_zero, List.set_cons_succ]))
            iterate 8
              (apply T_read rfl (by rfl)
               (· (intro W hW; have hc := hcells.out W hW; go_simp; try with_reducible rfl))
               (try simp only [Act.put, List.getElem_toArray, List.getElem_cons_succ, List.getElem_cons_zero, List.setIfInBounds_toArray, List.set_cons_zero, List.set_cons_succ]))
            refine T_do rfl (by rfl) (fun K hK => ?_)
            go_simp
            refine (HR1.out.cFiles ((Keep.refl No w21).drew)).mono ?_
            rintro e w2x ⟨A21, c21, ds21, rfl, hT21, hk21, _⟩
            have k21 : Keep No w21 w2x := ((Keep.refl No w21).drew).trans' hk21
            refine hK _ _ (fun _ => hS _ k21) ?_
            refine T_do rfl (by rfl) (fun K hK => ?_)
            go_simp
            refine (HR1.out.cFilesR (k21)).mono ?_
            rintro e w2y ⟨A22, c22, ds22, rfl, hT22, hk22, _⟩
            have k22 : Keep No w21 w2y := (k21).trans' hk22
            refine hK _ _ (fun _ => hS _ k22) ?_
            refine T_do rfl (by rfl) (fun K hK => ?_)
            go_simp
            refine (sameTold (hT21.keep hk22 fun _ _ h => h) hT22 (filesOf_le HR1.out.g.gs.wf)).mono ?_
            rintro e w23 ⟨rfl, m2, rfl⟩
            have k23 : Keep No w21 (w2y.drewN m2) := k22.drewN m2
            refine hK _ _ (fun _ => hS _ k23) ?_
            have Hk23 := Lib.hid k23
            clear hT21 hT22 hk21 hk22 k21 k22
            generalize w2y.drewN m2 = w23 at *
            iterate 2
              (apply T_read rfl (by rfl)
               (· (intro W hW; have hc := hcells.out W hW; go_simp; try with_reducible rfl))
               (try simp only [Act.put, List.getElem_toArray, List.getElem_cons_succ, List.getElem_cons_zero, List.setIfInBounds_toArray, List.set_cons_zero, List.set_cons_succ]))
            iterate 8
              (apply T_read rfl (by rfl)
               (· (intro W hW; have hc := hcells.out W hW; go_simp; try with_reducible rfl))
               (try simp only [Act.put, List.getElem_toArray, List.getElem_cons_succ, List.getElem_cons_zero, List.setIfInBounds_toArray, List.set_cons_zero, List.set_cons_succ]))
            refine T_do rfl (by rfl) (fun K hK => ?_)
            go_simp
            have hr3 := HR1.out.keepNo k23
            refine (create_any hr3.pw.d HR1.out.g.gs.wf ⟨#[102, 114, 101, 115, 104]⟩ (by decide) (Nat.le_trans HR1.out.g.gs.ch (by omega))).mono ?_
            rintro e w24 ⟨rfl, hd24⟩
            obtain ⟨L4, M4, h24⟩ := hr3.half.d hd24
            refine hK _ _ (fun _ => h24.pw.blk) ?_
            clear hd24 hr3 k23
            refine T_do rfl (by rfl) (fun K hK => ?_)
            go_simp
            refine (createR_any h24.pw.r HR1.out.g.gt.wf (Nat.le_trans HR1.out.g.gt.ch (by omega)) (by have := HR1.out.g.fl; omega) ⟨#[102, 114, 101, 115, 104]⟩ (by decide)).mono ?_
            rintro e w25 ⟨rfl, hd25⟩
            rw [(HR1.out.g.sim.create ⟨#[102, 114, 101, 115, 104]⟩).1]
            obtain ⟨L6, M6, h25⟩ := h24.r hd25
            refine hK _ _ (fun _ => h25.pw.blk) ?_
            clear hd25 h24
            have HK := Lib.hid h25.k
            clear h25
            generalize (s9.create ⟨#[102, 114, 101, 115, 104]⟩).1 = cd at *
            iterate 2
              (apply T_read rfl (by rfl)
               (· (intro W hW; have hc := hcells.out W hW; go_simp; try with_reducible rfl))
               (try simp only [Act.put, List.getElem_toArray, List.getElem_cons_succ, List.getElem_cons_zero, List.setIfInBounds_toArray, List.set_cons_zero, List.set_cons_succ]))
            refine T_do rfl (by rfl) (fun K hK => ?_)
            go_simp
            refine hK _ _ (fun h => absurd rfl h) (T_end ?_)
            go_wp2_with fail
            go_ret
            exact ⟨rfl, HK.out⟩

end Go.Dx
