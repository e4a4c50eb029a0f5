/- does, a call a theorem: Read, Files, Image, Down. No condition. does, a call a theorem: none. No condition. does, a call a theorem: whatever the call. No condition. A pair that a law made itself, as it goes through a script. No condition. -/
import Derived.Test.YtlkgkckejfkblaaGl
namespace Go.Dx
open Go.RowKit Go.Proofs

set_option maxRecDepth 100000 in
set_option maxHeartbeats 16000000 in
theorem does_read {w : World} {P D E : Nat} {s t : St} {L : PL} {M : RL} {n : Nat} (hP : PW w P D E s t L M) (hg : SimG s t n) (_ : n ≤ 100000) {S : Nat → Prop} {name to : Nm} {data : List UInt8} {a b c : Int} {keep : List Int} {dA kA : Option Addr} {dC kC : Nat}
    (ha : ArgO w S (⟨7, name, to, data, a, b, c, keep⟩, (dA, dC), (kA, kC))) (hS : ∀ k, S k → ¬ footP P D E L M k) :
    Calls Try.prog 31 #[.pointer (some ⟨P, 0, none⟩), .agg #[.int .i64 7, .string name, .string to, .slice dA data.length dC, .int .i64 a, .int .i64 b, .int .i64 c, .slice kA keep.length kC]] w fun e w' => e = .returned (.bool true) ∧ DidP w P D E L M s t w' := by
  have HP := Lib.hid hP
  have Hg := Lib.hid hg
  have HA := Lib.hid ha
  have HS := Lib.hid hS
  have hdm := ha.data.max
  have hkm := ha.klen
  simp only at hdm hkm
  clear hP hg ha hS
  go_enter Try.func31, Try.ntmps31
  go_wp2_with (first
    | (have hA0 := HA.out.keepF ((Keep.refl No w).alloc (.cells #[.int .i64 7, .string name, .string to, .slice dA data.length dC, .int .i64 a, .int .i64 b, .int .i64 c, .slice kA keep.length kC] 45)) fun _ _ h => h
       have hsrc := hA0.data.src data.length (Nat.le_refl _)
       rw [List.take_length] at hsrc
       refine wpList_app (by rfl) (.const (.slice none 0 0)) (.tmp 14) 43 43 rfl (Own.nil _ 5 1) Try.underlying43 info5 rfl (by omega) rfl rfl hsrc (by unfold maxLen; omega) (by omega) ?_
       intro A1 c1 w1 hO1 hK1 hA1
       rw [Nat.zero_add, List.nil_append] at hO1
       rw [Nat.zero_add]
       have hk1 : Keep No w w1 := ((Keep.refl No w).alloc (.cells #[.int .i64 7, .string name, .string to, .slice dA data.length dC, .int .i64 a, .int .i64 b, .int .i64 c, .slice kA keep.length kC] 45)).trans' (hK1.mono fun k _ e => by simp at e)
       have hb1 : w1.heap[w.heap.size]? = some (.cells #[.int .i64 7, .string name, .string to, .slice dA data.length dC, .int .i64 a, .int .i64 b, .int .i64 c, .slice kA keep.length kC] 45 (0, 0)) := (hK1.block _ (by simp) (by simp)).trans (alloc_new w _)
       have hn1 : ∀ k, bk A1 = some k → w.heap.size ≤ k := fun k hk => by
         rcases hA1 with rfl | ⟨rfl, h2⟩
         · simp at hk
         · simp at hk; omega
       have o7 : w1.cell? ⟨w.heap.size, 7, none⟩ = some (.slice kA keep.length kC) := (cell_blk hb1 7).trans rfl
       have HO1 := Lib.hid hO1
       have Hk1 := Lib.hid hk1
       have Hb1 := Lib.hid hb1
       have Hn1 := Lib.hid hn1
       clear hA0 hsrc hO1 hK1 hA1 hk1 hb1 hn1)
    | (refine wpList_app (by rfl) (.const (.slice none 0 0)) (.tmp 17) 37 37 rfl (Own.nil _ 3 1) Try.underlying37 info3 rfl (by omega) rfl rfl (src_rd (news := IV keep) (m := keep.length) Try.underlying37 (HA.out.keepF Hk1.out fun _ _ h => h).keep (by simp [IV]) (by omega) (by intro u hu; obtain ⟨z, _, rfl⟩ := List.mem_map.1 hu; rfl)) (by unfold maxLen; omega) (by omega) ?_
       intro A2 c2 w2 hO2 hK2 hA2
       rw [Nat.zero_add, List.nil_append] at hO2
       rw [Nat.zero_add]
       have hk2 : Keep No w1 w2 := hK2.mono fun k _ e => by simp at e
       have hn2 : ∀ k, bk A2 = some k → w.heap.size ≤ k := fun k hk => by
         have hs := Hk1.out.size
         rcases hA2 with rfl | ⟨rfl, h2⟩
         · simp at hk
         · simp at hk; omega
       have hd : DoS w w2 P D E s t L M S (⟨7, name, to, data, a, b, c, keep⟩, (dA, dC), (kA, kC)) w.heap.size A1 c1 A2 c2 :=
         ⟨HP.out.keepNo (Hk1.out.trans' hk2), Hk1.out.trans' hk2, (hk2.block _ (lt_blk Hb1.out) id).trans Hb1.out, fun e => by have := HP.out.lt _ e; omega, HO1.out.keep hk2 fun _ _ h => h, fun k hk e => by have h1 := Hn1.out k hk; have h2 := HP.out.lt _ e; omega,
          hO2, fun k hk e => by have h1 := hn2 k hk; have h2 := HP.out.lt _ e; omega, HA.out.keepF (Hk1.out.trans' hk2) fun _ _ h => h, HS.out⟩
       have o0 : w2.cell? ⟨w.heap.size, 0, none⟩ = some (.int .i64 7) := (cell_blk hd.box 0).trans rfl
       have p0 : w2.cell? ⟨P, 0, none⟩ = some (.pointer (some ⟨D, 0, none⟩)) := (cell_blk hd.pw.blk 0).trans rfl
       have p1 : w2.cell? ⟨P, 1, none⟩ = some (.pointer (some ⟨E, 0, none⟩)) := (cell_blk hd.pw.blk 1).trans rfl
       have Hd := Lib.hid hd
       clear hO2 hK2 hA2 hk2 hn2 hd HO1 Hk1 Hb1 Hn1 o7))
  obtain ⟨ob, hob⟩ : ∃ ob, w.heap.size = ob := ⟨_, rfl⟩
  rw [hob] at Hd o0 ⊢
  have hcells : Hid (∀ W, SS P D E ob #[.int .i64 7, .string name, .string to, .slice dA data.length dC, .int .i64 a, .int .i64 b, .int .i64 c, .slice kA keep.length kC] W → (W.cell? ⟨P, 0, none⟩ = some (.pointer (some ⟨D, 0, none⟩)) ∧ W.cell? ⟨P, 1, none⟩ = some (.pointer (some ⟨E, 0, none⟩)) ∧ W.cell? ⟨ob, 1, none⟩ = some (.string name) ∧ W.cell? ⟨ob, 2, none⟩ = some (.string to) ∧ W.cell? ⟨ob, 3, none⟩ = some (.slice dA data.length dC) ∧ W.cell? ⟨ob, 4, none⟩ = some (.int .i64 a) ∧ W.cell? ⟨ob, 5, none⟩ = some (.int .i64 b) ∧ W.cell? ⟨ob, 6, none⟩ = some (.int .i64 c) ∧ W.cell? ⟨ob, 7, none⟩ = some (.slice kA keep.length kC))) := fun W hW =>
    ⟨(cell_blk hW.1 0).trans rfl, (cell_blk hW.1 1).trans rfl, (cell_blk hW.2 1).trans rfl, (cell_blk hW.2 2).trans rfl, (cell_blk hW.2 3).trans rfl, (cell_blk hW.2 4).trans rfl, (cell_blk hW.2 5).trans rfl, (cell_blk hW.2 6).trans rfl, (cell_blk hW.2 7).trans rfl⟩
  have Hob := Lib.hid hob
  clear hob
  have hssK : ∀ W, Keep No w2 W → SS P D E ob #[.int .i64 7, .string name, .string to, .slice dA data.length dC, .int .i64 a, .int .i64 b, .int .i64 c, .slice kA keep.length kC] W := fun W hW => ⟨(hW.block P (lt_blk Hd.out.pw.blk) id).trans Hd.out.pw.blk, (hW.block ob (lt_blk Hd.out.box) id).trans Hd.out.box⟩
  have HssK := Lib.hid hssK
  clear hssK
  have hnm := HA.out.name
  simp only at hnm
  have hc1 : ∀ W, Keep No w2 W → Calls Try.prog 22 #[.pointer (some ⟨D, 0, none⟩), .string name] W (ReadR W (s.read name)) := fun W hW => read_any (Hd.out.pw.keepNo hW).d Hg.out.gs.wf name hnm
  have hc2 : ∀ W, Keep No w2 W → Calls Try.prog 56 #[.pointer (some ⟨E, 0, none⟩), .string name] W (ReadR W (s.read name)) := fun W hW => by
    have h := readR_any (Hd.out.pw.keepNo hW).r Hg.out.gt.wf name hnm
    rw [Hg.out.sim.read] at h
    exact h
  have Hc1 := Lib.hid hc1
  have Hc2 := Lib.hid hc2
  clear hc1 hc2
  generalize s.read name = rr at *
  go_wp2_with fail
  refine wp_region_T (fun W => SS P D E ob #[.int .i64 7, .string name, .string to, .slice dA data.length dC, .int .i64 a, .int .i64 b, .int .i64 c, .slice kA keep.length kC] W ∧ Keep No w2 W) [(0, true), (1, true), (2, true), (3, true), (4, true), (5, true), (6, false), (7, true), (8, true), (9, true), (10, true), (11, false)] (by kernel_rfl) (by kernel_rfl) ⟨Hd.out.ss, (Keep.refl No w2).drew⟩ ?_
  iterate 6
    (apply T_read rfl (by rfl)
     (· (intro W hW; have hc := hcells.out W hW.1; go_simp; try with_reducible rfl))
     (try simp only [Act.put, List.getElem_toArray, List.getElem_cons_succ, List.getElem_cons_zero, List.setIfInBounds_toArray, List.set_cons_zero, List.set_cons_succ]))
  refine T_do rfl (by rfl) (fun K hK => ?_)
  go_simp
  refine (Hc1.out _ (Keep.refl No w2).drew).mono ?_
  rintro e w3 ⟨A3, c3, rfl, hO3, hk3, _⟩
  have k3 : Keep No w2 w3 := (Keep.refl No w2).drew.trans' hk3
  refine hK _ _ (fun _ => ⟨HssK.out _ k3, k3⟩) ?_
  iterate 4
    (apply T_read rfl (by rfl)
     (· (intro W hW; have hc := hcells.out W hW.1; go_simp; try with_reducible rfl))
     (try simp only [Act.put, List.getElem_toArray, List.getElem_cons_succ, List.getElem_cons_zero, List.setIfInBounds_toArray, List.set_cons_zero, List.set_cons_succ]))
  have K3 := Lib.hid k3
  have HO3 := Lib.hid hO3
  clear hk3 k3 hO3
  refine T_do rfl (by rfl) (fun K hK => ?_)
  go_simp
  refine hK _ _ (fun h => absurd rfl h) (T_end ?_)
  go_wp2_with fail
  refine wp_region_T (fun W => SS P D E ob #[.int .i64 7, .string name, .string to, .slice dA data.length dC, .int .i64 a, .int .i64 b, .int .i64 c, .slice kA keep.length kC] W ∧ Keep No w2 W) [(0, true), (1, true), (2, true), (3, true), (4, true), (5, true), (6, false), (7, true), (8, true), (9, true), (10, true), (11, false)] (by kernel_rfl) (by kernel_rfl) ⟨(HssK.out _ K3.out.drew), K3.out.drew⟩ ?_
  iterate 6
    (apply T_read rfl (by rfl)
     (· (intro W hW; have hc := hcells.out W hW.1; go_simp; try with_reducible rfl))
     (try simp only [Act.put, List.getElem_toArray, List.getElem_cons_succ, List.getElem_cons_zero, List.setIfInBounds_toArray, List.set_cons_zero, List.set_cons_succ]))
  refine T_do rfl (by rfl) (fun K hK => ?_)
  go_simp
  refine (Hc2.out _ K3.out.drew).mono ?_
  rintro e w4 ⟨A4, c4, rfl, hO4, hk4, _⟩
  have k34 : Keep No w3 w4 := (Keep.refl No w3).drew.trans' hk4
  have k4 : Keep No w2 w4 := K3.out.trans' k34
  refine hK _ _ (fun _ => ⟨HssK.out _ k4, k4⟩) ?_
  iterate 4
    (apply T_read rfl (by rfl)
     (· (intro W hW; have hc := hcells.out W hW.1; go_simp; try with_reducible rfl))
     (try simp only [Act.put, List.getElem_toArray, List.getElem_cons_succ, List.getElem_cons_zero, List.setIfInBounds_toArray, List.set_cons_zero, List.set_cons_succ]))
  have hsr : Calls Try.prog 40 #[.slice A3 rr.1.length c3, .slice A4 rr.1.length c4] w4 fun e w' => e = .returned (.bool true) ∧ w4 = w' := (sameBytes_any (HO3.out.keep k34 fun _ _ h => h).rd hO4.rd c3 c4).mono fun e w' ⟨h1, h2⟩ => ⟨by rw [h1]; simp, h2⟩
  have Hsr := Lib.hid hsr
  have K4 := Lib.hid k4
  clear hk4 k34 k4 hO4 hsr
  refine T_do rfl (by rfl) (fun K hK => ?_)
  go_simp
  refine hK _ _ (fun h => absurd rfl h) (T_end ?_)
  go_wp2_with fail
  refine Hsr.out.mono ?_
  rintro e w5 ⟨rfl, rfl⟩
  have hd4 : DidP w P D E L M s t w4 := DidP.same (HP.out.keepNo (Hd.out.k.trans' K4.out)) (Hd.out.k.trans' K4.out)
  have hk4 : Keep (footP P D E L M) w2 w4 := K4.out.mono fun _ _ h => h.elim
  obtain ⟨hob4, hsb, hsi⟩ := Hd.out.fin hk4
  simp only at hsb hsi
  have o3 : w4.cell? ⟨ob, 3, none⟩ = some (.slice dA data.length dC) := (cell_blk hob4 3).trans rfl
  have o7 : w4.cell? ⟨ob, 7, none⟩ = some (.slice kA keep.length kC) := (cell_blk hob4 7).trans rfl
  have hss4 : SS P D E ob #[.int .i64 7, .string name, .string to, .slice dA data.length dC, .int .i64 a, .int .i64 b, .int .i64 c, .slice kA keep.length kC] w4 := by
    obtain ⟨_, _, h5, _, _⟩ := hd4
    exact ⟨h5.blk, hob4⟩
  have Hss4 := Lib.hid hss4
  have Hd4 := Lib.hid hd4
  have Hsb := Lib.hid hsb
  have Hsi := Lib.hid hsi
  clear hob4 hsb hsi hk4 hd4 hss4
  go_wp2_with fail
  refine Hsb.out.mono ?_
  rintro e w5 ⟨rfl, rfl⟩
  go_wp2_with fail
  refine Hsi.out.mono ?_
  rintro e w5 ⟨rfl, m5, rfl⟩
  go_wp2_with fail
  go_ret
  exact ⟨rfl, Hd4.out.before ((Keep.refl No w4).drewN m5)⟩

set_option maxRecDepth 100000 in
set_option maxHeartbeats 16000000 in
theorem does_files {w : World} {P D E : Nat} {s t : St} {L : PL} {M : RL} {n : Nat} (hP : PW w P D E s t L M) (hg : SimG s t n) (hn : n ≤ 100000) {S : Nat → Prop} {name to : Nm} {data : List UInt8} {a b c : Int} {keep : List Int} {dA kA : Option Addr} {dC kC : Nat}
    (ha : ArgO w S (⟨8, name, to, data, a, b, c, keep⟩, (dA, dC), (kA, kC))) (hS : ∀ k, S k → ¬ footP P D E L M k) :
    Calls Try.prog 31 #[.pointer (some ⟨P, 0, none⟩), .agg #[.int .i64 8, .string name, .string to, .slice dA data.length dC, .int .i64 a, .int .i64 b, .int .i64 c, .slice kA keep.length kC]] w fun e w' => e = .returned (.bool true) ∧ DidP w P D E L M s t w' := by
  have HP := Lib.hid hP
  have Hg := Lib.hid hg
  have HA := Lib.hid ha
  have HS := Lib.hid hS
  have hdm := ha.data.max
  have hkm := ha.klen
  simp only at hdm hkm
  clear hP hg ha hS
  go_enter Try.func31, Try.ntmps31
  go_wp2_with (first
    | (have hA0 := HA.out.keepF ((Keep.refl No w).alloc (.cells #[.int .i64 8, .string name, .string to, .slice dA data.length dC, .int .i64 a, .int .i64 b, .int .i64 c, .slice kA keep.length kC] 45)) fun _ _ h => h
       have hsrc := hA0.data.src data.length (Nat.le_refl _)
       rw [List.take_length] at hsrc
       refine wpList_app (by rfl) (.const (.slice none 0 0)) (.tmp 14) 43 43 rfl (Own.nil _ 5 1) Try.underlying43 info5 rfl (by omega) rfl rfl hsrc (by unfold maxLen; omega) (by omega) ?_
       intro A1 c1 w1 hO1 hK1 hA1
       rw [Nat.zero_add, List.nil_append] at hO1
       rw [Nat.zero_add]
       have hk1 : Keep No w w1 := ((Keep.refl No w).alloc (.cells #[.int .i64 8, .string name, .string to, .slice dA data.length dC, .int .i64 a, .int .i64 b, .int .i64 c, .slice kA keep.length kC] 45)).trans' (hK1.mono fun k _ e => by simp at e)
       have hb1 : w1.heap[w.heap.size]? = some (.cells #[.int .i64 8, .string name, .string to, .slice dA data.length dC, .int .i64 a, .int .i64 b, .int .i64 c, .slice kA keep.length kC] 45 (0, 0)) := (hK1.block _ (by simp) (by simp)).trans (alloc_new w _)
       have hn1 : ∀ k, bk A1 = some k → w.heap.size ≤ k := fun k hk => by
         rcases hA1 with rfl | ⟨rfl, h2⟩
         · simp at hk
         · simp at hk; omega
       have o7 : w1.cell? ⟨w.heap.size, 7, none⟩ = some (.slice kA keep.length kC) := (cell_blk hb1 7).trans rfl
       have HO1 := Lib.hid hO1
       have Hk1 := Lib.hid hk1
       have Hb1 := Lib.hid hb1
       have Hn1 := Lib.hid hn1
       clear hA0 hsrc hO1 hK1 hA1 hk1 hb1 hn1)
    | (refine wpList_app (by rfl) (.const (.slice none 0 0)) (.tmp 17) 37 37 rfl (Own.nil _ 3 1) Try.underlying37 info3 rfl (by omega) rfl rfl (src_rd (news := IV keep) (m := keep.length) Try.underlying37 (HA.out.keepF Hk1.out fun _ _ h => h).keep (by simp [IV]) (by omega) (by intro u hu; obtain ⟨z, _, rfl⟩ := List.mem_map.1 hu; rfl)) (by unfold maxLen; omega) (by omega) ?_
       intro A2 c2 w2 hO2 hK2 hA2
       rw [Nat.zero_add, List.nil_append] at hO2
       rw [Nat.zero_add]
       have hk2 : Keep No w1 w2 := hK2.mono fun k _ e => by simp at e
       have hn2 : ∀ k, bk A2 = some k → w.heap.size ≤ k := fun k hk => by
         have hs := Hk1.out.size
         rcases hA2 with rfl | ⟨rfl, h2⟩
         · simp at hk
         · simp at hk; omega
       have hd : DoS w w2 P D E s t L M S (⟨8, name, to, data, a, b, c, keep⟩, (dA, dC), (kA, kC)) w.heap.size A1 c1 A2 c2 :=
         ⟨HP.out.keepNo (Hk1.out.trans' hk2), Hk1.out.trans' hk2, (hk2.block _ (lt_blk Hb1.out) id).trans Hb1.out, fun e => by have := HP.out.lt _ e; omega, HO1.out.keep hk2 fun _ _ h => h, fun k hk e => by have h1 := Hn1.out k hk; have h2 := HP.out.lt _ e; omega,
          hO2, fun k hk e => by have h1 := hn2 k hk; have h2 := HP.out.lt _ e; omega, HA.out.keepF (Hk1.out.trans' hk2) fun _ _ h => h, HS.out⟩
       have o0 : w2.cell? ⟨w.heap.size, 0, none⟩ = some (.int .i64 8) := (cell_blk hd.box 0).trans rfl
       have p0 : w2.cell? ⟨P, 0, none⟩ = some (.pointer (some ⟨D, 0, none⟩)) := (cell_blk hd.pw.blk 0).trans rfl
       have p1 : w2.cell? ⟨P, 1, none⟩ = some (.pointer (some ⟨E, 0, none⟩)) := (cell_blk hd.pw.blk 1).trans rfl
       have Hd := Lib.hid hd
       clear hO2 hK2 hA2 hk2 hn2 hd HO1 Hk1 Hb1 Hn1 o7))
  obtain ⟨ob, hob⟩ : ∃ ob, w.heap.size = ob := ⟨_, rfl⟩
  rw [hob] at Hd o0 ⊢
  have hcells : Hid (∀ W, SS P D E ob #[.int .i64 8, .string name, .string to, .slice dA data.length dC, .int .i64 a, .int .i64 b, .int .i64 c, .slice kA keep.length kC] W → (W.cell? ⟨P, 0, none⟩ = some (.pointer (some ⟨D, 0, none⟩)) ∧ W.cell? ⟨P, 1, none⟩ = some (.pointer (some ⟨E, 0, none⟩)) ∧ W.cell? ⟨ob, 1, none⟩ = some (.string name) ∧ W.cell? ⟨ob, 2, none⟩ = some (.string to) ∧ W.cell? ⟨ob, 3, none⟩ = some (.slice dA data.length dC) ∧ W.cell? ⟨ob, 4, none⟩ = some (.int .i64 a) ∧ W.cell? ⟨ob, 5, none⟩ = some (.int .i64 b) ∧ W.cell? ⟨ob, 6, none⟩ = some (.int .i64 c) ∧ W.cell? ⟨ob, 7, none⟩ = some (.slice kA keep.length kC))) := fun W hW =>
    ⟨(cell_blk hW.1 0).trans rfl, (cell_blk hW.1 1).trans rfl, (cell_blk hW.2 1).trans rfl, (cell_blk hW.2 2).trans rfl, (cell_blk hW.2 3).trans rfl, (cell_blk hW.2 4).trans rfl, (cell_blk hW.2 5).trans rfl, (cell_blk hW.2 6).trans rfl, (cell_blk hW.2 7).trans rfl⟩
  have Hob := Lib.hid hob
  clear hob
  have hssK : ∀ W, Keep No w2 W → SS P D E ob #[.int .i64 8, .string name, .string to, .slice dA data.length dC, .int .i64 a, .int .i64 b, .int .i64 c, .slice kA keep.length kC] W := fun W hW => ⟨(hW.block P (lt_blk Hd.out.pw.blk) id).trans Hd.out.pw.blk, (hW.block ob (lt_blk Hd.out.box) id).trans Hd.out.box⟩
  have HssK := Lib.hid hssK
  clear hssK
  have hcht : t.changes.length ≤ 1000000 := Nat.le_trans Hg.out.gt.ch (by omega)
  have hc1 : ∀ W, Keep No w2 W → Calls Try.prog 12 #[.pointer (some ⟨D, 0, none⟩)] W (ToldR W s.filesOf) := fun W hW => files_any (Hd.out.pw.keepNo hW).d Hg.out.gs
  have hc2 : ∀ W, Keep No w2 W → Calls Try.prog 13 #[.pointer (some ⟨E, 0, none⟩)] W (ToldR W s.filesOf) := fun W hW => by
    have h := filesR_any (Hd.out.pw.keepNo hW).r Hg.out.gt.wf
    rw [Hg.out.sim.filesOf] at h
    exact h
  have Hc1 := Lib.hid hc1
  have Hc2 := Lib.hid hc2
  clear hc1 hc2
  go_wp2_with fail
  refine wp_region_T (fun W => SS P D E ob #[.int .i64 8, .string name, .string to, .slice dA data.length dC, .int .i64 a, .int .i64 b, .int .i64 c, .slice kA keep.length kC] W ∧ Keep No w2 W) [(0, true), (1, true), (2, true), (3, true), (5, true), (6, true), (7, true), (8, true), (4, false), (9, false), (10, false), (11, false)] (by kernel_rfl) (by kernel_rfl) ⟨Hd.out.ss, (Keep.refl No w2).drew⟩ ?_
  iterate 8
    (apply T_read rfl (by rfl)
     (· (intro W hW; have hc := hcells.out W hW.1; go_simp; try with_reducible rfl))
     (try simp only [Act.put, List.getElem_toArray, List.getElem_cons_succ, List.getElem_cons_zero, List.setIfInBounds_toArray, List.set_cons_zero, List.set_cons_succ]))
  refine T_do rfl (by rfl) (fun K hK => ?_)
  go_simp
  refine (Hc1.out _ (Keep.refl No w2).drew).mono ?_
  rintro e w3 ⟨A3, c3, ds3, rfl, hT3, hk3, _⟩
  have k3 : Keep No w2 w3 := (Keep.refl No w2).drew.trans' hk3
  refine hK _ _ (fun _ => ⟨HssK.out _ k3, k3⟩) ?_
  refine T_do rfl (by rfl) (fun K hK => ?_)
  go_simp
  refine (Hc2.out _ k3).mono ?_
  rintro e w4 ⟨A4, c4, ds4, rfl, hT4, hk4, _⟩
  have k4 : Keep No w2 w4 := k3.trans' hk4
  have hT34 := hT3.keep hk4 fun _ _ h => h
  refine hK _ _ (fun _ => ⟨HssK.out _ k4, k4⟩) ?_
  refine T_do rfl (by rfl) (fun K hK => ?_)
  go_simp
  refine (sameTold hT34 hT4 (filesOf_le Hg.out.gs.wf)).mono ?_
  rintro e w5 ⟨rfl, m5, rfl⟩
  have k9 : Keep No w2 (w4.drewN m5) := k4.drewN m5
  refine hK _ _ (fun _ => ⟨HssK.out _ k9, k9⟩) ?_
  clear hT3 hT4 hT34 hk3 hk4 k3 k4
  refine T_do rfl (by rfl) (fun K hK => ?_)
  go_simp
  refine hK _ _ (fun h => absurd rfl h) (T_end ?_)
  go_wp2_with fail
  go_ret
  exact ⟨rfl, DidP.same (HP.out.keepNo (Hd.out.k.trans' k9)) (Hd.out.k.trans' k9)⟩

set_option maxRecDepth 100000 in
set_option maxHeartbeats 16000000 in
theorem does_image {w : World} {P D E : Nat} {s t : St} {L : PL} {M : RL} {n : Nat} (hP : PW w P D E s t L M) (hg : SimG s t n) (hn : n ≤ 100000) {S : Nat → Prop} {name to : Nm} {data : List UInt8} {a b c : Int} {keep : List Int} {dA kA : Option Addr} {dC kC : Nat}
    (ha : ArgO w S (⟨9, name, to, data, a, b, c, keep⟩, (dA, dC), (kA, kC))) (hS : ∀ k, S k → ¬ footP P D E L M k) :
    Calls Try.prog 31 #[.pointer (some ⟨P, 0, none⟩), .agg #[.int .i64 9, .string name, .string to, .slice dA data.length dC, .int .i64 a, .int .i64 b, .int .i64 c, .slice kA keep.length kC]] w fun e w' => e = .returned (.bool true) ∧ DidP w P D E L M s t w' := by
  have HP := Lib.hid hP
  have Hg := Lib.hid hg
  have HA := Lib.hid ha
  have HS := Lib.hid hS
  have hdm := ha.data.max
  have hkm := ha.klen
  simp only at hdm hkm
  clear hP hg ha hS
  go_enter Try.func31, Try.ntmps31
  go_wp2_with (first
    | (have hA0 := HA.out.keepF ((Keep.refl No w).alloc (.cells #[.int .i64 9, .string name, .string to, .slice dA data.length dC, .int .i64 a, .int .i64 b, .int .i64 c, .slice kA keep.length kC] 45)) fun _ _ h => h
       have hsrc := hA0.data.src data.length (Nat.le_refl _)
       rw [List.take_length] at hsrc
       refine wpList_app (by rfl) (.const (.slice none 0 0)) (.tmp 14) 43 43 rfl (Own.nil _ 5 1) Try.underlying43 info5 rfl (by omega) rfl rfl hsrc (by unfold maxLen; omega) (by omega) ?_
       intro A1 c1 w1 hO1 hK1 hA1
       rw [Nat.zero_add, List.nil_append] at hO1
       rw [Nat.zero_add]
       have hk1 : Keep No w w1 := ((Keep.refl No w).alloc (.cells #[.int .i64 9, .string name, .string to, .slice dA data.length dC, .int .i64 a, .int .i64 b, .int .i64 c, .slice kA keep.length kC] 45)).trans' (hK1.mono fun k _ e => by simp at e)
       have hb1 : w1.heap[w.heap.size]? = some (.cells #[.int .i64 9, .string name, .string to, .slice dA data.length dC, .int .i64 a, .int .i64 b, .int .i64 c, .slice kA keep.length kC] 45 (0, 0)) := (hK1.block _ (by simp) (by simp)).trans (alloc_new w _)
       have hn1 : ∀ k, bk A1 = some k → w.heap.size ≤ k := fun k hk => by
         rcases hA1 with rfl | ⟨rfl, h2⟩
         · simp at hk
         · simp at hk; omega
       have o7 : w1.cell? ⟨w.heap.size, 7, none⟩ = some (.slice kA keep.length kC) := (cell_blk hb1 7).trans rfl
       have HO1 := Lib.hid hO1
       have Hk1 := Lib.hid hk1
       have Hb1 := Lib.hid hb1
       have Hn1 := Lib.hid hn1
       clear hA0 hsrc hO1 hK1 hA1 hk1 hb1 hn1)
    | (refine wpList_app (by rfl) (.const (.slice none 0 0)) (.tmp 17) 37 37 rfl (Own.nil _ 3 1) Try.underlying37 info3 rfl (by omega) rfl rfl (src_rd (news := IV keep) (m := keep.length) Try.underlying37 (HA.out.keepF Hk1.out fun _ _ h => h).keep (by simp [IV]) (by omega) (by intro u hu; obtain ⟨z, _, rfl⟩ := List.mem_map.1 hu; rfl)) (by unfold maxLen; omega) (by omega) ?_
       intro A2 c2 w2 hO2 hK2 hA2
       rw [Nat.zero_add, List.nil_append] at hO2
       rw [Nat.zero_add]
       have hk2 : Keep No w1 w2 := hK2.mono fun k _ e => by simp at e
       have hn2 : ∀ k, bk A2 = some k → w.heap.size ≤ k := fun k hk => by
         have hs := Hk1.out.size
         rcases hA2 with rfl | ⟨rfl, h2⟩
         · simp at hk
         · simp at hk; omega
       have hd : DoS w w2 P D E s t L M S (⟨9, name, to, data, a, b, c, keep⟩, (dA, dC), (kA, kC)) w.heap.size A1 c1 A2 c2 :=
         ⟨HP.out.keepNo (Hk1.out.trans' hk2), Hk1.out.trans' hk2, (hk2.block _ (lt_blk Hb1.out) id).trans Hb1.out, fun e => by have := HP.out.lt _ e; omega, HO1.out.keep hk2 fun _ _ h => h, fun k hk e => by have h1 := Hn1.out k hk; have h2 := HP.out.lt _ e; omega,
          hO2, fun k hk e => by have h1 := hn2 k hk; have h2 := HP.out.lt _ e; omega, HA.out.keepF (Hk1.out.trans' hk2) fun _ _ h => h, HS.out⟩
       have o0 : w2.cell? ⟨w.heap.size, 0, none⟩ = some (.int .i64 9) := (cell_blk hd.box 0).trans rfl
       have p0 : w2.cell? ⟨P, 0, none⟩ = some (.pointer (some ⟨D, 0, none⟩)) := (cell_blk hd.pw.blk 0).trans rfl
       have p1 : w2.cell? ⟨P, 1, none⟩ = some (.pointer (some ⟨E, 0, none⟩)) := (cell_blk hd.pw.blk 1).trans rfl
       have Hd := Lib.hid hd
       clear hO2 hK2 hA2 hk2 hn2 hd HO1 Hk1 Hb1 Hn1 o7))
  obtain ⟨ob, hob⟩ : ∃ ob, w.heap.size = ob := ⟨_, rfl⟩
  rw [hob] at Hd o0 ⊢
  have hcells : Hid (∀ W, SS P D E ob #[.int .i64 9, .string name, .string to, .slice dA data.length dC, .int .i64 a, .int .i64 b, .int .i64 c, .slice kA keep.length kC] W → (W.cell? ⟨P, 0, none⟩ = some (.pointer (some ⟨D, 0, none⟩)) ∧ W.cell? ⟨P, 1, none⟩ = some (.pointer (some ⟨E, 0, none⟩)) ∧ W.cell? ⟨ob, 1, none⟩ = some (.string name) ∧ W.cell? ⟨ob, 2, none⟩ = some (.string to) ∧ W.cell? ⟨ob, 3, none⟩ = some (.slice dA data.length dC) ∧ W.cell? ⟨ob, 4, none⟩ = some (.int .i64 a) ∧ W.cell? ⟨ob, 5, none⟩ = some (.int .i64 b) ∧ W.cell? ⟨ob, 6, none⟩ = some (.int .i64 c) ∧ W.cell? ⟨ob, 7, none⟩ = some (.slice kA keep.length kC))) := fun W hW =>
    ⟨(cell_blk hW.1 0).trans rfl, (cell_blk hW.1 1).trans rfl, (cell_blk hW.2 1).trans rfl, (cell_blk hW.2 2).trans rfl, (cell_blk hW.2 3).trans rfl, (cell_blk hW.2 4).trans rfl, (cell_blk hW.2 5).trans rfl, (cell_blk hW.2 6).trans rfl, (cell_blk hW.2 7).trans rfl⟩
  have Hob := Lib.hid hob
  clear hob
  have hssK : ∀ W, Keep No w2 W → SS P D E ob #[.int .i64 9, .string name, .string to, .slice dA data.length dC, .int .i64 a, .int .i64 b, .int .i64 c, .slice kA keep.length kC] W := fun W hW => ⟨(hW.block P (lt_blk Hd.out.pw.blk) id).trans Hd.out.pw.blk, (hW.block ob (lt_blk Hd.out.box) id).trans Hd.out.box⟩
  have HssK := Lib.hid hssK
  clear hssK
  have hcht : t.changes.length ≤ 1000000 := Nat.le_trans Hg.out.gt.ch (by omega)
  have hc1 : ∀ W, Keep No w2 W → Calls Try.prog 14 #[.pointer (some ⟨D, 0, none⟩), .int .i64 a, .slice A2 keep.length c2] W (ToldR W (s.image a keep)) := fun W hW =>
    image_any (S := fun k => bk A2 = some k) (Hd.out.pw.keepNo hW).d Hg.out.gs (by omega) a (Hd.out.k1.keep hW fun _ _ h => h).rd (fun k hk => (Hd.out.k1.keep hW fun _ _ h => h).lt hk) (by omega)
  have hc2 : ∀ W, Keep No w2 W → Calls Try.prog 15 #[.pointer (some ⟨E, 0, none⟩), .int .i64 a, .slice kA keep.length kC] W (ToldR W (s.image a keep)) := fun W hW => by
    have h := imageR_any (cb := kC) (Hd.out.pw.keepNo hW).r Hg.out.gt.wf hcht a (Hd.out.arg.keepF hW fun _ _ h => h).keep (Hd.out.arg.keepF hW fun _ _ h => h).data.lt (by simp only; omega)
    rw [Hg.out.sim.image] at h
    exact h
  have Hc1 := Lib.hid hc1
  have Hc2 := Lib.hid hc2
  clear hc1 hc2
  go_wp2_with fail
  refine wp_region_T (fun W => SS P D E ob #[.int .i64 9, .string name, .string to, .slice dA data.length dC, .int .i64 a, .int .i64 b, .int .i64 c, .slice kA keep.length kC] W ∧ Keep No w2 W) [(0, true), (1, true), (2, true), (3, true), (4, true), (5, true), (6, true), (8, true), (9, true), (10, true), (11, true), (12, true), (13, true), (14, true), (15, true), (7, false), (16, false), (17, false), (18, false)] (by kernel_rfl) (by kernel_rfl) ⟨Hd.out.ss, (Keep.refl No w2).drew⟩ ?_
  iterate 15
    (apply T_read rfl (by rfl)
     (· (intro W hW; have hc := hcells.out W hW.1; go_simp; try with_reducible rfl))
     (try simp only [Act.put, List.getElem_toArray, List.getElem_cons_succ, List.getElem_cons_zero, List.setIfInBounds_toArray, List.set_cons_zero, List.set_cons_succ]))
  refine T_do rfl (by rfl) (fun K hK => ?_)
  go_simp
  refine (Hc1.out _ (Keep.refl No w2).drew).mono ?_
  rintro e w3 ⟨A3, c3, ds3, rfl, hT3, hk3, _⟩
  have k3 : Keep No w2 w3 := (Keep.refl No w2).drew.trans' hk3
  refine hK _ _ (fun _ => ⟨HssK.out _ k3, k3⟩) ?_
  refine T_do rfl (by rfl) (fun K hK => ?_)
  go_simp
  refine (Hc2.out _ k3).mono ?_
  rintro e w4 ⟨A4, c4, ds4, rfl, hT4, hk4, _⟩
  have k4 : Keep No w2 w4 := k3.trans' hk4
  have hT34 := hT3.keep hk4 fun _ _ h => h
  refine hK _ _ (fun _ => ⟨HssK.out _ k4, k4⟩) ?_
  refine T_do rfl (by rfl) (fun K hK => ?_)
  go_simp
  refine (sameTold hT34 hT4 (image_le Hg.out.gs.wf a keep)).mono ?_
  rintro e w5 ⟨rfl, m5, rfl⟩
  have k9 : Keep No w2 (w4.drewN m5) := k4.drewN m5
  refine hK _ _ (fun _ => ⟨HssK.out _ k9, k9⟩) ?_
  clear hT3 hT4 hT34 hk3 hk4 k3 k4
  refine T_do rfl (by rfl) (fun K hK => ?_)
  go_simp
  refine hK _ _ (fun h => absurd rfl h) (T_end ?_)
  go_wp2_with fail
  go_ret
  exact ⟨rfl, DidP.same (HP.out.keepNo (Hd.out.k.trans' k9)) (Hd.out.k.trans' k9)⟩

set_option maxRecDepth 100000 in
set_option maxHeartbeats 16000000 in
theorem does_down {w : World} {P D E : Nat} {s t : St} {L : PL} {M : RL} {n : Nat} (hP : PW w P D E s t L M) (hg : SimG s t n) (_ : n ≤ 100000) {S : Nat → Prop} {name to : Nm} {data : List UInt8} {a b c : Int} {keep : List Int} {dA kA : Option Addr} {dC kC : Nat}
    (ha : ArgO w S (⟨13, name, to, data, a, b, c, keep⟩, (dA, dC), (kA, kC))) (hS : ∀ k, S k → ¬ footP P D E L M k) :
    Calls Try.prog 31 #[.pointer (some ⟨P, 0, none⟩), .agg #[.int .i64 13, .string name, .string to, .slice dA data.length dC, .int .i64 a, .int .i64 b, .int .i64 c, .slice kA keep.length kC]] w fun e w' => e = .returned (.bool true) ∧ DidP w P D E L M s t w' := by
  have HP := Lib.hid hP
  have Hg := Lib.hid hg
  have HA := Lib.hid ha
  have HS := Lib.hid hS
  have hdm := ha.data.max
  have hkm := ha.klen
  simp only at hdm hkm
  clear hP hg ha hS
  go_enter Try.func31, Try.ntmps31
  go_wp2_with (first
    | (have hA0 := HA.out.keepF ((Keep.refl No w).alloc (.cells #[.int .i64 13, .string name, .string to, .slice dA data.length dC, .int .i64 a, .int .i64 b, .int .i64 c, .slice kA keep.length kC] 45)) fun _ _ h => h
       have hsrc := hA0.data.src data.length (Nat.le_refl _)
       rw [List.take_length] at hsrc
       refine wpList_app (by rfl) (.const (.slice none 0 0)) (.tmp 14) 43 43 rfl (Own.nil _ 5 1) Try.underlying43 info5 rfl (by omega) rfl rfl hsrc (by unfold maxLen; omega) (by omega) ?_
       intro A1 c1 w1 hO1 hK1 hA1
       rw [Nat.zero_add, List.nil_append] at hO1
       rw [Nat.zero_add]
       have hk1 : Keep No w w1 := ((Keep.refl No w).alloc (.cells #[.int .i64 13, .string name, .string to, .slice dA data.length dC, .int .i64 a, .int .i64 b, .int .i64 c, .slice kA keep.length kC] 45)).trans' (hK1.mono fun k _ e => by simp at e)
       have hb1 : w1.heap[w.heap.size]? = some (.cells #[.int .i64 13, .string name, .string to, .slice dA data.length dC, .int .i64 a, .int .i64 b, .int .i64 c, .slice kA keep.length kC] 45 (0, 0)) := (hK1.block _ (by simp) (by simp)).trans (alloc_new w _)
       have hn1 : ∀ k, bk A1 = some k → w.heap.size ≤ k := fun k hk => by
         rcases hA1 with rfl | ⟨rfl, h2⟩
         · simp at hk
         · simp at hk; omega
       have o7 : w1.cell? ⟨w.heap.size, 7, none⟩ = some (.slice kA keep.length kC) := (cell_blk hb1 7).trans rfl
       have HO1 := Lib.hid hO1
       have Hk1 := Lib.hid hk1
       have Hb1 := Lib.hid hb1
       have Hn1 := Lib.hid hn1
       clear hA0 hsrc hO1 hK1 hA1 hk1 hb1 hn1)
    | (refine wpList_app (by rfl) (.const (.slice none 0 0)) (.tmp 17) 37 37 rfl (Own.nil _ 3 1) Try.underlying37 info3 rfl (by omega) rfl rfl (src_rd (news := IV keep) (m := keep.length) Try.underlying37 (HA.out.keepF Hk1.out fun _ _ h => h).keep (by simp [IV]) (by omega) (by intro u hu; obtain ⟨z, _, rfl⟩ := List.mem_map.1 hu; rfl)) (by unfold maxLen; omega) (by omega) ?_
       intro A2 c2 w2 hO2 hK2 hA2
       rw [Nat.zero_add, List.nil_append] at hO2
       rw [Nat.zero_add]
       have hk2 : Keep No w1 w2 := hK2.mono fun k _ e => by simp at e
       have hn2 : ∀ k, bk A2 = some k → w.heap.size ≤ k := fun k hk => by
         have hs := Hk1.out.size
         rcases hA2 with rfl | ⟨rfl, h2⟩
         · simp at hk
         · simp at hk; omega
       have hd : DoS w w2 P D E s t L M S (⟨13, name, to, data, a, b, c, keep⟩, (dA, dC), (kA, kC)) w.heap.size A1 c1 A2 c2 :=
         ⟨HP.out.keepNo (Hk1.out.trans' hk2), Hk1.out.trans' hk2, (hk2.block _ (lt_blk Hb1.out) id).trans Hb1.out, fun e => by have := HP.out.lt _ e; omega, HO1.out.keep hk2 fun _ _ h => h, fun k hk e => by have h1 := Hn1.out k hk; have h2 := HP.out.lt _ e; omega,
          hO2, fun k hk e => by have h1 := hn2 k hk; have h2 := HP.out.lt _ e; omega, HA.out.keepF (Hk1.out.trans' hk2) fun _ _ h => h, HS.out⟩
       have o0 : w2.cell? ⟨w.heap.size, 0, none⟩ = some (.int .i64 13) := (cell_blk hd.box 0).trans rfl
       have p0 : w2.cell? ⟨P, 0, none⟩ = some (.pointer (some ⟨D, 0, none⟩)) := (cell_blk hd.pw.blk 0).trans rfl
       have p1 : w2.cell? ⟨P, 1, none⟩ = some (.pointer (some ⟨E, 0, none⟩)) := (cell_blk hd.pw.blk 1).trans rfl
       have Hd := Lib.hid hd
       clear hO2 hK2 hA2 hk2 hn2 hd HO1 Hk1 Hb1 Hn1 o7))
  obtain ⟨ob, hob⟩ : ∃ ob, w.heap.size = ob := ⟨_, rfl⟩
  rw [hob] at Hd o0 ⊢
  have hcells : Hid (∀ W, SS P D E ob #[.int .i64 13, .string name, .string to, .slice dA data.length dC, .int .i64 a, .int .i64 b, .int .i64 c, .slice kA keep.length kC] W → (W.cell? ⟨P, 0, none⟩ = some (.pointer (some ⟨D, 0, none⟩)) ∧ W.cell? ⟨P, 1, none⟩ = some (.pointer (some ⟨E, 0, none⟩)) ∧ W.cell? ⟨ob, 1, none⟩ = some (.string name) ∧ W.cell? ⟨ob, 2, none⟩ = some (.string to) ∧ W.cell? ⟨ob, 3, none⟩ = some (.slice dA data.length dC) ∧ W.cell? ⟨ob, 4, none⟩ = some (.int .i64 a) ∧ W.cell? ⟨ob, 5, none⟩ = some (.int .i64 b) ∧ W.cell? ⟨ob, 6, none⟩ = some (.int .i64 c) ∧ W.cell? ⟨ob, 7, none⟩ = some (.slice kA keep.length kC))) := fun W hW =>
    ⟨(cell_blk hW.1 0).trans rfl, (cell_blk hW.1 1).trans rfl, (cell_blk hW.2 1).trans rfl, (cell_blk hW.2 2).trans rfl, (cell_blk hW.2 3).trans rfl, (cell_blk hW.2 4).trans rfl, (cell_blk hW.2 5).trans rfl, (cell_blk hW.2 6).trans rfl, (cell_blk hW.2 7).trans rfl⟩
  have Hob := Lib.hid hob
  clear hob
  have hssK : ∀ W, Keep No w2 W → SS P D E ob #[.int .i64 13, .string name, .string to, .slice dA data.length dC, .int .i64 a, .int .i64 b, .int .i64 c, .slice kA keep.length kC] W := fun W hW => ⟨(hW.block P (lt_blk Hd.out.pw.blk) id).trans Hd.out.pw.blk, (hW.block ob (lt_blk Hd.out.box) id).trans Hd.out.box⟩
  have HssK := Lib.hid hssK
  clear hssK
  have hc1 : ∀ W, Keep No w2 W → Calls Try.prog 16 #[.pointer (some ⟨D, 0, none⟩)] W fun e w' => e = .returned (.bool s.down) ∧ W = w' := fun W hW => down_any ((Hd.out.pw.keepNo hW).d.cell 8 rfl)
  have hc2 : ∀ W, Keep No w2 W → Calls Try.prog 32 #[.pointer (some ⟨E, 0, none⟩)] W fun e w' => e = .returned (.bool s.down) ∧ W = w' := fun W hW => fell_any (by
    have h : W.cell? ⟨E, 9, none⟩ = some (.bool t.down) := (Hd.out.pw.keepNo hW).r.cell 9 rfl
    rw [Hg.out.sim.down] at h
    exact h)
  have Hc1 := Lib.hid hc1
  have Hc2 := Lib.hid hc2
  clear hc1 hc2
  go_wp2_with fail
  refine wp_region_T (fun W => SS P D E ob #[.int .i64 13, .string name, .string to, .slice dA data.length dC, .int .i64 a, .int .i64 b, .int .i64 c, .slice kA keep.length kC] W ∧ Keep No w2 W) [(0, true), (1, true), (2, true), (3, true), (5, true), (6, true), (7, true), (8, true), (4, false), (9, false), (10, true), (11, false)] (by kernel_rfl) (by kernel_rfl) ⟨Hd.out.ss, (Keep.refl No w2).drew⟩ ?_
  iterate 8
    (apply T_read rfl (by rfl)
     (· (intro W hW; have hc := hcells.out W hW.1; go_simp; try with_reducible rfl))
     (try simp only [Act.put, List.getElem_toArray, List.getElem_cons_succ, List.getElem_cons_zero, List.setIfInBounds_toArray, List.set_cons_zero, List.set_cons_succ]))
  refine T_do rfl (by rfl) (fun K hK => ?_)
  go_simp
  refine (Hc1.out _ (Keep.refl No w2).drew).mono ?_
  rintro e w3 ⟨rfl, rfl⟩
  have k9 : Keep No w2 w2.drew := (Keep.refl No w2).drew
  refine hK _ _ (fun _ => ⟨HssK.out _ k9, k9⟩) ?_
  refine T_do rfl (by rfl) (fun K hK => ?_)
  go_simp
  refine (Hc2.out _ k9).mono ?_
  rintro e w3 ⟨rfl, rfl⟩
  refine hK _ _ (fun _ => ⟨HssK.out _ k9, k9⟩) ?_
  iterate 1
    (apply T_read rfl (by rfl)
     (· (intro W hW; have hc := hcells.out W hW.1; go_simp; try with_reducible rfl))
     (try simp only [Act.put, List.getElem_toArray, List.getElem_cons_succ, List.getElem_cons_zero, List.setIfInBounds_toArray, List.set_cons_zero, List.set_cons_succ]))
  refine T_do rfl (by rfl) (fun K hK => ?_)
  go_simp
  refine hK _ _ (fun h => absurd rfl h) (T_end ?_)
  go_wp2_with fail
  go_ret
  exact ⟨rfl, DidP.same (HP.out.keepNo (Hd.out.k.trans' k9)) (Hd.out.k.trans' k9)⟩

end Go.Dx

namespace Go.Dx
open Go.RowKit Go.Proofs

set_option maxRecDepth 100000 in
set_option maxHeartbeats 16000000 in
theorem does_none {w : World} {P D E : Nat} {s t : St} {L : PL} {M : RL} {n : Nat} (hP : PW w P D E s t L M) (hg : SimG s t n) (_ : n ≤ 100000) {S : Nat → Prop} {kind : Int} {name to : Nm} {data : List UInt8} {a b c : Int} {keep : List Int} {dA kA : Option Addr} {dC kC : Nat}
    (ha : ArgO w S (⟨kind, name, to, data, a, b, c, keep⟩, (dA, dC), (kA, kC))) (hS : ∀ k, S k → ¬ footP P D E L M k) (h1 : kind ≠ 1) (h2 : kind ≠ 2) (h3 : kind ≠ 3) (h4 : kind ≠ 4) (h5 : kind ≠ 5) (h6 : kind ≠ 6) (h7 : kind ≠ 7) (h8 : kind ≠ 8) (h9 : kind ≠ 9) (h10 : kind ≠ 10) (h11 : kind ≠ 11) (h12 : kind ≠ 12) (h13 : kind ≠ 13) :
    Calls Try.prog 31 #[.pointer (some ⟨P, 0, none⟩), .agg #[.int .i64 kind, .string name, .string to, .slice dA data.length dC, .int .i64 a, .int .i64 b, .int .i64 c, .slice kA keep.length kC]] w fun e w' => e = .returned (.bool true) ∧ DidP w P D E L M s t w' := by
  have HP := Lib.hid hP
  have Hg := Lib.hid hg
  have HA := Lib.hid ha
  have HS := Lib.hid hS
  have hdm := ha.data.max
  have hkm := ha.klen
  simp only at hdm hkm
  clear hP hg ha hS
  have n1 : (kind == 1) = false := by simp [h1]
  have n2 : (kind == 2) = false := by simp [h2]
  have n3 : (kind == 3) = false := by simp [h3]
  have n4 : (kind == 4) = false := by simp [h4]
  have n5 : (kind == 5) = false := by simp [h5]
  have n6 : (kind == 6) = false := by simp [h6]
  have n7 : (kind == 7) = false := by simp [h7]
  have n8 : (kind == 8) = false := by simp [h8]
  have n9 : (kind == 9) = false := by simp [h9]
  have n10 : (kind == 10) = false := by simp [h10]
  have n11 : (kind == 11) = false := by simp [h11]
  have n12 : (kind == 12) = false := by simp [h12]
  have n13 : (kind == 13) = false := by simp [h13]
  clear h1 h2 h3 h4 h5 h6 h7 h8 h9 h10 h11 h12 h13
  go_enter Try.func31, Try.ntmps31
  go_wp2_with (first
    | (have hA0 := HA.out.keepF ((Keep.refl No w).alloc (.cells #[.int .i64 kind, .string name, .string to, .slice dA data.length dC, .int .i64 a, .int .i64 b, .int .i64 c, .slice kA keep.length kC] 45)) fun _ _ h => h
       have hsrc := hA0.data.src data.length (Nat.le_refl _)
       rw [List.take_length] at hsrc
       refine wpList_app (by rfl) (.const (.slice none 0 0)) (.tmp 14) 43 43 rfl (Own.nil _ 5 1) Try.underlying43 info5 rfl (by omega) rfl rfl hsrc (by unfold maxLen; omega) (by omega) ?_
       intro A1 c1 w1 hO1 hK1 hA1
       rw [Nat.zero_add, List.nil_append] at hO1
       rw [Nat.zero_add]
       have hk1 : Keep No w w1 := ((Keep.refl No w).alloc (.cells #[.int .i64 kind, .string name, .string to, .slice dA data.length dC, .int .i64 a, .int .i64 b, .int .i64 c, .slice kA keep.length kC] 45)).trans' (hK1.mono fun k _ e => by simp at e)
       have hb1 : w1.heap[w.heap.size]? = some (.cells #[.int .i64 kind, .string name, .string to, .slice dA data.length dC, .int .i64 a, .int .i64 b, .int .i64 c, .slice kA keep.length kC] 45 (0, 0)) := (hK1.block _ (by simp) (by simp)).trans (alloc_new w _)
       have hn1 : ∀ k, bk A1 = some k → w.heap.size ≤ k := fun k hk => by
         rcases hA1 with rfl | ⟨rfl, h2⟩
         · simp at hk
         · simp at hk; omega
       have o7 : w1.cell? ⟨w.heap.size, 7, none⟩ = some (.slice kA keep.length kC) := (cell_blk hb1 7).trans rfl
       have HO1 := Lib.hid hO1
       have Hk1 := Lib.hid hk1
       have Hb1 := Lib.hid hb1
       have Hn1 := Lib.hid hn1
       clear hA0 hsrc hO1 hK1 hA1 hk1 hb1 hn1)
    | (refine wpList_app (by rfl) (.const (.slice none 0 0)) (.tmp 17) 37 37 rfl (Own.nil _ 3 1) Try.underlying37 info3 rfl (by omega) rfl rfl (src_rd (news := IV keep) (m := keep.length) Try.underlying37 (HA.out.keepF Hk1.out fun _ _ h => h).keep (by simp [IV]) (by omega) (by intro u hu; obtain ⟨z, _, rfl⟩ := List.mem_map.1 hu; rfl)) (by unfold maxLen; omega) (by omega) ?_
       intro A2 c2 w2 hO2 hK2 hA2
       rw [Nat.zero_add, List.nil_append] at hO2
       rw [Nat.zero_add]
       have hk2 : Keep No w1 w2 := hK2.mono fun k _ e => by simp at e
       have hn2 : ∀ k, bk A2 = some k → w.heap.size ≤ k := fun k hk => by
         have hs := Hk1.out.size
         rcases hA2 with rfl | ⟨rfl, h2⟩
         · simp at hk
         · simp at hk; omega
       have hd : DoS w w2 P D E s t L M S (⟨kind, name, to, data, a, b, c, keep⟩, (dA, dC), (kA, kC)) w.heap.size A1 c1 A2 c2 :=
         ⟨HP.out.keepNo (Hk1.out.trans' hk2), Hk1.out.trans' hk2, (hk2.block _ (lt_blk Hb1.out) id).trans Hb1.out, fun e => by have := HP.out.lt _ e; omega, HO1.out.keep hk2 fun _ _ h => h, fun k hk e => by have h1 := Hn1.out k hk; have h2 := HP.out.lt _ e; omega,
          hO2, fun k hk e => by have h1 := hn2 k hk; have h2 := HP.out.lt _ e; omega, HA.out.keepF (Hk1.out.trans' hk2) fun _ _ h => h, HS.out⟩
       have o0 : w2.cell? ⟨w.heap.size, 0, none⟩ = some (.int .i64 kind) := (cell_blk hd.box 0).trans rfl
       have o3 : w2.cell? ⟨w.heap.size, 3, none⟩ = some (.slice dA data.length dC) := (cell_blk hd.box 3).trans rfl
       have p0 : w2.cell? ⟨P, 0, none⟩ = some (.pointer (some ⟨D, 0, none⟩)) := (cell_blk hd.pw.blk 0).trans rfl
       have p1 : w2.cell? ⟨P, 1, none⟩ = some (.pointer (some ⟨E, 0, none⟩)) := (cell_blk hd.pw.blk 1).trans rfl
       have Hd := Lib.hid hd
       clear hO2 hK2 hA2 hk2 hn2 hd HO1 Hk1 Hb1 Hn1 o7))
  obtain ⟨ob, hob⟩ : ∃ ob, w.heap.size = ob := ⟨_, rfl⟩
  rw [hob] at Hd o0 ⊢
  have hcells : Hid (∀ W, SS P D E ob #[.int .i64 kind, .string name, .string to, .slice dA data.length dC, .int .i64 a, .int .i64 b, .int .i64 c, .slice kA keep.length kC] W → (W.cell? ⟨P, 0, none⟩ = some (.pointer (some ⟨D, 0, none⟩)) ∧ W.cell? ⟨P, 1, none⟩ = some (.pointer (some ⟨E, 0, none⟩)) ∧ W.cell? ⟨ob, 1, none⟩ = some (.string name) ∧ W.cell? ⟨ob, 2, none⟩ = some (.string to) ∧ W.cell? ⟨ob, 3, none⟩ = some (.slice dA data.length dC) ∧ W.cell? ⟨ob, 4, none⟩ = some (.int .i64 a) ∧ W.cell? ⟨ob, 5, none⟩ = some (.int .i64 b) ∧ W.cell? ⟨ob, 6, none⟩ = some (.int .i64 c) ∧ W.cell? ⟨ob, 7, none⟩ = some (.slice kA keep.length kC))) := fun W hW =>
    ⟨(cell_blk hW.1 0).trans rfl, (cell_blk hW.1 1).trans rfl, (cell_blk hW.2 1).trans rfl, (cell_blk hW.2 2).trans rfl, (cell_blk hW.2 3).trans rfl, (cell_blk hW.2 4).trans rfl, (cell_blk hW.2 5).trans rfl, (cell_blk hW.2 6).trans rfl, (cell_blk hW.2 7).trans rfl⟩
  have Hob := Lib.hid hob
  clear hob
  obtain ⟨w4, rfl⟩ : ∃ w4, w4 = w2 := ⟨_, rfl⟩
  have hd4 : DidP w P D E L M s t w4 := DidP.same (HP.out.keepNo Hd.out.k) Hd.out.k
  have hk4 : Keep (footP P D E L M) w4 w4 := Keep.refl _ _
  obtain ⟨hob4, hsb, hsi⟩ := Hd.out.fin hk4
  simp only at hsb hsi
  have o3 : w4.cell? ⟨ob, 3, none⟩ = some (.slice dA data.length dC) := (cell_blk hob4 3).trans rfl
  have o7 : w4.cell? ⟨ob, 7, none⟩ = some (.slice kA keep.length kC) := (cell_blk hob4 7).trans rfl
  have hss4 : SS P D E ob #[.int .i64 kind, .string name, .string to, .slice dA data.length dC, .int .i64 a, .int .i64 b, .int .i64 c, .slice kA keep.length kC] w4 := by
    obtain ⟨_, _, h5, _, _⟩ := hd4
    exact ⟨h5.blk, hob4⟩
  have Hss4 := Lib.hid hss4
  have Hd4 := Lib.hid hd4
  have Hsb := Lib.hid hsb
  have Hsi := Lib.hid hsi
  clear hob4 hsb hsi hk4 hd4 hss4
  refine Hsb.out.mono ?_
  rintro e w5 ⟨rfl, rfl⟩
  go_wp2_with fail
  refine Hsi.out.mono ?_
  rintro e w5 ⟨rfl, m5, rfl⟩
  go_wp2_with fail
  go_ret
  exact ⟨rfl, Hd4.out.before ((Keep.refl No w4).drewN m5)⟩

end Go.Dx

namespace Go.Dx
open Go.RowKit Go.Proofs

theorem does_any {w : World} {P D E : Nat} {s t : St} {L : PL} {M : RL} {n : Nat} (hP : PW w P D E s t L M) (hg : SimG s t n) (hn : n ≤ 100000) {S : Nat → Prop} {x : OpE} (ha : ArgO w S x) (hS : ∀ k, S k → ¬ footP P D E L M k) :
    Calls Try.prog 31 #[.pointer (some ⟨P, 0, none⟩), .agg (opV x).toArray] w fun e w' => e = .returned (.bool true) ∧ DidP w P D E L M (stepP s x.1) (stepR t x.1) w' := by
  obtain ⟨⟨kind, name, to, data, a, b, c, keep⟩, ⟨dA, dC⟩, ⟨kA, kC⟩⟩ := x
  by_cases h1 : kind = 1
  · subst h1
    exact does_create hP hg hn ha hS
  by_cases h2 : kind = 2
  · subst h2
    exact does_append hP hg hn ha hS
  by_cases h3 : kind = 3
  · subst h3
    exact does_sync hP hg hn ha hS
  by_cases h4 : kind = 4
  · subst h4
    exact does_rename hP hg hn ha hS
  by_cases h5 : kind = 5
  · subst h5
    exact does_delete hP hg hn ha hS
  by_cases h6 : kind = 6
  · subst h6
    exact does_syncDir hP hg hn ha hS
  by_cases h10 : kind = 10
  · subst h10
    exact does_fall hP hg hn ha hS
  by_cases h11 : kind = 11
  · subst h11
    exact does_arm hP hg hn ha hS
  by_cases h12 : kind = 12
  · subst h12
    exact does_fail hP hg hn ha hS
  by_cases h7 : kind = 7
  · subst h7
    exact does_read hP hg hn ha hS
  by_cases h8 : kind = 8
  · subst h8
    exact does_files hP hg hn ha hS
  by_cases h9 : kind = 9
  · subst h9
    exact does_image hP hg hn ha hS
  by_cases h13 : kind = 13
  · subst h13
    exact does_down hP hg hn ha hS
  have e1 : stepP s ⟨kind, name, to, data, a, b, c, keep⟩ = s := by
    unfold stepP
    simp only
    rw [if_neg h1, if_neg h2, if_neg h3, if_neg h4, if_neg h5, if_neg h6, if_neg h10, if_neg h11, if_neg h12]
  have e2 : stepR t ⟨kind, name, to, data, a, b, c, keep⟩ = t := by
    unfold stepR
    simp only
    rw [if_neg h1, if_neg h2, if_neg h3, if_neg h4, if_neg h5, if_neg h6, if_neg h10, if_neg h11, if_neg h12]
  rw [e1, e2]
  exact does_none hP hg hn ha hS h1 h2 h3 h4 h5 h6 h7 h8 h9 h10 h11 h12 h13

end Go.Dx

namespace Go.Dx
open Go.RowKit Go.Proofs

structure Trip (w wr : World) (P D E : Nat) (s t : St) (L : PL) (M : RL) (n : Nat) : Prop where
  pw : PW wr P D E s t L M
  g : SimG s t n
  k : Keep No w wr
  new : ∀ k, footP P D E L M k → New w wr k
def blkP (P D E : Nat) (W : World) : Prop := W.heap[P]? = some (.cells #[.pointer (some ⟨D, 0, none⟩), .pointer (some ⟨E, 0, none⟩)] 32 (0, 0))
theorem blkP.c0 {P D E : Nat} {W : World} (h : blkP P D E W) : W.cell? ⟨P, 0, none⟩ = some (.pointer (some ⟨D, 0, none⟩)) := (cell_blk h 0).trans rfl
theorem blkP.c1 {P D E : Nat} {W : World} (h : blkP P D E W) : W.cell? ⟨P, 1, none⟩ = some (.pointer (some ⟨E, 0, none⟩)) := (cell_blk h 1).trans rfl
section
variable {w wr w' : World} {P D E : Nat} {s s' t t' : St} {L : PL} {M : RL} {n m : Nat}
theorem Trip.did (h : Trip w wr P D E s t L M n) (hd : DidP wr P D E L M s' t' w') (hg : SimG s' t' m) : ∃ L' M', Trip w w' P D E s' t' L' M' m := by
  obtain ⟨L', M', h1, h2, h3⟩ := hd
  have hs := h.k.size
  refine ⟨L', M', h1, hg, h.k.trans h2 fun k hk e => ?_, fun k hk => ?_⟩
  · have := (h.new k e).1; omega
  · rcases h3 k hk with e | e
    · exact (h.new k e).sub h2.size
    · exact ⟨by have := e.1; omega, e.2⟩
theorem Trip.keepNo (h : Trip w wr P D E s t L M n) (hk : Keep No wr w') : Trip w w' P D E s t L M n := ⟨h.pw.keepNo hk, h.g, h.k.trans' hk, fun k hk' => (h.new k hk').sub hk.size⟩
theorem Trip.blk (h : Trip w wr P D E s t L M n) {W : World} (hk : Keep No wr W) : blkP P D E W := (h.keepNo hk).pw.blk
theorem Trip.cFiles (h : Trip w wr P D E s t L M n) {W : World} (hk : Keep No wr W) : Calls Try.prog 12 #[.pointer (some ⟨D, 0, none⟩)] W (ToldR W s.filesOf) := files_any (h.keepNo hk).pw.d h.g.gs
theorem Trip.cFilesR (h : Trip w wr P D E s t L M n) {W : World} (hk : Keep No wr W) : Calls Try.prog 13 #[.pointer (some ⟨E, 0, none⟩)] W (ToldR W s.filesOf) := by
  have h1 := filesR_any (h.keepNo hk).pw.r h.g.gt.wf
  rw [h.g.sim.filesOf] at h1
  exact h1
theorem Trip.cImage (h : Trip w wr P D E s t L M n) (hn : n ≤ 100000) {W : World} (hk : Keep No wr W) (dir : Int) {S : Nat → Prop} {A : Option Addr} {ks : List Int} (cb : Nat) (hb : Rd W S A (IV ks)) (hS : ∀ k, S k → k < W.heap.size) (hl : ks.length ≤ 140737488355328) :
    Calls Try.prog 14 #[.pointer (some ⟨D, 0, none⟩), .int .i64 dir, .slice A ks.length cb] W (ToldR W (s.image dir ks)) := image_any (h.keepNo hk).pw.d h.g.gs (by omega) dir hb hS hl
theorem Trip.cImageR (h : Trip w wr P D E s t L M n) (hn : n ≤ 100000) {W : World} (hk : Keep No wr W) (dir : Int) {S : Nat → Prop} {A : Option Addr} {ks : List Int} (cb : Nat) (hb : Rd W S A (IV ks)) (hS : ∀ k, S k → k < W.heap.size) (hl : ks.length ≤ 140737488355328) :
    Calls Try.prog 15 #[.pointer (some ⟨E, 0, none⟩), .int .i64 dir, .slice A ks.length cb] W (ToldR W (s.image dir ks)) := by
  have h1 := imageR_any (cb := cb) (h.keepNo hk).pw.r h.g.gt.wf (Nat.le_trans h.g.gt.ch (by omega)) dir hb hS hl
  rw [h.g.sim.image] at h1
  exact h1
theorem Trip.cDown (h : Trip w wr P D E s t L M n) {W : World} (hk : Keep No wr W) : Calls Try.prog 16 #[.pointer (some ⟨D, 0, none⟩)] W fun e w' => e = .returned (.bool s.down) ∧ W = w' := down_any ((h.keepNo hk).pw.d.cell 8 rfl)
theorem Trip.cFell (h : Trip w wr P D E s t L M n) {W : World} (hk : Keep No wr W) : Calls Try.prog 32 #[.pointer (some ⟨E, 0, none⟩)] W fun e w' => e = .returned (.bool s.down) ∧ W = w' := fell_any (by
  have h1 : W.cell? ⟨E, 9, none⟩ = some (.bool t.down) := (h.keepNo hk).pw.r.cell 9 rfl
  rw [h.g.sim.down] at h1
  exact h1)
theorem Trip.cDoes (h : Trip w wr P D E s t L M n) (hn : n ≤ 99999) {W : World} (hk : Keep No wr W) {x : OpE} (ha : ArgO w (fun k => k < w.heap.size) x) :
    Calls Try.prog 31 #[.pointer (some ⟨P, 0, none⟩), .agg (opV x).toArray] W fun e w' => e = .returned (.bool true) ∧ ∃ L' M', Trip w w' P D E (stepP s x.1) (stepR t x.1) L' M' (n + 1) := by
  have hW := h.keepNo hk
  refine (does_any hW.pw h.g (by omega) (ha.keepF hW.k fun _ _ h => h) fun k hk' e => ?_).mono fun e w' ⟨h1, h2⟩ => ⟨h1, hW.did h2 (h.g.step x.1 ha.wa.2 ha.wb.2 ha.wc.2)⟩
  have h1 := (hW.new k e).1
  have h2 : k < w.heap.size := hk'
  omega
theorem Trip.cDoes2 (h : Trip w wr P D E s t L M n) (hn : n ≤ 99999) {W : World} (hk : Keep No wr W) {x : OpE} (ha : ArgO w (fun k => k < w.heap.size) x) :
    Calls Try.prog 31 #[.pointer (some ⟨P, 0, none⟩), .agg (opV x).toArray] W fun e w' => e = .returned (.bool true) ∧ (∃ L' M', Trip w w' P D E (stepP s x.1) (stepR t x.1) L' M' (n + 1)) ∧ Keep (footP P D E L M) W w' := by
  have hW := h.keepNo hk
  refine (does_any hW.pw h.g (by omega) (ha.keepF hW.k fun _ _ h => h) fun k hk' e => ?_).mono fun e w' ⟨h1, h2⟩ => ⟨h1, hW.did h2 (h.g.step x.1 ha.wa.2 ha.wb.2 ha.wc.2), by obtain ⟨_, _, _, h3, _⟩ := h2; exact h3⟩
  have h1 := (hW.new k e).1
  have h2 : k < w.heap.size := hk'
  omega
/-- A pair between the program's call and the document's. -/
structure Half (w wr : World) (P D E : Nat) (s t : St) (L : PL) (M : RL) : Prop where
  pw : PW wr P D E s t L M
  k : Keep No w wr
  new : ∀ k, footP P D E L M k → New w wr k
theorem Trip.half (h : Trip w wr P D E s t L M n) : Half w wr P D E s t L M := ⟨h.pw, h.k, h.new⟩
theorem Half.run (h : Half w wr P D E s t L M) (g : SimG s t n) : Trip w wr P D E s t L M n := ⟨h.pw, g, h.k, h.new⟩
theorem Half.did (h : Half w wr P D E s t L M) (hd : DidP wr P D E L M s' t' w') : ∃ L' M', Half w w' P D E s' t' L' M' := by
  obtain ⟨L', M', h1, h2, h3⟩ := hd
  have hs := h.k.size
  refine ⟨L', M', h1, h.k.trans h2 fun k hk e => ?_, fun k hk => ?_⟩
  · have := (h.new k e).1; omega
  · rcases h3 k hk with e | e
    · exact (h.new k e).sub h2.size
    · exact ⟨by have := e.1; omega, e.2⟩
theorem Half.keepNo (h : Half w wr P D E s t L M) (hk : Keep No wr w') : Half w w' P D E s t L M := ⟨h.pw.keepNo hk, h.k.trans' hk, fun k hk' => (h.new k hk').sub hk.size⟩
theorem Half.d (h : Half w wr P D E s t L M) (hd : Did wr D L s' w') : ∃ L' M', Half w w' P D E s' t L' M' := h.did (h.pw.stepD hd)
theorem Half.r (h : Half w wr P D E s t L M) (hd : DidR wr E M t' w') : ∃ L' M', Half w w' P D E s t' L' M' := h.did (h.pw.stepR hd)
theorem SimG.arm (h : SimG s t n) (a : Int) (ha : a < 9223372036854775808) : SimG (s.arm a) (t.armR a) n := ⟨h.sim.arm a, h.gs.arm a ha, h.gt.armR a ha, by have := h.fl; rw [armR_fl]; exact this⟩
theorem SimG.fall (h : SimG s t n) (dir : Int) (ks : List Int) : SimG (s.fall dir ks) (t.fall dir ks) 0 := ⟨h.sim.fall dir ks, h.gs.fall dir ks 0, h.gt.fall dir ks 0, by have := fall_fl h.gt.wf dir ks; omega⟩
end
theorem Trip.start {w w0 w' : World} {P D E : Nat} {L : PL} {M : RL} {room : Int} {l : List FI} (h0 : Keep No w w0) (hyes : newOk room l) (hr : room < 9223372036854775808) (hP : PW w' P D E (St.mkI room l) (St.mkI room l) L M) (hk : Keep No w0 w') (hn : ∀ k, footP P D E L M k → New w0 w' k) :
    Trip w w' P D E (St.mkI room l) (St.mkI room l) L M 0 :=
  ⟨hP, ⟨Sim.refl _, Good.mkI hyes hr 0, Good.mkI hyes hr 0, by rw [mkI_files]; have := hyes.2.1; omega⟩, h0.trans' hk, fun k hk' => ⟨Nat.le_trans h0.size (hn k hk').1, (hn k hk').2⟩⟩

end Go.Dx
