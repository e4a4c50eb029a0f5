/- What one call of the law's pair does to both disks. No condition. does, a call a theorem: Create. No condition. does, a call a theorem: Sync, Rename, Delete, SyncDir. No condition. does, a call a theorem: Append, Fall, Arm, Fail. No condition. -/
import Derived.Test.YtlkgkckejfkblaaGj
namespace Go.Dx
open Go.RowKit Go.Proofs

def stepP (s : St) (o : OpD) : St :=
  if o.kind = 1 then (s.create o.name).2 else if o.kind = 2 then (s.append o.name o.data).2 else if o.kind = 3 then (s.sync o.name).2 else if o.kind = 4 then (s.rename o.name o.to).2 else
  if o.kind = 5 then (s.delete o.name).2 else if o.kind = 6 then s.syncDir.2 else if o.kind = 10 then s.fall o.a o.keep else if o.kind = 11 then s.arm o.a else if o.kind = 12 then s.fail o.a o.b o.c else s
def stepR (s : St) (o : OpD) : St :=
  if o.kind = 1 then (s.create o.name).2 else if o.kind = 2 then (s.append o.name o.data).2 else if o.kind = 3 then (s.sync o.name).2 else if o.kind = 4 then (s.rename o.name o.to).2 else
  if o.kind = 5 then (s.delete o.name).2 else if o.kind = 6 then s.syncDir.2 else if o.kind = 10 then s.fall o.a o.keep else if o.kind = 11 then s.armR o.a else if o.kind = 12 then s.failR o.a o.b o.c else s
/-- Both disks, behind at most n calls. -/
structure SimG (s t : St) (n : Nat) : Prop where
  sim : Sim s t
  gs : Good s n
  gt : Good t n
  fl : t.files.length ≤ 8388608 + n
theorem SimG.mono {s t : St} {n m : Nat} (h : SimG s t n) (hm : n ≤ m) : SimG s t m := ⟨h.sim, h.gs.mono hm, h.gt.mono hm, by have := h.fl; omega⟩
theorem SimG.step {s t : St} {n : Nat} (h : SimG s t n) (o : OpD) (ha : o.a < 9223372036854775808) (hb : o.b < 9223372036854775808) (hc : o.c < 9223372036854775808) : SimG (stepP s o) (stepR t o) (n + 1) := by
  have hf := h.fl
  unfold stepP stepR
  by_cases h1 : o.kind = 1
  · rw [if_pos h1, if_pos h1]
    exact ⟨(h.sim.create _).2, h.gs.create _, h.gt.create _, by have := create_fl t o.name; omega⟩
  rw [if_neg h1, if_neg h1]
  by_cases h1 : o.kind = 2
  · rw [if_pos h1, if_pos h1]
    exact ⟨(h.sim.append _ _).2, (h.gs.append _ _).mono (by omega), (h.gt.append _ _).mono (by omega), by have := append_fl t o.name o.data; omega⟩
  rw [if_neg h1, if_neg h1]
  by_cases h1 : o.kind = 3
  · rw [if_pos h1, if_pos h1]
    exact ⟨(h.sim.sync _).2, (h.gs.sync _).mono (by omega), (h.gt.sync _).mono (by omega), by have := sync_fl t o.name; omega⟩
  rw [if_neg h1, if_neg h1]
  by_cases h1 : o.kind = 4
  · rw [if_pos h1, if_pos h1]
    exact ⟨(h.sim.rename _ _).2, h.gs.rename _ _, h.gt.rename _ _, by have := rename_fl t o.name o.to; omega⟩
  rw [if_neg h1, if_neg h1]
  by_cases h1 : o.kind = 5
  · rw [if_pos h1, if_pos h1]
    exact ⟨(h.sim.delete _).2, h.gs.delete _, h.gt.delete _, by have := delete_fl t o.name; omega⟩
  rw [if_neg h1, if_neg h1]
  by_cases h1 : o.kind = 6
  · rw [if_pos h1, if_pos h1]
    exact ⟨h.sim.syncDir.2, h.gs.syncDir.mono (by omega), h.gt.syncDir.mono (by omega), by have := syncDir_fl t; omega⟩
  rw [if_neg h1, if_neg h1]
  by_cases h1 : o.kind = 10
  · rw [if_pos h1, if_pos h1]
    exact ⟨h.sim.fall _ _, h.gs.fall _ _ _, h.gt.fall _ _ _, by have := fall_fl h.gt.wf o.a o.keep; omega⟩
  rw [if_neg h1, if_neg h1]
  by_cases h1 : o.kind = 11
  · rw [if_pos h1, if_pos h1]
    exact ⟨h.sim.arm _, (h.gs.arm _ ha).mono (by omega), (h.gt.armR _ ha).mono (by omega), by have := armR_fl t o.a; omega⟩
  rw [if_neg h1, if_neg h1]
  by_cases h1 : o.kind = 12
  · rw [if_pos h1, if_pos h1]
    exact ⟨h.sim.fail _ _ _, (h.gs.fail _ _ _ ha hb hc).mono (by omega), (h.gt.failR _ _ _ ha hb hc).mono (by omega), by have := failR_fl t o.a o.b o.c; omega⟩
  rw [if_neg h1, if_neg h1]
  exact h.mono (by omega)

/-- What stands in a pair's block, and in the box of a call. -/
def SS (P D E ob : Nat) (cs : Array Value) (W : World) : Prop := W.heap[P]? = some (.cells #[.pointer (some ⟨D, 0, none⟩), .pointer (some ⟨E, 0, none⟩)] 32 (0, 0)) ∧ W.heap[ob]? = some (.cells cs 45 (0, 0))
/-- Behind the head of does: the copies of both lists. -/
structure DoS (w w2 : World) (P D E : Nat) (s t : St) (L : PL) (M : RL) (S : Nat → Prop) (x : OpE) (ob : Nat) (A1 : Option Addr) (c1 : Nat) (A2 : Option Addr) (c2 : Nat) : Prop where
  pw : PW w2 P D E s t L M
  k : Keep No w w2
  box : w2.heap[ob]? = some (.cells (opV x).toArray 45 (0, 0))
  obn : ¬ footP P D E L M ob
  d1 : Own w2 5 1 A1 x.1.data.length c1 (BV x.1.data)
  d1n : ∀ k, bk A1 = some k → ¬ footP P D E L M k
  k1 : Own w2 3 1 A2 x.1.keep.length c2 (IV x.1.keep)
  k1n : ∀ k, bk A2 = some k → ¬ footP P D E L M k
  arg : ArgO w2 S x
  argn : ∀ k, S k → ¬ footP P D E L M k
section
variable {w w2 w4 : World} {P D E : Nat} {s t : St} {L : PL} {M : RL} {S : Nat → Prop} {x : OpE} {ob : Nat} {A1 : Option Addr} {c1 : Nat} {A2 : Option Addr} {c2 : Nat}
theorem DoS.ss (h : DoS w w2 P D E s t L M S x ob A1 c1 A2 c2) : SS P D E ob (opV x).toArray w2 := ⟨h.pw.blk, h.box⟩
/-- What the end of does reads. -/
theorem DoS.fin (h : DoS w w2 P D E s t L M S x ob A1 c1 A2 c2) (hk : Keep (footP P D E L M) w2 w4) :
    w4.heap[ob]? = some (.cells (opV x).toArray 45 (0, 0)) ∧
    (Calls Try.prog 40 #[.slice A1 x.1.data.length c1, .slice x.2.1.1 x.1.data.length x.2.1.2] w4 fun e w' => e = .returned (.bool true) ∧ w4 = w') ∧
    (Calls Try.prog 58 #[.slice A2 x.1.keep.length c2, .slice x.2.2.1 x.1.keep.length x.2.2.2] w4 fun e w' => e = .returned (.bool true) ∧ ∃ m, w' = w4.drewN m) := by
  have ha := h.arg.keepF hk h.argn
  refine ⟨(hk.block ob (lt_blk h.box) h.obn).trans h.box, ?_, ?_⟩
  · refine (sameBytes_any (h.d1.keep hk h.d1n).rd ha.data.rd c1 x.2.1.2).mono fun e w' ⟨h1, h2⟩ => ⟨by rw [h1]; simp, h2⟩
  · exact sameInts_any (h.k1.keep hk h.k1n).rd ha.keep (by have := ha.klen; omega) c2 x.2.2.2
theorem DoS.argB (h : DoS w w2 P D E s t L M S x ob A1 c1 A2 c2) : ArgB w2 (fun k => bk A1 = some k) A1 c1 x.1.data := ⟨h.d1.rd, fun _ hk => h.d1.lt hk, h.d1.le.1, h.arg.data.max⟩
end

end Go.Dx

namespace Go.Dx
open Go.RowKit Go.Proofs

set_option maxRecDepth 100000 in
set_option maxHeartbeats 16000000 in
theorem does_create {w : World} {P D E : Nat} {s t : St} {L : PL} {M : RL} {n : Nat} (hP : PW w P D E s t L M) (hg : SimG s t n) (hn : n ≤ 100000) {S : Nat → Prop} {name to : Nm} {data : List UInt8} {a b c : Int} {keep : List Int} {dA kA : Option Addr} {dC kC : Nat}
    (ha : ArgO w S (⟨1, name, to, data, a, b, c, keep⟩, (dA, dC), (kA, kC))) (hS : ∀ k, S k → ¬ footP P D E L M k) :
    Calls Try.prog 31 #[.pointer (some ⟨P, 0, none⟩), .agg #[.int .i64 1, .string name, .string to, .slice dA data.length dC, .int .i64 a, .int .i64 b, .int .i64 c, .slice kA keep.length kC]] w fun e w' => e = .returned (.bool true) ∧ DidP w P D E L M (s.create name).2 (t.create name).2 w' := by
  have HP := Lib.hid hP
  have Hg := Lib.hid hg
  have HA := Lib.hid ha
  have HS := Lib.hid hS
  have hdm := ha.data.max
  have hkm := ha.klen
  simp only at hdm hkm
  clear hP hg ha hS
  go_enter Try.func31, Try.ntmps31
  go_wp2_with (first
    | (have hA0 := HA.out.keepF ((Keep.refl No w).alloc (.cells #[.int .i64 1, .string name, .string to, .slice dA data.length dC, .int .i64 a, .int .i64 b, .int .i64 c, .slice kA keep.length kC] 45)) fun _ _ h => h
       have hsrc := hA0.data.src data.length (Nat.le_refl _)
       rw [List.take_length] at hsrc
       refine wpList_app (by rfl) (.const (.slice none 0 0)) (.tmp 14) 43 43 rfl (Own.nil _ 5 1) Try.underlying43 info5 rfl (by omega) rfl rfl hsrc (by unfold maxLen; omega) (by omega) ?_
       intro A1 c1 w1 hO1 hK1 hA1
       rw [Nat.zero_add, List.nil_append] at hO1
       rw [Nat.zero_add]
       have hk1 : Keep No w w1 := ((Keep.refl No w).alloc (.cells #[.int .i64 1, .string name, .string to, .slice dA data.length dC, .int .i64 a, .int .i64 b, .int .i64 c, .slice kA keep.length kC] 45)).trans' (hK1.mono fun k _ e => by simp at e)
       have hb1 : w1.heap[w.heap.size]? = some (.cells #[.int .i64 1, .string name, .string to, .slice dA data.length dC, .int .i64 a, .int .i64 b, .int .i64 c, .slice kA keep.length kC] 45 (0, 0)) := (hK1.block _ (by simp) (by simp)).trans (alloc_new w _)
       have hn1 : ∀ k, bk A1 = some k → w.heap.size ≤ k := fun k hk => by
         rcases hA1 with rfl | ⟨rfl, h2⟩
         · simp at hk
         · simp at hk; omega
       have o7 : w1.cell? ⟨w.heap.size, 7, none⟩ = some (.slice kA keep.length kC) := (cell_blk hb1 7).trans rfl
       have HO1 := Lib.hid hO1
       have Hk1 := Lib.hid hk1
       have Hb1 := Lib.hid hb1
       have Hn1 := Lib.hid hn1
       clear hA0 hsrc hO1 hK1 hA1 hk1 hb1 hn1)
    | (refine wpList_app (by rfl) (.const (.slice none 0 0)) (.tmp 17) 37 37 rfl (Own.nil _ 3 1) Try.underlying37 info3 rfl (by omega) rfl rfl (src_rd (news := IV keep) (m := keep.length) Try.underlying37 (HA.out.keepF Hk1.out fun _ _ h => h).keep (by simp [IV]) (by omega) (by intro u hu; obtain ⟨z, _, rfl⟩ := List.mem_map.1 hu; rfl)) (by unfold maxLen; omega) (by omega) ?_
       intro A2 c2 w2 hO2 hK2 hA2
       rw [Nat.zero_add, List.nil_append] at hO2
       rw [Nat.zero_add]
       have hk2 : Keep No w1 w2 := hK2.mono fun k _ e => by simp at e
       have hn2 : ∀ k, bk A2 = some k → w.heap.size ≤ k := fun k hk => by
         have hs := Hk1.out.size
         rcases hA2 with rfl | ⟨rfl, h2⟩
         · simp at hk
         · simp at hk; omega
       have hd : DoS w w2 P D E s t L M S (⟨1, name, to, data, a, b, c, keep⟩, (dA, dC), (kA, kC)) w.heap.size A1 c1 A2 c2 :=
         ⟨HP.out.keepNo (Hk1.out.trans' hk2), Hk1.out.trans' hk2, (hk2.block _ (lt_blk Hb1.out) id).trans Hb1.out, fun e => by have := HP.out.lt _ e; omega, HO1.out.keep hk2 fun _ _ h => h, fun k hk e => by have h1 := Hn1.out k hk; have h2 := HP.out.lt _ e; omega,
          hO2, fun k hk e => by have h1 := hn2 k hk; have h2 := HP.out.lt _ e; omega, HA.out.keepF (Hk1.out.trans' hk2) fun _ _ h => h, HS.out⟩
       have o0 : w2.cell? ⟨w.heap.size, 0, none⟩ = some (.int .i64 1) := (cell_blk hd.box 0).trans rfl
       have p0 : w2.cell? ⟨P, 0, none⟩ = some (.pointer (some ⟨D, 0, none⟩)) := (cell_blk hd.pw.blk 0).trans rfl
       have p1 : w2.cell? ⟨P, 1, none⟩ = some (.pointer (some ⟨E, 0, none⟩)) := (cell_blk hd.pw.blk 1).trans rfl
       have Hd := Lib.hid hd
       clear hO2 hK2 hA2 hk2 hn2 hd HO1 Hk1 Hb1 Hn1 o7))
  obtain ⟨ob, hob⟩ : ∃ ob, w.heap.size = ob := ⟨_, rfl⟩
  rw [hob] at Hd o0 ⊢
  have hcells : Hid (∀ W, SS P D E ob #[.int .i64 1, .string name, .string to, .slice dA data.length dC, .int .i64 a, .int .i64 b, .int .i64 c, .slice kA keep.length kC] W → (W.cell? ⟨P, 0, none⟩ = some (.pointer (some ⟨D, 0, none⟩)) ∧ W.cell? ⟨P, 1, none⟩ = some (.pointer (some ⟨E, 0, none⟩)) ∧ W.cell? ⟨ob, 1, none⟩ = some (.string name) ∧ W.cell? ⟨ob, 2, none⟩ = some (.string to) ∧ W.cell? ⟨ob, 3, none⟩ = some (.slice dA data.length dC) ∧ W.cell? ⟨ob, 4, none⟩ = some (.int .i64 a) ∧ W.cell? ⟨ob, 5, none⟩ = some (.int .i64 b) ∧ W.cell? ⟨ob, 6, none⟩ = some (.int .i64 c) ∧ W.cell? ⟨ob, 7, none⟩ = some (.slice kA keep.length kC))) := fun W hW =>
    ⟨(cell_blk hW.1 0).trans rfl, (cell_blk hW.1 1).trans rfl, (cell_blk hW.2 1).trans rfl, (cell_blk hW.2 2).trans rfl, (cell_blk hW.2 3).trans rfl, (cell_blk hW.2 4).trans rfl, (cell_blk hW.2 5).trans rfl, (cell_blk hW.2 6).trans rfl, (cell_blk hW.2 7).trans rfl⟩
  have Hob := Lib.hid hob
  clear hob
  have hch : s.changes.length ≤ 1000000 := Nat.le_trans Hg.out.gs.ch (by omega)
  have hcht : t.changes.length ≤ 1000000 := Nat.le_trans Hg.out.gt.ch (by omega)
  have hflt : t.files.length ≤ 1000000000 := by have := Hg.out.fl; omega
  have hsim := Hg.out.sim.create name
  have hnm := HA.out.name
  have hto := HA.out.to
  simp only at hnm hto
  have hc1 : ∀ W, Keep No w2 W → Calls Try.prog 18 #[.pointer (some ⟨D, 0, none⟩), .string name] W fun e w' => e = .returned (.int .i64 (s.create name).1) ∧ DidP W P D E L M (s.create name).2 t w' := fun W hW =>
    (create_any (Hd.out.pw.keepNo hW).d Hg.out.gs.wf name hnm hch).mono fun _ _ ⟨h1, h2⟩ => ⟨h1, (Hd.out.pw.keepNo hW).stepD h2⟩
  clear hch
  have Hc1 := Lib.hid hc1
  clear hc1
  go_wp2_with fail
  refine wp_region_T (SS P D E ob #[.int .i64 1, .string name, .string to, .slice dA data.length dC, .int .i64 a, .int .i64 b, .int .i64 c, .slice kA keep.length kC]) [(0, true), (1, true), (2, true), (3, true), (4, true), (5, true), (6, false), (7, false)] (by kernel_rfl) (by kernel_rfl) (Hd.out.ss) ?_
  iterate 6
    (apply T_read rfl (by rfl)
     (· (intro W hW; have hc := hcells.out W hW; go_simp; try with_reducible rfl))
     (try simp only [Act.put, List.getElem_toArray, List.getElem_cons_succ, List.getElem_cons_zero, List.setIfInBounds_toArray, List.set_cons_zero, List.set_cons_succ]))
  refine T_do rfl (by rfl) (fun K hK => ?_)
  go_simp
  refine (Hc1.out _ (Keep.refl No w2).drew).mono ?_
  rintro e w3 ⟨rfl, L1, M1, hP1, hk1, hf1⟩
  have hk1 : Keep (footP P D E L M) w2 w3 := hk1.of_drew
  have hob3 : w3.heap[ob]? = some (.cells #[.int .i64 1, .string name, .string to, .slice dA data.length dC, .int .i64 a, .int .i64 b, .int .i64 c, .slice kA keep.length kC] 45 (0, 0)) := (hk1.block ob (lt_blk Hd.out.box) Hd.out.obn).trans Hd.out.box
  have hss : SS P D E ob #[.int .i64 1, .string name, .string to, .slice dA data.length dC, .int .i64 a, .int .i64 b, .int .i64 c, .slice kA keep.length kC] w3 := ⟨hP1.blk, hob3⟩
  have p0 : w3.cell? ⟨P, 0, none⟩ = some (.pointer (some ⟨D, 0, none⟩)) := (cell_blk hss.1 0).trans rfl
  have p1 : w3.cell? ⟨P, 1, none⟩ = some (.pointer (some ⟨E, 0, none⟩)) := (cell_blk hss.1 1).trans rfl
  have hc2 : ∀ W, Keep No w3 W → Calls Try.prog 36 #[.pointer (some ⟨E, 0, none⟩), .string name] W fun e w' => e = .returned (.int .i64 (s.create name).1) ∧ DidP W P D E L1 M1 (s.create name).2 (t.create name).2 w' := fun W hW =>
    (createR_any (hP1.keepNo hW).r Hg.out.gt.wf hcht hflt name hnm).mono fun _ _ ⟨h1, h2⟩ => ⟨by rw [h1, hsim.1], (hP1.keepNo hW).stepR h2⟩
  have Hc2 := Lib.hid hc2
  have HP1 := Lib.hid hP1
  have Hk1 := Lib.hid hk1
  have Hf1 : Hid (∀ k, footP P D E L1 M1 k → footP P D E L M k ∨ New w2 w3 k) := hf1
  have Hss := Lib.hid hss
  clear hc2 hP1 hk1 hf1 hob3 hss
  refine hK _ _ (fun _ => Hss.out) ?_
  refine T_do rfl (by rfl) (fun K hK => ?_)
  go_simp
  refine hK _ _ (fun h => absurd rfl h) (T_end ?_)
  go_wp2_with fail
  have hss := Hss.out
  refine wp_region_T (SS P D E ob #[.int .i64 1, .string name, .string to, .slice dA data.length dC, .int .i64 a, .int .i64 b, .int .i64 c, .slice kA keep.length kC]) [(0, true), (1, true), (2, true), (3, true), (4, true), (5, true), (6, false), (7, false)] (by kernel_rfl) (by kernel_rfl) (hss) ?_
  iterate 6
    (apply T_read rfl (by rfl)
     (· (intro W hW; have hc := hcells.out W hW; go_simp; try with_reducible rfl))
     (try simp only [Act.put, List.getElem_toArray, List.getElem_cons_succ, List.getElem_cons_zero, List.setIfInBounds_toArray, List.set_cons_zero, List.set_cons_succ]))
  refine T_do rfl (by rfl) (fun K hK => ?_)
  go_simp
  refine (Hc2.out _ (Keep.refl No w3).drew).mono ?_
  rintro e w4 ⟨rfl, hd4⟩
  have hd4s := hd4.after (Keep.refl No w3).drew
  have hd4 : DidP w P D E L M (s.create name).2 (t.create name).2 w4 := (DidP.trans Hk1.out Hf1.out hd4s).after Hd.out.k
  have hk4 : Keep (footP P D E L M) w2 w4 := by
    obtain ⟨_, _, _, h5, _⟩ := DidP.trans Hk1.out Hf1.out hd4s
    exact h5
  obtain ⟨hob4, hsb, hsi⟩ := Hd.out.fin hk4
  simp only at hsb hsi
  have o3 : w4.cell? ⟨ob, 3, none⟩ = some (.slice dA data.length dC) := (cell_blk hob4 3).trans rfl
  have o7 : w4.cell? ⟨ob, 7, none⟩ = some (.slice kA keep.length kC) := (cell_blk hob4 7).trans rfl
  have hss4 : SS P D E ob #[.int .i64 1, .string name, .string to, .slice dA data.length dC, .int .i64 a, .int .i64 b, .int .i64 c, .slice kA keep.length kC] w4 := by
    obtain ⟨_, _, h5, _, _⟩ := hd4
    exact ⟨h5.blk, hob4⟩
  have Hss4 := Lib.hid hss4
  have Hd4 := Lib.hid hd4
  have Hsb := Lib.hid hsb
  have Hsi := Lib.hid hsi
  clear hob4 hsb hsi hk4 hd4 hss4
  refine hK _ _ (fun _ => Hss4.out) ?_
  refine T_do rfl (by rfl) (fun K hK => ?_)
  go_simp
  refine hK _ _ (fun h => absurd rfl h) (T_end ?_)
  go_wp2_with fail
  refine Hsb.out.mono ?_
  rintro e w5 ⟨rfl, rfl⟩
  go_wp2_with fail
  refine Hsi.out.mono ?_
  rintro e w5 ⟨rfl, m5, rfl⟩
  go_wp2_with fail
  go_ret
  exact ⟨rfl, Hd4.out.before ((Keep.refl No w4).drewN m5)⟩

end Go.Dx

namespace Go.Dx
open Go.RowKit Go.Proofs

set_option maxRecDepth 100000 in
set_option maxHeartbeats 16000000 in
theorem does_sync {w : World} {P D E : Nat} {s t : St} {L : PL} {M : RL} {n : Nat} (hP : PW w P D E s t L M) (hg : SimG s t n) (hn : n ≤ 100000) {S : Nat → Prop} {name to : Nm} {data : List UInt8} {a b c : Int} {keep : List Int} {dA kA : Option Addr} {dC kC : Nat}
    (ha : ArgO w S (⟨3, name, to, data, a, b, c, keep⟩, (dA, dC), (kA, kC))) (hS : ∀ k, S k → ¬ footP P D E L M k) :
    Calls Try.prog 31 #[.pointer (some ⟨P, 0, none⟩), .agg #[.int .i64 3, .string name, .string to, .slice dA data.length dC, .int .i64 a, .int .i64 b, .int .i64 c, .slice kA keep.length kC]] w fun e w' => e = .returned (.bool true) ∧ DidP w P D E L M (s.sync name).2 (t.sync name).2 w' := by
  have HP := Lib.hid hP
  have Hg := Lib.hid hg
  have HA := Lib.hid ha
  have HS := Lib.hid hS
  have hdm := ha.data.max
  have hkm := ha.klen
  simp only at hdm hkm
  clear hP hg ha hS
  go_enter Try.func31, Try.ntmps31
  go_wp2_with (first
    | (have hA0 := HA.out.keepF ((Keep.refl No w).alloc (.cells #[.int .i64 3, .string name, .string to, .slice dA data.length dC, .int .i64 a, .int .i64 b, .int .i64 c, .slice kA keep.length kC] 45)) fun _ _ h => h
       have hsrc := hA0.data.src data.length (Nat.le_refl _)
       rw [List.take_length] at hsrc
       refine wpList_app (by rfl) (.const (.slice none 0 0)) (.tmp 14) 43 43 rfl (Own.nil _ 5 1) Try.underlying43 info5 rfl (by omega) rfl rfl hsrc (by unfold maxLen; omega) (by omega) ?_
       intro A1 c1 w1 hO1 hK1 hA1
       rw [Nat.zero_add, List.nil_append] at hO1
       rw [Nat.zero_add]
       have hk1 : Keep No w w1 := ((Keep.refl No w).alloc (.cells #[.int .i64 3, .string name, .string to, .slice dA data.length dC, .int .i64 a, .int .i64 b, .int .i64 c, .slice kA keep.length kC] 45)).trans' (hK1.mono fun k _ e => by simp at e)
       have hb1 : w1.heap[w.heap.size]? = some (.cells #[.int .i64 3, .string name, .string to, .slice dA data.length dC, .int .i64 a, .int .i64 b, .int .i64 c, .slice kA keep.length kC] 45 (0, 0)) := (hK1.block _ (by simp) (by simp)).trans (alloc_new w _)
       have hn1 : ∀ k, bk A1 = some k → w.heap.size ≤ k := fun k hk => by
         rcases hA1 with rfl | ⟨rfl, h2⟩
         · simp at hk
         · simp at hk; omega
       have o7 : w1.cell? ⟨w.heap.size, 7, none⟩ = some (.slice kA keep.length kC) := (cell_blk hb1 7).trans rfl
       have HO1 := Lib.hid hO1
       have Hk1 := Lib.hid hk1
       have Hb1 := Lib.hid hb1
       have Hn1 := Lib.hid hn1
       clear hA0 hsrc hO1 hK1 hA1 hk1 hb1 hn1)
    | (refine wpList_app (by rfl) (.const (.slice none 0 0)) (.tmp 17) 37 37 rfl (Own.nil _ 3 1) Try.underlying37 info3 rfl (by omega) rfl rfl (src_rd (news := IV keep) (m := keep.length) Try.underlying37 (HA.out.keepF Hk1.out fun _ _ h => h).keep (by simp [IV]) (by omega) (by intro u hu; obtain ⟨z, _, rfl⟩ := List.mem_map.1 hu; rfl)) (by unfold maxLen; omega) (by omega) ?_
       intro A2 c2 w2 hO2 hK2 hA2
       rw [Nat.zero_add, List.nil_append] at hO2
       rw [Nat.zero_add]
       have hk2 : Keep No w1 w2 := hK2.mono fun k _ e => by simp at e
       have hn2 : ∀ k, bk A2 = some k → w.heap.size ≤ k := fun k hk => by
         have hs := Hk1.out.size
         rcases hA2 with rfl | ⟨rfl, h2⟩
         · simp at hk
         · simp at hk; omega
       have hd : DoS w w2 P D E s t L M S (⟨3, name, to, data, a, b, c, keep⟩, (dA, dC), (kA, kC)) w.heap.size A1 c1 A2 c2 :=
         ⟨HP.out.keepNo (Hk1.out.trans' hk2), Hk1.out.trans' hk2, (hk2.block _ (lt_blk Hb1.out) id).trans Hb1.out, fun e => by have := HP.out.lt _ e; omega, HO1.out.keep hk2 fun _ _ h => h, fun k hk e => by have h1 := Hn1.out k hk; have h2 := HP.out.lt _ e; omega,
          hO2, fun k hk e => by have h1 := hn2 k hk; have h2 := HP.out.lt _ e; omega, HA.out.keepF (Hk1.out.trans' hk2) fun _ _ h => h, HS.out⟩
       have o0 : w2.cell? ⟨w.heap.size, 0, none⟩ = some (.int .i64 3) := (cell_blk hd.box 0).trans rfl
       have p0 : w2.cell? ⟨P, 0, none⟩ = some (.pointer (some ⟨D, 0, none⟩)) := (cell_blk hd.pw.blk 0).trans rfl
       have p1 : w2.cell? ⟨P, 1, none⟩ = some (.pointer (some ⟨E, 0, none⟩)) := (cell_blk hd.pw.blk 1).trans rfl
       have Hd := Lib.hid hd
       clear hO2 hK2 hA2 hk2 hn2 hd HO1 Hk1 Hb1 Hn1 o7))
  obtain ⟨ob, hob⟩ : ∃ ob, w.heap.size = ob := ⟨_, rfl⟩
  rw [hob] at Hd o0 ⊢
  have hcells : Hid (∀ W, SS P D E ob #[.int .i64 3, .string name, .string to, .slice dA data.length dC, .int .i64 a, .int .i64 b, .int .i64 c, .slice kA keep.length kC] W → (W.cell? ⟨P, 0, none⟩ = some (.pointer (some ⟨D, 0, none⟩)) ∧ W.cell? ⟨P, 1, none⟩ = some (.pointer (some ⟨E, 0, none⟩)) ∧ W.cell? ⟨ob, 1, none⟩ = some (.string name) ∧ W.cell? ⟨ob, 2, none⟩ = some (.string to) ∧ W.cell? ⟨ob, 3, none⟩ = some (.slice dA data.length dC) ∧ W.cell? ⟨ob, 4, none⟩ = some (.int .i64 a) ∧ W.cell? ⟨ob, 5, none⟩ = some (.int .i64 b) ∧ W.cell? ⟨ob, 6, none⟩ = some (.int .i64 c) ∧ W.cell? ⟨ob, 7, none⟩ = some (.slice kA keep.length kC))) := fun W hW =>
    ⟨(cell_blk hW.1 0).trans rfl, (cell_blk hW.1 1).trans rfl, (cell_blk hW.2 1).trans rfl, (cell_blk hW.2 2).trans rfl, (cell_blk hW.2 3).trans rfl, (cell_blk hW.2 4).trans rfl, (cell_blk hW.2 5).trans rfl, (cell_blk hW.2 6).trans rfl, (cell_blk hW.2 7).trans rfl⟩
  have Hob := Lib.hid hob
  clear hob
  have hch : s.changes.length ≤ 1000000 := Nat.le_trans Hg.out.gs.ch (by omega)
  have hcht : t.changes.length ≤ 1000000 := Nat.le_trans Hg.out.gt.ch (by omega)
  have hflt : t.files.length ≤ 1000000000 := by have := Hg.out.fl; omega
  have hsim := Hg.out.sim.sync name
  have hnm := HA.out.name
  have hto := HA.out.to
  simp only at hnm hto
  have hc1 : ∀ W, Keep No w2 W → Calls Try.prog 21 #[.pointer (some ⟨D, 0, none⟩), .string name] W fun e w' => e = .returned (.int .i64 (s.sync name).1) ∧ DidP W P D E L M (s.sync name).2 t w' := fun W hW =>
    (sync_any (Hd.out.pw.keepNo hW).d Hg.out.gs.wf name hnm).mono fun _ _ ⟨h1, h2⟩ => ⟨h1, (Hd.out.pw.keepNo hW).stepD h2⟩
  clear hch
  have Hc1 := Lib.hid hc1
  clear hc1
  go_wp2_with fail
  refine wp_region_T (SS P D E ob #[.int .i64 3, .string name, .string to, .slice dA data.length dC, .int .i64 a, .int .i64 b, .int .i64 c, .slice kA keep.length kC]) [(0, true), (1, true), (2, true), (3, true), (4, true), (5, true), (6, false), (7, false)] (by kernel_rfl) (by kernel_rfl) (Hd.out.ss) ?_
  iterate 6
    (apply T_read rfl (by rfl)
     (· (intro W hW; have hc := hcells.out W hW; go_simp; try with_reducible rfl))
     (try simp only [Act.put, List.getElem_toArray, List.getElem_cons_succ, List.getElem_cons_zero, List.setIfInBounds_toArray, List.set_cons_zero, List.set_cons_succ]))
  refine T_do rfl (by rfl) (fun K hK => ?_)
  go_simp
  refine (Hc1.out _ (Keep.refl No w2).drew).mono ?_
  rintro e w3 ⟨rfl, L1, M1, hP1, hk1, hf1⟩
  have hk1 : Keep (footP P D E L M) w2 w3 := hk1.of_drew
  have hob3 : w3.heap[ob]? = some (.cells #[.int .i64 3, .string name, .string to, .slice dA data.length dC, .int .i64 a, .int .i64 b, .int .i64 c, .slice kA keep.length kC] 45 (0, 0)) := (hk1.block ob (lt_blk Hd.out.box) Hd.out.obn).trans Hd.out.box
  have hss : SS P D E ob #[.int .i64 3, .string name, .string to, .slice dA data.length dC, .int .i64 a, .int .i64 b, .int .i64 c, .slice kA keep.length kC] w3 := ⟨hP1.blk, hob3⟩
  have p0 : w3.cell? ⟨P, 0, none⟩ = some (.pointer (some ⟨D, 0, none⟩)) := (cell_blk hss.1 0).trans rfl
  have p1 : w3.cell? ⟨P, 1, none⟩ = some (.pointer (some ⟨E, 0, none⟩)) := (cell_blk hss.1 1).trans rfl
  have hc2 : ∀ W, Keep No w3 W → Calls Try.prog 52 #[.pointer (some ⟨E, 0, none⟩), .string name] W fun e w' => e = .returned (.int .i64 (s.sync name).1) ∧ DidP W P D E L1 M1 (s.sync name).2 (t.sync name).2 w' := fun W hW =>
    (syncR_any (hP1.keepNo hW).r Hg.out.gt.wf name hnm).mono fun _ _ ⟨h1, h2⟩ => ⟨by rw [h1, hsim.1], (hP1.keepNo hW).stepR h2⟩
  have Hc2 := Lib.hid hc2
  have HP1 := Lib.hid hP1
  have Hk1 := Lib.hid hk1
  have Hf1 : Hid (∀ k, footP P D E L1 M1 k → footP P D E L M k ∨ New w2 w3 k) := hf1
  have Hss := Lib.hid hss
  clear hc2 hP1 hk1 hf1 hob3 hss
  refine hK _ _ (fun _ => Hss.out) ?_
  refine T_do rfl (by rfl) (fun K hK => ?_)
  go_simp
  refine hK _ _ (fun h => absurd rfl h) (T_end ?_)
  go_wp2_with fail
  have hss := Hss.out
  refine wp_region_T (SS P D E ob #[.int .i64 3, .string name, .string to, .slice dA data.length dC, .int .i64 a, .int .i64 b, .int .i64 c, .slice kA keep.length kC]) [(0, true), (1, true), (2, true), (3, true), (4, true), (5, true), (6, false), (7, false)] (by kernel_rfl) (by kernel_rfl) (hss) ?_
  iterate 6
    (apply T_read rfl (by rfl)
     (· (intro W hW; have hc := hcells.out W hW; go_simp; try with_reducible rfl))
     (try simp only [Act.put, List.getElem_toArray, List.getElem_cons_succ, List.getElem_cons_zero, List.setIfInBounds_toArray, List.set_cons_zero, List.set_cons_succ]))
  refine T_do rfl (by rfl) (fun K hK => ?_)
  go_simp
  refine (Hc2.out _ (Keep.refl No w3).drew).mono ?_
  rintro e w4 ⟨rfl, hd4⟩
  have hd4s := hd4.after (Keep.refl No w3).drew
  have hd4 : DidP w P D E L M (s.sync name).2 (t.sync name).2 w4 := (DidP.trans Hk1.out Hf1.out hd4s).after Hd.out.k
  have hk4 : Keep (footP P D E L M) w2 w4 := by
    obtain ⟨_, _, _, h5, _⟩ := DidP.trans Hk1.out Hf1.out hd4s
    exact h5
  obtain ⟨hob4, hsb, hsi⟩ := Hd.out.fin hk4
  simp only at hsb hsi
  have o3 : w4.cell? ⟨ob, 3, none⟩ = some (.slice dA data.length dC) := (cell_blk hob4 3).trans rfl
  have o7 : w4.cell? ⟨ob, 7, none⟩ = some (.slice kA keep.length kC) := (cell_blk hob4 7).trans rfl
  have hss4 : SS P D E ob #[.int .i64 3, .string name, .string to, .slice dA data.length dC, .int .i64 a, .int .i64 b, .int .i64 c, .slice kA keep.length kC] w4 := by
    obtain ⟨_, _, h5, _, _⟩ := hd4
    exact ⟨h5.blk, hob4⟩
  have Hss4 := Lib.hid hss4
  have Hd4 := Lib.hid hd4
  have Hsb := Lib.hid hsb
  have Hsi := Lib.hid hsi
  clear hob4 hsb hsi hk4 hd4 hss4
  refine hK _ _ (fun _ => Hss4.out) ?_
  refine T_do rfl (by rfl) (fun K hK => ?_)
  go_simp
  refine hK _ _ (fun h => absurd rfl h) (T_end ?_)
  go_wp2_with fail
  refine Hsb.out.mono ?_
  rintro e w5 ⟨rfl, rfl⟩
  go_wp2_with fail
  refine Hsi.out.mono ?_
  rintro e w5 ⟨rfl, m5, rfl⟩
  go_wp2_with fail
  go_ret
  exact ⟨rfl, Hd4.out.before ((Keep.refl No w4).drewN m5)⟩

set_option maxRecDepth 100000 in
set_option maxHeartbeats 16000000 in
theorem does_rename {w : World} {P D E : Nat} {s t : St} {L : PL} {M : RL} {n : Nat} (hP : PW w P D E s t L M) (hg : SimG s t n) (hn : n ≤ 100000) {S : Nat → Prop} {name to : Nm} {data : List UInt8} {a b c : Int} {keep : List Int} {dA kA : Option Addr} {dC kC : Nat}
    (ha : ArgO w S (⟨4, name, to, data, a, b, c, keep⟩, (dA, dC), (kA, kC))) (hS : ∀ k, S k → ¬ footP P D E L M k) :
    Calls Try.prog 31 #[.pointer (some ⟨P, 0, none⟩), .agg #[.int .i64 4, .string name, .string to, .slice dA data.length dC, .int .i64 a, .int .i64 b, .int .i64 c, .slice kA keep.length kC]] w fun e w' => e = .returned (.bool true) ∧ DidP w P D E L M (s.rename name to).2 (t.rename name to).2 w' := by
  have HP := Lib.hid hP
  have Hg := Lib.hid hg
  have HA := Lib.hid ha
  have HS := Lib.hid hS
  have hdm := ha.data.max
  have hkm := ha.klen
  simp only at hdm hkm
  clear hP hg ha hS
  go_enter Try.func31, Try.ntmps31
  go_wp2_with (first
    | (have hA0 := HA.out.keepF ((Keep.refl No w).alloc (.cells #[.int .i64 4, .string name, .string to, .slice dA data.length dC, .int .i64 a, .int .i64 b, .int .i64 c, .slice kA keep.length kC] 45)) fun _ _ h => h
       have hsrc := hA0.data.src data.length (Nat.le_refl _)
       rw [List.take_length] at hsrc
       refine wpList_app (by rfl) (.const (.slice none 0 0)) (.tmp 14) 43 43 rfl (Own.nil _ 5 1) Try.underlying43 info5 rfl (by omega) rfl rfl hsrc (by unfold maxLen; omega) (by omega) ?_
       intro A1 c1 w1 hO1 hK1 hA1
       rw [Nat.zero_add, List.nil_append] at hO1
       rw [Nat.zero_add]
       have hk1 : Keep No w w1 := ((Keep.refl No w).alloc (.cells #[.int .i64 4, .string name, .string to, .slice dA data.length dC, .int .i64 a, .int .i64 b, .int .i64 c, .slice kA keep.length kC] 45)).trans' (hK1.mono fun k _ e => by simp at e)
       have hb1 : w1.heap[w.heap.size]? = some (.cells #[.int .i64 4, .string name, .string to, .slice dA data.length dC, .int .i64 a, .int .i64 b, .int .i64 c, .slice kA keep.length kC] 45 (0, 0)) := (hK1.block _ (by simp) (by simp)).trans (alloc_new w _)
       have hn1 : ∀ k, bk A1 = some k → w.heap.size ≤ k := fun k hk => by
         rcases hA1 with rfl | ⟨rfl, h2⟩
         · simp at hk
         · simp at hk; omega
       have o7 : w1.cell? ⟨w.heap.size, 7, none⟩ = some (.slice kA keep.length kC) := (cell_blk hb1 7).trans rfl
       have HO1 := Lib.hid hO1
       have Hk1 := Lib.hid hk1
       have Hb1 := Lib.hid hb1
       have Hn1 := Lib.hid hn1
       clear hA0 hsrc hO1 hK1 hA1 hk1 hb1 hn1)
    | (refine wpList_app (by rfl) (.const (.slice none 0 0)) (.tmp 17) 37 37 rfl (Own.nil _ 3 1) Try.underlying37 info3 rfl (by omega) rfl rfl (src_rd (news := IV keep) (m := keep.length) Try.underlying37 (HA.out.keepF Hk1.out fun _ _ h => h).keep (by simp [IV]) (by omega) (by intro u hu; obtain ⟨z, _, rfl⟩ := List.mem_map.1 hu; rfl)) (by unfold maxLen; omega) (by omega) ?_
       intro A2 c2 w2 hO2 hK2 hA2
       rw [Nat.zero_add, List.nil_append] at hO2
       rw [Nat.zero_add]
       have hk2 : Keep No w1 w2 := hK2.mono fun k _ e => by simp at e
       have hn2 : ∀ k, bk A2 = some k → w.heap.size ≤ k := fun k hk => by
         have hs := Hk1.out.size
         rcases hA2 with rfl | ⟨rfl, h2⟩
         · simp at hk
         · simp at hk; omega
       have hd : DoS w w2 P D E s t L M S (⟨4, name, to, data, a, b, c, keep⟩, (dA, dC), (kA, kC)) w.heap.size A1 c1 A2 c2 :=
         ⟨HP.out.keepNo (Hk1.out.trans' hk2), Hk1.out.trans' hk2, (hk2.block _ (lt_blk Hb1.out) id).trans Hb1.out, fun e => by have := HP.out.lt _ e; omega, HO1.out.keep hk2 fun _ _ h => h, fun k hk e => by have h1 := Hn1.out k hk; have h2 := HP.out.lt _ e; omega,
          hO2, fun k hk e => by have h1 := hn2 k hk; have h2 := HP.out.lt _ e; omega, HA.out.keepF (Hk1.out.trans' hk2) fun _ _ h => h, HS.out⟩
       have o0 : w2.cell? ⟨w.heap.size, 0, none⟩ = some (.int .i64 4) := (cell_blk hd.box 0).trans rfl
       have p0 : w2.cell? ⟨P, 0, none⟩ = some (.pointer (some ⟨D, 0, none⟩)) := (cell_blk hd.pw.blk 0).trans rfl
       have p1 : w2.cell? ⟨P, 1, none⟩ = some (.pointer (some ⟨E, 0, none⟩)) := (cell_blk hd.pw.blk 1).trans rfl
       have Hd := Lib.hid hd
       clear hO2 hK2 hA2 hk2 hn2 hd HO1 Hk1 Hb1 Hn1 o7))
  obtain ⟨ob, hob⟩ : ∃ ob, w.heap.size = ob := ⟨_, rfl⟩
  rw [hob] at Hd o0 ⊢
  have hcells : Hid (∀ W, SS P D E ob #[.int .i64 4, .string name, .string to, .slice dA data.length dC, .int .i64 a, .int .i64 b, .int .i64 c, .slice kA keep.length kC] W → (W.cell? ⟨P, 0, none⟩ = some (.pointer (some ⟨D, 0, none⟩)) ∧ W.cell? ⟨P, 1, none⟩ = some (.pointer (some ⟨E, 0, none⟩)) ∧ W.cell? ⟨ob, 1, none⟩ = some (.string name) ∧ W.cell? ⟨ob, 2, none⟩ = some (.string to) ∧ W.cell? ⟨ob, 3, none⟩ = some (.slice dA data.length dC) ∧ W.cell? ⟨ob, 4, none⟩ = some (.int .i64 a) ∧ W.cell? ⟨ob, 5, none⟩ = some (.int .i64 b) ∧ W.cell? ⟨ob, 6, none⟩ = some (.int .i64 c) ∧ W.cell? ⟨ob, 7, none⟩ = some (.slice kA keep.length kC))) := fun W hW =>
    ⟨(cell_blk hW.1 0).trans rfl, (cell_blk hW.1 1).trans rfl, (cell_blk hW.2 1).trans rfl, (cell_blk hW.2 2).trans rfl, (cell_blk hW.2 3).trans rfl, (cell_blk hW.2 4).trans rfl, (cell_blk hW.2 5).trans rfl, (cell_blk hW.2 6).trans rfl, (cell_blk hW.2 7).trans rfl⟩
  have Hob := Lib.hid hob
  clear hob
  have hch : s.changes.length ≤ 1000000 := Nat.le_trans Hg.out.gs.ch (by omega)
  have hcht : t.changes.length ≤ 1000000 := Nat.le_trans Hg.out.gt.ch (by omega)
  have hflt : t.files.length ≤ 1000000000 := by have := Hg.out.fl; omega
  have hsim := Hg.out.sim.rename name to
  have hnm := HA.out.name
  have hto := HA.out.to
  simp only at hnm hto
  have hc1 : ∀ W, Keep No w2 W → Calls Try.prog 23 #[.pointer (some ⟨D, 0, none⟩), .string name, .string to] W fun e w' => e = .returned (.int .i64 (s.rename name to).1) ∧ DidP W P D E L M (s.rename name to).2 t w' := fun W hW =>
    (rename_any (Hd.out.pw.keepNo hW).d Hg.out.gs.wf hch name to hnm hto).mono fun _ _ ⟨h1, h2⟩ => ⟨h1, (Hd.out.pw.keepNo hW).stepD h2⟩
  clear hch
  have Hc1 := Lib.hid hc1
  clear hc1
  go_wp2_with fail
  refine wp_region_T (SS P D E ob #[.int .i64 4, .string name, .string to, .slice dA data.length dC, .int .i64 a, .int .i64 b, .int .i64 c, .slice kA keep.length kC]) [(0, true), (1, true), (2, true), (3, true), (4, true), (5, true), (6, true), (7, true), (8, false), (9, false)] (by kernel_rfl) (by kernel_rfl) (Hd.out.ss) ?_
  iterate 8
    (apply T_read rfl (by rfl)
     (· (intro W hW; have hc := hcells.out W hW; go_simp; try with_reducible rfl))
     (try simp only [Act.put, List.getElem_toArray, List.getElem_cons_succ, List.getElem_cons_zero, List.setIfInBounds_toArray, List.set_cons_zero, List.set_cons_succ]))
  refine T_do rfl (by rfl) (fun K hK => ?_)
  go_simp
  refine (Hc1.out _ (Keep.refl No w2).drew).mono ?_
  rintro e w3 ⟨rfl, L1, M1, hP1, hk1, hf1⟩
  have hk1 : Keep (footP P D E L M) w2 w3 := hk1.of_drew
  have hob3 : w3.heap[ob]? = some (.cells #[.int .i64 4, .string name, .string to, .slice dA data.length dC, .int .i64 a, .int .i64 b, .int .i64 c, .slice kA keep.length kC] 45 (0, 0)) := (hk1.block ob (lt_blk Hd.out.box) Hd.out.obn).trans Hd.out.box
  have hss : SS P D E ob #[.int .i64 4, .string name, .string to, .slice dA data.length dC, .int .i64 a, .int .i64 b, .int .i64 c, .slice kA keep.length kC] w3 := ⟨hP1.blk, hob3⟩
  have p0 : w3.cell? ⟨P, 0, none⟩ = some (.pointer (some ⟨D, 0, none⟩)) := (cell_blk hss.1 0).trans rfl
  have p1 : w3.cell? ⟨P, 1, none⟩ = some (.pointer (some ⟨E, 0, none⟩)) := (cell_blk hss.1 1).trans rfl
  have hc2 : ∀ W, Keep No w3 W → Calls Try.prog 53 #[.pointer (some ⟨E, 0, none⟩), .string name, .string to] W fun e w' => e = .returned (.int .i64 (s.rename name to).1) ∧ DidP W P D E L1 M1 (s.rename name to).2 (t.rename name to).2 w' := fun W hW =>
    (renameR_any (hP1.keepNo hW).r Hg.out.gt.wf hcht name to hnm hto).mono fun _ _ ⟨h1, h2⟩ => ⟨by rw [h1, hsim.1], (hP1.keepNo hW).stepR h2⟩
  have Hc2 := Lib.hid hc2
  have HP1 := Lib.hid hP1
  have Hk1 := Lib.hid hk1
  have Hf1 : Hid (∀ k, footP P D E L1 M1 k → footP P D E L M k ∨ New w2 w3 k) := hf1
  have Hss := Lib.hid hss
  clear hc2 hP1 hk1 hf1 hob3 hss
  refine hK _ _ (fun _ => Hss.out) ?_
  refine T_do rfl (by rfl) (fun K hK => ?_)
  go_simp
  refine hK _ _ (fun h => absurd rfl h) (T_end ?_)
  go_wp2_with fail
  have hss := Hss.out
  refine wp_region_T (SS P D E ob #[.int .i64 4, .string name, .string to, .slice dA data.length dC, .int .i64 a, .int .i64 b, .int .i64 c, .slice kA keep.length kC]) [(0, true), (1, true), (2, true), (3, true), (4, true), (5, true), (6, true), (7, true), (8, false), (9, false)] (by kernel_rfl) (by kernel_rfl) (hss) ?_
  iterate 8
    (apply T_read rfl (by rfl)
     (· (intro W hW; have hc := hcells.out W hW; go_simp; try with_reducible rfl))
     (try simp only [Act.put, List.getElem_toArray, List.getElem_cons_succ, List.getElem_cons_zero, List.setIfInBounds_toArray, List.set_cons_zero, List.set_cons_succ]))
  refine T_do rfl (by rfl) (fun K hK => ?_)
  go_simp
  refine (Hc2.out _ (Keep.refl No w3).drew).mono ?_
  rintro e w4 ⟨rfl, hd4⟩
  have hd4s := hd4.after (Keep.refl No w3).drew
  have hd4 : DidP w P D E L M (s.rename name to).2 (t.rename name to).2 w4 := (DidP.trans Hk1.out Hf1.out hd4s).after Hd.out.k
  have hk4 : Keep (footP P D E L M) w2 w4 := by
    obtain ⟨_, _, _, h5, _⟩ := DidP.trans Hk1.out Hf1.out hd4s
    exact h5
  obtain ⟨hob4, hsb, hsi⟩ := Hd.out.fin hk4
  simp only at hsb hsi
  have o3 : w4.cell? ⟨ob, 3, none⟩ = some (.slice dA data.length dC) := (cell_blk hob4 3).trans rfl
  have o7 : w4.cell? ⟨ob, 7, none⟩ = some (.slice kA keep.length kC) := (cell_blk hob4 7).trans rfl
  have hss4 : SS P D E ob #[.int .i64 4, .string name, .string to, .slice dA data.length dC, .int .i64 a, .int .i64 b, .int .i64 c, .slice kA keep.length kC] w4 := by
    obtain ⟨_, _, h5, _, _⟩ := hd4
    exact ⟨h5.blk, hob4⟩
  have Hss4 := Lib.hid hss4
  have Hd4 := Lib.hid hd4
  have Hsb := Lib.hid hsb
  have Hsi := Lib.hid hsi
  clear hob4 hsb hsi hk4 hd4 hss4
  refine hK _ _ (fun _ => Hss4.out) ?_
  refine T_do rfl (by rfl) (fun K hK => ?_)
  go_simp
  refine hK _ _ (fun h => absurd rfl h) (T_end ?_)
  go_wp2_with fail
  refine Hsb.out.mono ?_
  rintro e w5 ⟨rfl, rfl⟩
  go_wp2_with fail
  refine Hsi.out.mono ?_
  rintro e w5 ⟨rfl, m5, rfl⟩
  go_wp2_with fail
  go_ret
  exact ⟨rfl, Hd4.out.before ((Keep.refl No w4).drewN m5)⟩

set_option maxRecDepth 100000 in
set_option maxHeartbeats 16000000 in
theorem does_delete {w : World} {P D E : Nat} {s t : St} {L : PL} {M : RL} {n : Nat} (hP : PW w P D E s t L M) (hg : SimG s t n) (hn : n ≤ 100000) {S : Nat → Prop} {name to : Nm} {data : List UInt8} {a b c : Int} {keep : List Int} {dA kA : Option Addr} {dC kC : Nat}
    (ha : ArgO w S (⟨5, name, to, data, a, b, c, keep⟩, (dA, dC), (kA, kC))) (hS : ∀ k, S k → ¬ footP P D E L M k) :
    Calls Try.prog 31 #[.pointer (some ⟨P, 0, none⟩), .agg #[.int .i64 5, .string name, .string to, .slice dA data.length dC, .int .i64 a, .int .i64 b, .int .i64 c, .slice kA keep.length kC]] w fun e w' => e = .returned (.bool true) ∧ DidP w P D E L M (s.delete name).2 (t.delete name).2 w' := by
  have HP := Lib.hid hP
  have Hg := Lib.hid hg
  have HA := Lib.hid ha
  have HS := Lib.hid hS
  have hdm := ha.data.max
  have hkm := ha.klen
  simp only at hdm hkm
  clear hP hg ha hS
  go_enter Try.func31, Try.ntmps31
  go_wp2_with (first
    | (have hA0 := HA.out.keepF ((Keep.refl No w).alloc (.cells #[.int .i64 5, .string name, .string to, .slice dA data.length dC, .int .i64 a, .int .i64 b, .int .i64 c, .slice kA keep.length kC] 45)) fun _ _ h => h
       have hsrc := hA0.data.src data.length (Nat.le_refl _)
       rw [List.take_length] at hsrc
       refine wpList_app (by rfl) (.const (.slice none 0 0)) (.tmp 14) 43 43 rfl (Own.nil _ 5 1) Try.underlying43 info5 rfl (by omega) rfl rfl hsrc (by unfold maxLen; omega) (by omega) ?_
       intro A1 c1 w1 hO1 hK1 hA1
       rw [Nat.zero_add, List.nil_append] at hO1
       rw [Nat.zero_add]
       have hk1 : Keep No w w1 := ((Keep.refl No w).alloc (.cells #[.int .i64 5, .string name, .string to, .slice dA data.length dC, .int .i64 a, .int .i64 b, .int .i64 c, .slice kA keep.length kC] 45)).trans' (hK1.mono fun k _ e => by simp at e)
       have hb1 : w1.heap[w.heap.size]? = some (.cells #[.int .i64 5, .string name, .string to, .slice dA data.length dC, .int .i64 a, .int .i64 b, .int .i64 c, .slice kA keep.length kC] 45 (0, 0)) := (hK1.block _ (by simp) (by simp)).trans (alloc_new w _)
       have hn1 : ∀ k, bk A1 = some k → w.heap.size ≤ k := fun k hk => by
         rcases hA1 with rfl | ⟨rfl, h2⟩
         · simp at hk
         · simp at hk; omega
       have o7 : w1.cell? ⟨w.heap.size, 7, none⟩ = some (.slice kA keep.length kC) := (cell_blk hb1 7).trans rfl
       have HO1 := Lib.hid hO1
       have Hk1 := Lib.hid hk1
       have Hb1 := Lib.hid hb1
       have Hn1 := Lib.hid hn1
       clear hA0 hsrc hO1 hK1 hA1 hk1 hb1 hn1)
    | (refine wpList_app (by rfl) (.const (.slice none 0 0)) (.tmp 17) 37 37 rfl (Own.nil _ 3 1) Try.underlying37 info3 rfl (by omega) rfl rfl (src_rd (news := IV keep) (m := keep.length) Try.underlying37 (HA.out.keepF Hk1.out fun _ _ h => h).keep (by simp [IV]) (by omega) (by intro u hu; obtain ⟨z, _, rfl⟩ := List.mem_map.1 hu; rfl)) (by unfold maxLen; omega) (by omega) ?_
       intro A2 c2 w2 hO2 hK2 hA2
       rw [Nat.zero_add, List.nil_append] at hO2
       rw [Nat.zero_add]
       have hk2 : Keep No w1 w2 := hK2.mono fun k _ e => by simp at e
       have hn2 : ∀ k, bk A2 = some k → w.heap.size ≤ k := fun k hk => by
         have hs := Hk1.out.size
         rcases hA2 with rfl | ⟨rfl, h2⟩
         · simp at hk
         · simp at hk; omega
       have hd : DoS w w2 P D E s t L M S (⟨5, name, to, data, a, b, c, keep⟩, (dA, dC), (kA, kC)) w.heap.size A1 c1 A2 c2 :=
         ⟨HP.out.keepNo (Hk1.out.trans' hk2), Hk1.out.trans' hk2, (hk2.block _ (lt_blk Hb1.out) id).trans Hb1.out, fun e => by have := HP.out.lt _ e; omega, HO1.out.keep hk2 fun _ _ h => h, fun k hk e => by have h1 := Hn1.out k hk; have h2 := HP.out.lt _ e; omega,
          hO2, fun k hk e => by have h1 := hn2 k hk; have h2 := HP.out.lt _ e; omega, HA.out.keepF (Hk1.out.trans' hk2) fun _ _ h => h, HS.out⟩
       have o0 : w2.cell? ⟨w.heap.size, 0, none⟩ = some (.int .i64 5) := (cell_blk hd.box 0).trans rfl
       have p0 : w2.cell? ⟨P, 0, none⟩ = some (.pointer (some ⟨D, 0, none⟩)) := (cell_blk hd.pw.blk 0).trans rfl
       have p1 : w2.cell? ⟨P, 1, none⟩ = some (.pointer (some ⟨E, 0, none⟩)) := (cell_blk hd.pw.blk 1).trans rfl
       have Hd := Lib.hid hd
       clear hO2 hK2 hA2 hk2 hn2 hd HO1 Hk1 Hb1 Hn1 o7))
  obtain ⟨ob, hob⟩ : ∃ ob, w.heap.size = ob := ⟨_, rfl⟩
  rw [hob] at Hd o0 ⊢
  have hcells : Hid (∀ W, SS P D E ob #[.int .i64 5, .string name, .string to, .slice dA data.length dC, .int .i64 a, .int .i64 b, .int .i64 c, .slice kA keep.length kC] W → (W.cell? ⟨P, 0, none⟩ = some (.pointer (some ⟨D, 0, none⟩)) ∧ W.cell? ⟨P, 1, none⟩ = some (.pointer (some ⟨E, 0, none⟩)) ∧ W.cell? ⟨ob, 1, none⟩ = some (.string name) ∧ W.cell? ⟨ob, 2, none⟩ = some (.string to) ∧ W.cell? ⟨ob, 3, none⟩ = some (.slice dA data.length dC) ∧ W.cell? ⟨ob, 4, none⟩ = some (.int .i64 a) ∧ W.cell? ⟨ob, 5, none⟩ = some (.int .i64 b) ∧ W.cell? ⟨ob, 6, none⟩ = some (.int .i64 c) ∧ W.cell? ⟨ob, 7, none⟩ = some (.slice kA keep.length kC))) := fun W hW =>
    ⟨(cell_blk hW.1 0).trans rfl, (cell_blk hW.1 1).trans rfl, (cell_blk hW.2 1).trans rfl, (cell_blk hW.2 2).trans rfl, (cell_blk hW.2 3).trans rfl, (cell_blk hW.2 4).trans rfl, (cell_blk hW.2 5).trans rfl, (cell_blk hW.2 6).trans rfl, (cell_blk hW.2 7).trans rfl⟩
  have Hob := Lib.hid hob
  clear hob
  have hch : s.changes.length ≤ 1000000 := Nat.le_trans Hg.out.gs.ch (by omega)
  have hcht : t.changes.length ≤ 1000000 := Nat.le_trans Hg.out.gt.ch (by omega)
  have hflt : t.files.length ≤ 1000000000 := by have := Hg.out.fl; omega
  have hsim := Hg.out.sim.delete name
  have hnm := HA.out.name
  have hto := HA.out.to
  simp only at hnm hto
  have hc1 : ∀ W, Keep No w2 W → Calls Try.prog 24 #[.pointer (some ⟨D, 0, none⟩), .string name] W fun e w' => e = .returned (.int .i64 (s.delete name).1) ∧ DidP W P D E L M (s.delete name).2 t w' := fun W hW =>
    (delete_any (Hd.out.pw.keepNo hW).d Hg.out.gs.wf hch name hnm).mono fun _ _ ⟨h1, h2⟩ => ⟨h1, (Hd.out.pw.keepNo hW).stepD h2⟩
  clear hch
  have Hc1 := Lib.hid hc1
  clear hc1
  go_wp2_with fail
  refine wp_region_T (SS P D E ob #[.int .i64 5, .string name, .string to, .slice dA data.length dC, .int .i64 a, .int .i64 b, .int .i64 c, .slice kA keep.length kC]) [(0, true), (1, true), (2, true), (3, true), (4, true), (5, true), (6, false), (7, false)] (by kernel_rfl) (by kernel_rfl) (Hd.out.ss) ?_
  iterate 6
    (apply T_read rfl (by rfl)
     (· (intro W hW; have hc := hcells.out W hW; go_simp; try with_reducible rfl))
     (try simp only [Act.put, List.getElem_toArray, List.getElem_cons_succ, List.getElem_cons_zero, List.setIfInBounds_toArray, List.set_cons_zero, List.set_cons_succ]))
  refine T_do rfl (by rfl) (fun K hK => ?_)
  go_simp
  refine (Hc1.out _ (Keep.refl No w2).drew).mono ?_
  rintro e w3 ⟨rfl, L1, M1, hP1, hk1, hf1⟩
  have hk1 : Keep (footP P D E L M) w2 w3 := hk1.of_drew
  have hob3 : w3.heap[ob]? = some (.cells #[.int .i64 5, .string name, .string to, .slice dA data.length dC, .int .i64 a, .int .i64 b, .int .i64 c, .slice kA keep.length kC] 45 (0, 0)) := (hk1.block ob (lt_blk Hd.out.box) Hd.out.obn).trans Hd.out.box
  have hss : SS P D E ob #[.int .i64 5, .string name, .string to, .slice dA data.length dC, .int .i64 a, .int .i64 b, .int .i64 c, .slice kA keep.length kC] w3 := ⟨hP1.blk, hob3⟩
  have p0 : w3.cell? ⟨P, 0, none⟩ = some (.pointer (some ⟨D, 0, none⟩)) := (cell_blk hss.1 0).trans rfl
  have p1 : w3.cell? ⟨P, 1, none⟩ = some (.pointer (some ⟨E, 0, none⟩)) := (cell_blk hss.1 1).trans rfl
  have hc2 : ∀ W, Keep No w3 W → Calls Try.prog 54 #[.pointer (some ⟨E, 0, none⟩), .string name] W fun e w' => e = .returned (.int .i64 (s.delete name).1) ∧ DidP W P D E L1 M1 (s.delete name).2 (t.delete name).2 w' := fun W hW =>
    (deleteR_any (hP1.keepNo hW).r Hg.out.gt.wf hcht name hnm).mono fun _ _ ⟨h1, h2⟩ => ⟨by rw [h1, hsim.1], (hP1.keepNo hW).stepR h2⟩
  have Hc2 := Lib.hid hc2
  have HP1 := Lib.hid hP1
  have Hk1 := Lib.hid hk1
  have Hf1 : Hid (∀ k, footP P D E L1 M1 k → footP P D E L M k ∨ New w2 w3 k) := hf1
  have Hss := Lib.hid hss
  clear hc2 hP1 hk1 hf1 hob3 hss
  refine hK _ _ (fun _ => Hss.out) ?_
  refine T_do rfl (by rfl) (fun K hK => ?_)
  go_simp
  refine hK _ _ (fun h => absurd rfl h) (T_end ?_)
  go_wp2_with fail
  have hss := Hss.out
  refine wp_region_T (SS P D E ob #[.int .i64 5, .string name, .string to, .slice dA data.length dC, .int .i64 a, .int .i64 b, .int .i64 c, .slice kA keep.length kC]) [(0, true), (1, true), (2, true), (3, true), (4, true), (5, true), (6, false), (7, false)] (by kernel_rfl) (by kernel_rfl) (hss) ?_
  iterate 6
    (apply T_read rfl (by rfl)
     (· (intro W hW; have hc := hcells.out W hW; go_simp; try with_reducible rfl))
     (try simp only [Act.put, List.getElem_toArray, List.getElem_cons_succ, List.getElem_cons_zero, List.setIfInBounds_toArray, List.set_cons_zero, List.set_cons_succ]))
  refine T_do rfl (by rfl) (fun K hK => ?_)
  go_simp
  refine (Hc2.out _ (Keep.refl No w3).drew).mono ?_
  rintro e w4 ⟨rfl, hd4⟩
  have hd4s := hd4.after (Keep.refl No w3).drew
  have hd4 : DidP w P D E L M (s.delete name).2 (t.delete name).2 w4 := (DidP.trans Hk1.out Hf1.out hd4s).after Hd.out.k
  have hk4 : Keep (footP P D E L M) w2 w4 := by
    obtain ⟨_, _, _, h5, _⟩ := DidP.trans Hk1.out Hf1.out hd4s
    exact h5
  obtain ⟨hob4, hsb, hsi⟩ := Hd.out.fin hk4
  simp only at hsb hsi
  have o3 : w4.cell? ⟨ob, 3, none⟩ = some (.slice dA data.length dC) := (cell_blk hob4 3).trans rfl
  have o7 : w4.cell? ⟨ob, 7, none⟩ = some (.slice kA keep.length kC) := (cell_blk hob4 7).trans rfl
  have hss4 : SS P D E ob #[.int .i64 5, .string name, .string to, .slice dA data.length dC, .int .i64 a, .int .i64 b, .int .i64 c, .slice kA keep.length kC] w4 := by
    obtain ⟨_, _, h5, _, _⟩ := hd4
    exact ⟨h5.blk, hob4⟩
  have Hss4 := Lib.hid hss4
  have Hd4 := Lib.hid hd4
  have Hsb := Lib.hid hsb
  have Hsi := Lib.hid hsi
  clear hob4 hsb hsi hk4 hd4 hss4
  refine hK _ _ (fun _ => Hss4.out) ?_
  refine T_do rfl (by rfl) (fun K hK => ?_)
  go_simp
  refine hK _ _ (fun h => absurd rfl h) (T_end ?_)
  go_wp2_with fail
  refine Hsb.out.mono ?_
  rintro e w5 ⟨rfl, rfl⟩
  go_wp2_with fail
  refine Hsi.out.mono ?_
  rintro e w5 ⟨rfl, m5, rfl⟩
  go_wp2_with fail
  go_ret
  exact ⟨rfl, Hd4.out.before ((Keep.refl No w4).drewN m5)⟩

set_option maxRecDepth 100000 in
set_option maxHeartbeats 16000000 in
theorem does_syncDir {w : World} {P D E : Nat} {s t : St} {L : PL} {M : RL} {n : Nat} (hP : PW w P D E s t L M) (hg : SimG s t n) (hn : n ≤ 100000) {S : Nat → Prop} {name to : Nm} {data : List UInt8} {a b c : Int} {keep : List Int} {dA kA : Option Addr} {dC kC : Nat}
    (ha : ArgO w S (⟨6, name, to, data, a, b, c, keep⟩, (dA, dC), (kA, kC))) (hS : ∀ k, S k → ¬ footP P D E L M k) :
    Calls Try.prog 31 #[.pointer (some ⟨P, 0, none⟩), .agg #[.int .i64 6, .string name, .string to, .slice dA data.length dC, .int .i64 a, .int .i64 b, .int .i64 c, .slice kA keep.length kC]] w fun e w' => e = .returned (.bool true) ∧ DidP w P D E L M (s.syncDir).2 (t.syncDir).2 w' := by
  have HP := Lib.hid hP
  have Hg := Lib.hid hg
  have HA := Lib.hid ha
  have HS := Lib.hid hS
  have hdm := ha.data.max
  have hkm := ha.klen
  simp only at hdm hkm
  clear hP hg ha hS
  go_enter Try.func31, Try.ntmps31
  go_wp2_with (first
    | (have hA0 := HA.out.keepF ((Keep.refl No w).alloc (.cells #[.int .i64 6, .string name, .string to, .slice dA data.length dC, .int .i64 a, .int .i64 b, .int .i64 c, .slice kA keep.length kC] 45)) fun _ _ h => h
       have hsrc := hA0.data.src data.length (Nat.le_refl _)
       rw [List.take_length] at hsrc
       refine wpList_app (by rfl) (.const (.slice none 0 0)) (.tmp 14) 43 43 rfl (Own.nil _ 5 1) Try.underlying43 info5 rfl (by omega) rfl rfl hsrc (by unfold maxLen; omega) (by omega) ?_
       intro A1 c1 w1 hO1 hK1 hA1
       rw [Nat.zero_add, List.nil_append] at hO1
       rw [Nat.zero_add]
       have hk1 : Keep No w w1 := ((Keep.refl No w).alloc (.cells #[.int .i64 6, .string name, .string to, .slice dA data.length dC, .int .i64 a, .int .i64 b, .int .i64 c, .slice kA keep.length kC] 45)).trans' (hK1.mono fun k _ e => by simp at e)
       have hb1 : w1.heap[w.heap.size]? = some (.cells #[.int .i64 6, .string name, .string to, .slice dA data.length dC, .int .i64 a, .int .i64 b, .int .i64 c, .slice kA keep.length kC] 45 (0, 0)) := (hK1.block _ (by simp) (by simp)).trans (alloc_new w _)
       have hn1 : ∀ k, bk A1 = some k → w.heap.size ≤ k := fun k hk => by
         rcases hA1 with rfl | ⟨rfl, h2⟩
         · simp at hk
         · simp at hk; omega
       have o7 : w1.cell? ⟨w.heap.size, 7, none⟩ = some (.slice kA keep.length kC) := (cell_blk hb1 7).trans rfl
       have HO1 := Lib.hid hO1
       have Hk1 := Lib.hid hk1
       have Hb1 := Lib.hid hb1
       have Hn1 := Lib.hid hn1
       clear hA0 hsrc hO1 hK1 hA1 hk1 hb1 hn1)
    | (refine wpList_app (by rfl) (.const (.slice none 0 0)) (.tmp 17) 37 37 rfl (Own.nil _ 3 1) Try.underlying37 info3 rfl (by omega) rfl rfl (src_rd (news := IV keep) (m := keep.length) Try.underlying37 (HA.out.keepF Hk1.out fun _ _ h => h).keep (by simp [IV]) (by omega) (by intro u hu; obtain ⟨z, _, rfl⟩ := List.mem_map.1 hu; rfl)) (by unfold maxLen; omega) (by omega) ?_
       intro A2 c2 w2 hO2 hK2 hA2
       rw [Nat.zero_add, List.nil_append] at hO2
       rw [Nat.zero_add]
       have hk2 : Keep No w1 w2 := hK2.mono fun k _ e => by simp at e
       have hn2 : ∀ k, bk A2 = some k → w.heap.size ≤ k := fun k hk => by
         have hs := Hk1.out.size
         rcases hA2 with rfl | ⟨rfl, h2⟩
         · simp at hk
         · simp at hk; omega
       have hd : DoS w w2 P D E s t L M S (⟨6, name, to, data, a, b, c, keep⟩, (dA, dC), (kA, kC)) w.heap.size A1 c1 A2 c2 :=
         ⟨HP.out.keepNo (Hk1.out.trans' hk2), Hk1.out.trans' hk2, (hk2.block _ (lt_blk Hb1.out) id).trans Hb1.out, fun e => by have := HP.out.lt _ e; omega, HO1.out.keep hk2 fun _ _ h => h, fun k hk e => by have h1 := Hn1.out k hk; have h2 := HP.out.lt _ e; omega,
          hO2, fun k hk e => by have h1 := hn2 k hk; have h2 := HP.out.lt _ e; omega, HA.out.keepF (Hk1.out.trans' hk2) fun _ _ h => h, HS.out⟩
       have o0 : w2.cell? ⟨w.heap.size, 0, none⟩ = some (.int .i64 6) := (cell_blk hd.box 0).trans rfl
       have p0 : w2.cell? ⟨P, 0, none⟩ = some (.pointer (some ⟨D, 0, none⟩)) := (cell_blk hd.pw.blk 0).trans rfl
       have p1 : w2.cell? ⟨P, 1, none⟩ = some (.pointer (some ⟨E, 0, none⟩)) := (cell_blk hd.pw.blk 1).trans rfl
       have Hd := Lib.hid hd
       clear hO2 hK2 hA2 hk2 hn2 hd HO1 Hk1 Hb1 Hn1 o7))
  obtain ⟨ob, hob⟩ : ∃ ob, w.heap.size = ob := ⟨_, rfl⟩
  rw [hob] at Hd o0 ⊢
  have hcells : Hid (∀ W, SS P D E ob #[.int .i64 6, .string name, .string to, .slice dA data.length dC, .int .i64 a, .int .i64 b, .int .i64 c, .slice kA keep.length kC] W → (W.cell? ⟨P, 0, none⟩ = some (.pointer (some ⟨D, 0, none⟩)) ∧ W.cell? ⟨P, 1, none⟩ = some (.pointer (some ⟨E, 0, none⟩)) ∧ W.cell? ⟨ob, 1, none⟩ = some (.string name) ∧ W.cell? ⟨ob, 2, none⟩ = some (.string to) ∧ W.cell? ⟨ob, 3, none⟩ = some (.slice dA data.length dC) ∧ W.cell? ⟨ob, 4, none⟩ = some (.int .i64 a) ∧ W.cell? ⟨ob, 5, none⟩ = some (.int .i64 b) ∧ W.cell? ⟨ob, 6, none⟩ = some (.int .i64 c) ∧ W.cell? ⟨ob, 7, none⟩ = some (.slice kA keep.length kC))) := fun W hW =>
    ⟨(cell_blk hW.1 0).trans rfl, (cell_blk hW.1 1).trans rfl, (cell_blk hW.2 1).trans rfl, (cell_blk hW.2 2).trans rfl, (cell_blk hW.2 3).trans rfl, (cell_blk hW.2 4).trans rfl, (cell_blk hW.2 5).trans rfl, (cell_blk hW.2 6).trans rfl, (cell_blk hW.2 7).trans rfl⟩
  have Hob := Lib.hid hob
  clear hob
  have hch : s.changes.length ≤ 1000000 := Nat.le_trans Hg.out.gs.ch (by omega)
  have hcht : t.changes.length ≤ 1000000 := Nat.le_trans Hg.out.gt.ch (by omega)
  have hflt : t.files.length ≤ 1000000000 := by have := Hg.out.fl; omega
  have hsim := Hg.out.sim.syncDir
  have hnm := HA.out.name
  have hto := HA.out.to
  simp only at hnm hto
  have hc1 : ∀ W, Keep No w2 W → Calls Try.prog 25 #[.pointer (some ⟨D, 0, none⟩)] W fun e w' => e = .returned (.int .i64 (s.syncDir).1) ∧ DidP W P D E L M (s.syncDir).2 t w' := fun W hW =>
    (syncDir_any (Hd.out.pw.keepNo hW).d Hg.out.gs.wf).mono fun _ _ ⟨h1, h2⟩ => ⟨h1, (Hd.out.pw.keepNo hW).stepD h2⟩
  clear hch
  have Hc1 := Lib.hid hc1
  clear hc1
  go_wp2_with fail
  refine (Hc1.out _ (Keep.refl No w2)).mono ?_
  rintro e w3 ⟨rfl, L1, M1, hP1, hk1, hf1⟩
  have hk1 : Keep (footP P D E L M) w2 w3 := hk1
  have hob3 : w3.heap[ob]? = some (.cells #[.int .i64 6, .string name, .string to, .slice dA data.length dC, .int .i64 a, .int .i64 b, .int .i64 c, .slice kA keep.length kC] 45 (0, 0)) := (hk1.block ob (lt_blk Hd.out.box) Hd.out.obn).trans Hd.out.box
  have hss : SS P D E ob #[.int .i64 6, .string name, .string to, .slice dA data.length dC, .int .i64 a, .int .i64 b, .int .i64 c, .slice kA keep.length kC] w3 := ⟨hP1.blk, hob3⟩
  have p0 : w3.cell? ⟨P, 0, none⟩ = some (.pointer (some ⟨D, 0, none⟩)) := (cell_blk hss.1 0).trans rfl
  have p1 : w3.cell? ⟨P, 1, none⟩ = some (.pointer (some ⟨E, 0, none⟩)) := (cell_blk hss.1 1).trans rfl
  have hc2 : ∀ W, Keep No w3 W → Calls Try.prog 55 #[.pointer (some ⟨E, 0, none⟩)] W fun e w' => e = .returned (.int .i64 (s.syncDir).1) ∧ DidP W P D E L1 M1 (s.syncDir).2 (t.syncDir).2 w' := fun W hW =>
    (syncDirR_any (hP1.keepNo hW).r Hg.out.gt.wf).mono fun _ _ ⟨h1, h2⟩ => ⟨by rw [h1, hsim.1], (hP1.keepNo hW).stepR h2⟩
  have Hc2 := Lib.hid hc2
  have HP1 := Lib.hid hP1
  have Hk1 := Lib.hid hk1
  have Hf1 : Hid (∀ k, footP P D E L1 M1 k → footP P D E L M k ∨ New w2 w3 k) := hf1
  have Hss := Lib.hid hss
  clear hc2 hP1 hk1 hf1 hob3 hss
  go_wp2_with fail
  refine (Hc2.out _ (Keep.refl No w3)).mono ?_
  rintro e w4 ⟨rfl, hd4⟩
  have hd4s := hd4
  have hd4 : DidP w P D E L M (s.syncDir).2 (t.syncDir).2 w4 := (DidP.trans Hk1.out Hf1.out hd4s).after Hd.out.k
  have hk4 : Keep (footP P D E L M) w2 w4 := by
    obtain ⟨_, _, _, h5, _⟩ := DidP.trans Hk1.out Hf1.out hd4s
    exact h5
  obtain ⟨hob4, hsb, hsi⟩ := Hd.out.fin hk4
  simp only at hsb hsi
  have o3 : w4.cell? ⟨ob, 3, none⟩ = some (.slice dA data.length dC) := (cell_blk hob4 3).trans rfl
  have o7 : w4.cell? ⟨ob, 7, none⟩ = some (.slice kA keep.length kC) := (cell_blk hob4 7).trans rfl
  have hss4 : SS P D E ob #[.int .i64 6, .string name, .string to, .slice dA data.length dC, .int .i64 a, .int .i64 b, .int .i64 c, .slice kA keep.length kC] w4 := by
    obtain ⟨_, _, h5, _, _⟩ := hd4
    exact ⟨h5.blk, hob4⟩
  have Hss4 := Lib.hid hss4
  have Hd4 := Lib.hid hd4
  have Hsb := Lib.hid hsb
  have Hsi := Lib.hid hsi
  clear hob4 hsb hsi hk4 hd4 hss4
  go_wp2_with fail
  refine Hsb.out.mono ?_
  rintro e w5 ⟨rfl, rfl⟩
  go_wp2_with fail
  refine Hsi.out.mono ?_
  rintro e w5 ⟨rfl, m5, rfl⟩
  go_wp2_with fail
  go_ret
  exact ⟨rfl, Hd4.out.before ((Keep.refl No w4).drewN m5)⟩

end Go.Dx

namespace Go.Dx
open Go.RowKit Go.Proofs

set_option maxRecDepth 100000 in
set_option maxHeartbeats 16000000 in
theorem does_append {w : World} {P D E : Nat} {s t : St} {L : PL} {M : RL} {n : Nat} (hP : PW w P D E s t L M) (hg : SimG s t n) (hn : n ≤ 100000) {S : Nat → Prop} {name to : Nm} {data : List UInt8} {a b c : Int} {keep : List Int} {dA kA : Option Addr} {dC kC : Nat}
    (ha : ArgO w S (⟨2, name, to, data, a, b, c, keep⟩, (dA, dC), (kA, kC))) (hS : ∀ k, S k → ¬ footP P D E L M k) :
    Calls Try.prog 31 #[.pointer (some ⟨P, 0, none⟩), .agg #[.int .i64 2, .string name, .string to, .slice dA data.length dC, .int .i64 a, .int .i64 b, .int .i64 c, .slice kA keep.length kC]] w fun e w' => e = .returned (.bool true) ∧ DidP w P D E L M (s.append name data).2 (t.append name data).2 w' := by
  have HP := Lib.hid hP
  have Hg := Lib.hid hg
  have HA := Lib.hid ha
  have HS := Lib.hid hS
  have hdm := ha.data.max
  have hkm := ha.klen
  simp only at hdm hkm
  clear hP hg ha hS
  go_enter Try.func31, Try.ntmps31
  go_wp2_with (first
    | (have hA0 := HA.out.keepF ((Keep.refl No w).alloc (.cells #[.int .i64 2, .string name, .string to, .slice dA data.length dC, .int .i64 a, .int .i64 b, .int .i64 c, .slice kA keep.length kC] 45)) fun _ _ h => h
       have hsrc := hA0.data.src data.length (Nat.le_refl _)
       rw [List.take_length] at hsrc
       refine wpList_app (by rfl) (.const (.slice none 0 0)) (.tmp 14) 43 43 rfl (Own.nil _ 5 1) Try.underlying43 info5 rfl (by omega) rfl rfl hsrc (by unfold maxLen; omega) (by omega) ?_
       intro A1 c1 w1 hO1 hK1 hA1
       rw [Nat.zero_add, List.nil_append] at hO1
       rw [Nat.zero_add]
       have hk1 : Keep No w w1 := ((Keep.refl No w).alloc (.cells #[.int .i64 2, .string name, .string to, .slice dA data.length dC, .int .i64 a, .int .i64 b, .int .i64 c, .slice kA keep.length kC] 45)).trans' (hK1.mono fun k _ e => by simp at e)
       have hb1 : w1.heap[w.heap.size]? = some (.cells #[.int .i64 2, .string name, .string to, .slice dA data.length dC, .int .i64 a, .int .i64 b, .int .i64 c, .slice kA keep.length kC] 45 (0, 0)) := (hK1.block _ (by simp) (by simp)).trans (alloc_new w _)
       have hn1 : ∀ k, bk A1 = some k → w.heap.size ≤ k := fun k hk => by
         rcases hA1 with rfl | ⟨rfl, h2⟩
         · simp at hk
         · simp at hk; omega
       have o7 : w1.cell? ⟨w.heap.size, 7, none⟩ = some (.slice kA keep.length kC) := (cell_blk hb1 7).trans rfl
       have HO1 := Lib.hid hO1
       have Hk1 := Lib.hid hk1
       have Hb1 := Lib.hid hb1
       have Hn1 := Lib.hid hn1
       clear hA0 hsrc hO1 hK1 hA1 hk1 hb1 hn1)
    | (refine wpList_app (by rfl) (.const (.slice none 0 0)) (.tmp 17) 37 37 rfl (Own.nil _ 3 1) Try.underlying37 info3 rfl (by omega) rfl rfl (src_rd (news := IV keep) (m := keep.length) Try.underlying37 (HA.out.keepF Hk1.out fun _ _ h => h).keep (by simp [IV]) (by omega) (by intro u hu; obtain ⟨z, _, rfl⟩ := List.mem_map.1 hu; rfl)) (by unfold maxLen; omega) (by omega) ?_
       intro A2 c2 w2 hO2 hK2 hA2
       rw [Nat.zero_add, List.nil_append] at hO2
       rw [Nat.zero_add]
       have hk2 : Keep No w1 w2 := hK2.mono fun k _ e => by simp at e
       have hn2 : ∀ k, bk A2 = some k → w.heap.size ≤ k := fun k hk => by
         have hs := Hk1.out.size
         rcases hA2 with rfl | ⟨rfl, h2⟩
         · simp at hk
         · simp at hk; omega
       have hd : DoS w w2 P D E s t L M S (⟨2, name, to, data, a, b, c, keep⟩, (dA, dC), (kA, kC)) w.heap.size A1 c1 A2 c2 :=
         ⟨HP.out.keepNo (Hk1.out.trans' hk2), Hk1.out.trans' hk2, (hk2.block _ (lt_blk Hb1.out) id).trans Hb1.out, fun e => by have := HP.out.lt _ e; omega, HO1.out.keep hk2 fun _ _ h => h, fun k hk e => by have h1 := Hn1.out k hk; have h2 := HP.out.lt _ e; omega,
          hO2, fun k hk e => by have h1 := hn2 k hk; have h2 := HP.out.lt _ e; omega, HA.out.keepF (Hk1.out.trans' hk2) fun _ _ h => h, HS.out⟩
       have o0 : w2.cell? ⟨w.heap.size, 0, none⟩ = some (.int .i64 2) := (cell_blk hd.box 0).trans rfl
       have p0 : w2.cell? ⟨P, 0, none⟩ = some (.pointer (some ⟨D, 0, none⟩)) := (cell_blk hd.pw.blk 0).trans rfl
       have p1 : w2.cell? ⟨P, 1, none⟩ = some (.pointer (some ⟨E, 0, none⟩)) := (cell_blk hd.pw.blk 1).trans rfl
       have Hd := Lib.hid hd
       clear hO2 hK2 hA2 hk2 hn2 hd HO1 Hk1 Hb1 Hn1 o7))
  obtain ⟨ob, hob⟩ : ∃ ob, w.heap.size = ob := ⟨_, rfl⟩
  rw [hob] at Hd o0 ⊢
  have hcells : Hid (∀ W, SS P D E ob #[.int .i64 2, .string name, .string to, .slice dA data.length dC, .int .i64 a, .int .i64 b, .int .i64 c, .slice kA keep.length kC] W → (W.cell? ⟨P, 0, none⟩ = some (.pointer (some ⟨D, 0, none⟩)) ∧ W.cell? ⟨P, 1, none⟩ = some (.pointer (some ⟨E, 0, none⟩)) ∧ W.cell? ⟨ob, 1, none⟩ = some (.string name) ∧ W.cell? ⟨ob, 2, none⟩ = some (.string to) ∧ W.cell? ⟨ob, 3, none⟩ = some (.slice dA data.length dC) ∧ W.cell? ⟨ob, 4, none⟩ = some (.int .i64 a) ∧ W.cell? ⟨ob, 5, none⟩ = some (.int .i64 b) ∧ W.cell? ⟨ob, 6, none⟩ = some (.int .i64 c) ∧ W.cell? ⟨ob, 7, none⟩ = some (.slice kA keep.length kC))) := fun W hW =>
    ⟨(cell_blk hW.1 0).trans rfl, (cell_blk hW.1 1).trans rfl, (cell_blk hW.2 1).trans rfl, (cell_blk hW.2 2).trans rfl, (cell_blk hW.2 3).trans rfl, (cell_blk hW.2 4).trans rfl, (cell_blk hW.2 5).trans rfl, (cell_blk hW.2 6).trans rfl, (cell_blk hW.2 7).trans rfl⟩
  have Hob := Lib.hid hob
  clear hob
  have hch : s.changes.length ≤ 1000000 := Nat.le_trans Hg.out.gs.ch (by omega)
  have hcht : t.changes.length ≤ 1000000 := Nat.le_trans Hg.out.gt.ch (by omega)
  have hnm := HA.out.name
  simp only at hnm
  have hsim := Hg.out.sim.append name data
  have hc1 : ∀ W, Keep No w2 W → Calls Try.prog 20 #[.pointer (some ⟨D, 0, none⟩), .string name, .slice A1 data.length c1] W fun e w' => e = .returned (.int .i64 (s.append name data).1) ∧ DidP W P D E L M (s.append name data).2 t w' := fun W hW =>
    (append_any (Hd.out.pw.keepNo hW).d Hg.out.gs.wf name hnm (Hd.out.argB.keep hW fun _ _ h => h) fun k hk e => Hd.out.d1n k hk (.inr (.inl e))).mono fun _ _ ⟨h1, h2⟩ => ⟨h1, (Hd.out.pw.keepNo hW).stepD h2⟩
  clear hch hcht
  have Hc1 := Lib.hid hc1
  clear hc1
  go_wp2_with fail
  refine wp_region_T (SS P D E ob #[.int .i64 2, .string name, .string to, .slice dA data.length dC, .int .i64 a, .int .i64 b, .int .i64 c, .slice kA keep.length kC]) [(0, true), (1, true), (2, true), (3, true), (4, true), (5, true), (6, true), (7, false), (8, false)] (by kernel_rfl) (by kernel_rfl) (Hd.out.ss) ?_
  iterate 7
    (apply T_read rfl (by rfl)
     (· (intro W hW; have hc := hcells.out W hW; go_simp; try with_reducible rfl))
     (try simp only [Act.put, List.getElem_toArray, List.getElem_cons_succ, List.getElem_cons_zero, List.setIfInBounds_toArray, List.set_cons_zero, List.set_cons_succ]))
  refine T_do rfl (by rfl) (fun K hK => ?_)
  go_simp
  refine (Hc1.out _ (Keep.refl No w2).drew).mono ?_
  rintro e w3 ⟨rfl, L1, M1, hP1, hk1, hf1⟩
  have hk1 : Keep (footP P D E L M) w2 w3 := hk1.of_drew
  have hob3 : w3.heap[ob]? = some (.cells #[.int .i64 2, .string name, .string to, .slice dA data.length dC, .int .i64 a, .int .i64 b, .int .i64 c, .slice kA keep.length kC] 45 (0, 0)) := (hk1.block ob (lt_blk Hd.out.box) Hd.out.obn).trans Hd.out.box
  have hss : SS P D E ob #[.int .i64 2, .string name, .string to, .slice dA data.length dC, .int .i64 a, .int .i64 b, .int .i64 c, .slice kA keep.length kC] w3 := ⟨hP1.blk, hob3⟩
  have p0 : w3.cell? ⟨P, 0, none⟩ = some (.pointer (some ⟨D, 0, none⟩)) := (cell_blk hss.1 0).trans rfl
  have p1 : w3.cell? ⟨P, 1, none⟩ = some (.pointer (some ⟨E, 0, none⟩)) := (cell_blk hss.1 1).trans rfl
  have hSR : ∀ k, S k → ¬ footR E M1 k := fun k hk e => by
    rcases hf1 k (.inr (.inr e)) with h | h
    · exact Hd.out.argn k hk h
    · have h1 := h.1
      have h2 := Hd.out.arg.data.lt k hk
      rw [World.size_drew] at h1
      omega
  have hc2 : ∀ W, Keep No w3 W → Calls Try.prog 51 #[.pointer (some ⟨E, 0, none⟩), .string name, .slice dA data.length dC] W fun e w' => e = .returned (.int .i64 (s.append name data).1) ∧ DidP W P D E L1 M1 (s.append name data).2 (t.append name data).2 w' := fun W hW =>
    (appendR_any (hP1.keepNo hW).r Hg.out.gt.wf name hnm ((Hd.out.arg.keepF hk1 Hd.out.argn).data.keep hW fun _ _ h => h) hSR).mono fun _ _ ⟨h1, h2⟩ => ⟨by rw [h1, hsim.1], (hP1.keepNo hW).stepR h2⟩
  clear hSR
  have Hc2 := Lib.hid hc2
  have HP1 := Lib.hid hP1
  have Hk1 := Lib.hid hk1
  have Hf1 : Hid (∀ k, footP P D E L1 M1 k → footP P D E L M k ∨ New w2 w3 k) := hf1
  have Hss := Lib.hid hss
  clear hc2 hP1 hk1 hf1 hob3 hss
  refine hK _ _ (fun _ => Hss.out) ?_
  refine T_do rfl (by rfl) (fun K hK => ?_)
  go_simp
  refine hK _ _ (fun h => absurd rfl h) (T_end ?_)
  go_wp2_with fail
  have hss := Hss.out
  refine wp_region_T (SS P D E ob #[.int .i64 2, .string name, .string to, .slice dA data.length dC, .int .i64 a, .int .i64 b, .int .i64 c, .slice kA keep.length kC]) [(0, true), (1, true), (2, true), (3, true), (4, true), (5, true), (6, true), (7, true), (8, false), (9, false)] (by kernel_rfl) (by kernel_rfl) (hss) ?_
  iterate 8
    (apply T_read rfl (by rfl)
     (· (intro W hW; have hc := hcells.out W hW; go_simp; try with_reducible rfl))
     (try simp only [Act.put, List.getElem_toArray, List.getElem_cons_succ, List.getElem_cons_zero, List.setIfInBounds_toArray, List.set_cons_zero, List.set_cons_succ]))
  refine T_do rfl (by rfl) (fun K hK => ?_)
  go_simp
  refine (Hc2.out _ (Keep.refl No w3).drew).mono ?_
  rintro e w4 ⟨rfl, hd4⟩
  have hd4s := hd4.after (Keep.refl No w3).drew
  have hd4 : DidP w P D E L M (s.append name data).2 (t.append name data).2 w4 := (DidP.trans Hk1.out Hf1.out hd4s).after Hd.out.k
  have hk4 : Keep (footP P D E L M) w2 w4 := by
    obtain ⟨_, _, _, h5, _⟩ := DidP.trans Hk1.out Hf1.out hd4s
    exact h5
  obtain ⟨hob4, hsb, hsi⟩ := Hd.out.fin hk4
  simp only at hsb hsi
  have o3 : w4.cell? ⟨ob, 3, none⟩ = some (.slice dA data.length dC) := (cell_blk hob4 3).trans rfl
  have o7 : w4.cell? ⟨ob, 7, none⟩ = some (.slice kA keep.length kC) := (cell_blk hob4 7).trans rfl
  have hss4 : SS P D E ob #[.int .i64 2, .string name, .string to, .slice dA data.length dC, .int .i64 a, .int .i64 b, .int .i64 c, .slice kA keep.length kC] w4 := by
    obtain ⟨_, _, h5, _, _⟩ := hd4
    exact ⟨h5.blk, hob4⟩
  have Hss4 := Lib.hid hss4
  have Hd4 := Lib.hid hd4
  have Hsb := Lib.hid hsb
  have Hsi := Lib.hid hsi
  clear hob4 hsb hsi hk4 hd4 hss4
  refine hK _ _ (fun _ => Hss4.out) ?_
  refine T_do rfl (by rfl) (fun K hK => ?_)
  go_simp
  refine hK _ _ (fun h => absurd rfl h) (T_end ?_)
  go_wp2_with fail
  refine Hsb.out.mono ?_
  rintro e w5 ⟨rfl, rfl⟩
  go_wp2_with fail
  refine Hsi.out.mono ?_
  rintro e w5 ⟨rfl, m5, rfl⟩
  go_wp2_with fail
  go_ret
  exact ⟨rfl, Hd4.out.before ((Keep.refl No w4).drewN m5)⟩

set_option maxRecDepth 100000 in
set_option maxHeartbeats 16000000 in
theorem does_fall {w : World} {P D E : Nat} {s t : St} {L : PL} {M : RL} {n : Nat} (hP : PW w P D E s t L M) (hg : SimG s t n) (hn : n ≤ 100000) {S : Nat → Prop} {name to : Nm} {data : List UInt8} {a b c : Int} {keep : List Int} {dA kA : Option Addr} {dC kC : Nat}
    (ha : ArgO w S (⟨10, name, to, data, a, b, c, keep⟩, (dA, dC), (kA, kC))) (hS : ∀ k, S k → ¬ footP P D E L M k) :
    Calls Try.prog 31 #[.pointer (some ⟨P, 0, none⟩), .agg #[.int .i64 10, .string name, .string to, .slice dA data.length dC, .int .i64 a, .int .i64 b, .int .i64 c, .slice kA keep.length kC]] w fun e w' => e = .returned (.bool true) ∧ DidP w P D E L M (s.fall a keep) (t.fall a keep) w' := by
  have HP := Lib.hid hP
  have Hg := Lib.hid hg
  have HA := Lib.hid ha
  have HS := Lib.hid hS
  have hdm := ha.data.max
  have hkm := ha.klen
  simp only at hdm hkm
  clear hP hg ha hS
  go_enter Try.func31, Try.ntmps31
  go_wp2_with (first
    | (have hA0 := HA.out.keepF ((Keep.refl No w).alloc (.cells #[.int .i64 10, .string name, .string to, .slice dA data.length dC, .int .i64 a, .int .i64 b, .int .i64 c, .slice kA keep.length kC] 45)) fun _ _ h => h
       have hsrc := hA0.data.src data.length (Nat.le_refl _)
       rw [List.take_length] at hsrc
       refine wpList_app (by rfl) (.const (.slice none 0 0)) (.tmp 14) 43 43 rfl (Own.nil _ 5 1) Try.underlying43 info5 rfl (by omega) rfl rfl hsrc (by unfold maxLen; omega) (by omega) ?_
       intro A1 c1 w1 hO1 hK1 hA1
       rw [Nat.zero_add, List.nil_append] at hO1
       rw [Nat.zero_add]
       have hk1 : Keep No w w1 := ((Keep.refl No w).alloc (.cells #[.int .i64 10, .string name, .string to, .slice dA data.length dC, .int .i64 a, .int .i64 b, .int .i64 c, .slice kA keep.length kC] 45)).trans' (hK1.mono fun k _ e => by simp at e)
       have hb1 : w1.heap[w.heap.size]? = some (.cells #[.int .i64 10, .string name, .string to, .slice dA data.length dC, .int .i64 a, .int .i64 b, .int .i64 c, .slice kA keep.length kC] 45 (0, 0)) := (hK1.block _ (by simp) (by simp)).trans (alloc_new w _)
       have hn1 : ∀ k, bk A1 = some k → w.heap.size ≤ k := fun k hk => by
         rcases hA1 with rfl | ⟨rfl, h2⟩
         · simp at hk
         · simp at hk; omega
       have o7 : w1.cell? ⟨w.heap.size, 7, none⟩ = some (.slice kA keep.length kC) := (cell_blk hb1 7).trans rfl
       have HO1 := Lib.hid hO1
       have Hk1 := Lib.hid hk1
       have Hb1 := Lib.hid hb1
       have Hn1 := Lib.hid hn1
       clear hA0 hsrc hO1 hK1 hA1 hk1 hb1 hn1)
    | (refine wpList_app (by rfl) (.const (.slice none 0 0)) (.tmp 17) 37 37 rfl (Own.nil _ 3 1) Try.underlying37 info3 rfl (by omega) rfl rfl (src_rd (news := IV keep) (m := keep.length) Try.underlying37 (HA.out.keepF Hk1.out fun _ _ h => h).keep (by simp [IV]) (by omega) (by intro u hu; obtain ⟨z, _, rfl⟩ := List.mem_map.1 hu; rfl)) (by unfold maxLen; omega) (by omega) ?_
       intro A2 c2 w2 hO2 hK2 hA2
       rw [Nat.zero_add, List.nil_append] at hO2
       rw [Nat.zero_add]
       have hk2 : Keep No w1 w2 := hK2.mono fun k _ e => by simp at e
       have hn2 : ∀ k, bk A2 = some k → w.heap.size ≤ k := fun k hk => by
         have hs := Hk1.out.size
         rcases hA2 with rfl | ⟨rfl, h2⟩
         · simp at hk
         · simp at hk; omega
       have hd : DoS w w2 P D E s t L M S (⟨10, name, to, data, a, b, c, keep⟩, (dA, dC), (kA, kC)) w.heap.size A1 c1 A2 c2 :=
         ⟨HP.out.keepNo (Hk1.out.trans' hk2), Hk1.out.trans' hk2, (hk2.block _ (lt_blk Hb1.out) id).trans Hb1.out, fun e => by have := HP.out.lt _ e; omega, HO1.out.keep hk2 fun _ _ h => h, fun k hk e => by have h1 := Hn1.out k hk; have h2 := HP.out.lt _ e; omega,
          hO2, fun k hk e => by have h1 := hn2 k hk; have h2 := HP.out.lt _ e; omega, HA.out.keepF (Hk1.out.trans' hk2) fun _ _ h => h, HS.out⟩
       have o0 : w2.cell? ⟨w.heap.size, 0, none⟩ = some (.int .i64 10) := (cell_blk hd.box 0).trans rfl
       have p0 : w2.cell? ⟨P, 0, none⟩ = some (.pointer (some ⟨D, 0, none⟩)) := (cell_blk hd.pw.blk 0).trans rfl
       have p1 : w2.cell? ⟨P, 1, none⟩ = some (.pointer (some ⟨E, 0, none⟩)) := (cell_blk hd.pw.blk 1).trans rfl
       have Hd := Lib.hid hd
       clear hO2 hK2 hA2 hk2 hn2 hd HO1 Hk1 Hb1 Hn1 o7))
  obtain ⟨ob, hob⟩ : ∃ ob, w.heap.size = ob := ⟨_, rfl⟩
  rw [hob] at Hd o0 ⊢
  have hcells : Hid (∀ W, SS P D E ob #[.int .i64 10, .string name, .string to, .slice dA data.length dC, .int .i64 a, .int .i64 b, .int .i64 c, .slice kA keep.length kC] W → (W.cell? ⟨P, 0, none⟩ = some (.pointer (some ⟨D, 0, none⟩)) ∧ W.cell? ⟨P, 1, none⟩ = some (.pointer (some ⟨E, 0, none⟩)) ∧ W.cell? ⟨ob, 1, none⟩ = some (.string name) ∧ W.cell? ⟨ob, 2, none⟩ = some (.string to) ∧ W.cell? ⟨ob, 3, none⟩ = some (.slice dA data.length dC) ∧ W.cell? ⟨ob, 4, none⟩ = some (.int .i64 a) ∧ W.cell? ⟨ob, 5, none⟩ = some (.int .i64 b) ∧ W.cell? ⟨ob, 6, none⟩ = some (.int .i64 c) ∧ W.cell? ⟨ob, 7, none⟩ = some (.slice kA keep.length kC))) := fun W hW =>
    ⟨(cell_blk hW.1 0).trans rfl, (cell_blk hW.1 1).trans rfl, (cell_blk hW.2 1).trans rfl, (cell_blk hW.2 2).trans rfl, (cell_blk hW.2 3).trans rfl, (cell_blk hW.2 4).trans rfl, (cell_blk hW.2 5).trans rfl, (cell_blk hW.2 6).trans rfl, (cell_blk hW.2 7).trans rfl⟩
  have Hob := Lib.hid hob
  clear hob
  have hch : s.changes.length ≤ 1000000 := Nat.le_trans Hg.out.gs.ch (by omega)
  have hcht : t.changes.length ≤ 1000000 := Nat.le_trans Hg.out.gt.ch (by omega)
  have hnm := HA.out.name
  simp only at hnm
  have hc1 : ∀ W, Keep No w2 W → Calls Try.prog 30 #[.pointer (some ⟨D, 0, none⟩), .int .i64 a, .slice A2 keep.length c2] W fun e w' => e = .returned (.tuple #[]) ∧ DidP W P D E L M (s.fall a keep) t w' := fun W hW =>
    (fall_any (S := fun k => bk A2 = some k) (Hd.out.pw.keepNo hW).d Hg.out.gs (by omega) a (Hd.out.k1.keep hW fun _ _ h => h).rd (fun k hk => (Hd.out.k1.keep hW fun _ _ h => h).lt hk) (by simp only; omega)).mono fun _ _ ⟨h1, h2⟩ => ⟨h1, (Hd.out.pw.keepNo hW).stepD h2⟩
  clear hch
  have Hc1 := Lib.hid hc1
  clear hc1
  go_wp2_with fail
  refine wp_region_T (SS P D E ob #[.int .i64 10, .string name, .string to, .slice dA data.length dC, .int .i64 a, .int .i64 b, .int .i64 c, .slice kA keep.length kC]) [(0, true), (1, true), (2, true), (3, true), (4, true), (5, true), (6, true), (7, false)] (by kernel_rfl) (by kernel_rfl) (Hd.out.ss) ?_
  iterate 7
    (apply T_read rfl (by rfl)
     (· (intro W hW; have hc := hcells.out W hW; go_simp; try with_reducible rfl))
     (try simp only [Act.put, List.getElem_toArray, List.getElem_cons_succ, List.getElem_cons_zero, List.setIfInBounds_toArray, List.set_cons_zero, List.set_cons_succ]))
  refine T_do rfl (by rfl) (fun K hK => ?_)
  go_simp
  refine (Hc1.out _ (Keep.refl No w2).drew).mono ?_
  rintro e w3 ⟨rfl, L1, M1, hP1, hk1, hf1⟩
  have hk1 : Keep (footP P D E L M) w2 w3 := hk1.of_drew
  have hob3 : w3.heap[ob]? = some (.cells #[.int .i64 10, .string name, .string to, .slice dA data.length dC, .int .i64 a, .int .i64 b, .int .i64 c, .slice kA keep.length kC] 45 (0, 0)) := (hk1.block ob (lt_blk Hd.out.box) Hd.out.obn).trans Hd.out.box
  have hss : SS P D E ob #[.int .i64 10, .string name, .string to, .slice dA data.length dC, .int .i64 a, .int .i64 b, .int .i64 c, .slice kA keep.length kC] w3 := ⟨hP1.blk, hob3⟩
  have p0 : w3.cell? ⟨P, 0, none⟩ = some (.pointer (some ⟨D, 0, none⟩)) := (cell_blk hss.1 0).trans rfl
  have p1 : w3.cell? ⟨P, 1, none⟩ = some (.pointer (some ⟨E, 0, none⟩)) := (cell_blk hss.1 1).trans rfl
  have hkeep := (Hd.out.arg.keepF hk1 Hd.out.argn)
  have hc2 : ∀ W, Keep No w3 W → Calls Try.prog 35 #[.pointer (some ⟨E, 0, none⟩), .int .i64 a, .slice kA keep.length kC] W fun e w' => e = .returned (.tuple #[]) ∧ DidP W P D E L1 M1 (s.fall a keep) (t.fall a keep) w' := fun W hW =>
    (fallR_any (hP1.keepNo hW).r Hg.out.gt.wf hcht a (hkeep.keepF hW fun _ _ h => h).keep (hkeep.keepF hW fun _ _ h => h).data.lt (by simp only; omega)).mono fun _ _ ⟨h1, h2⟩ => ⟨h1, (hP1.keepNo hW).stepR h2⟩
  clear hkeep
  have Hc2 := Lib.hid hc2
  have HP1 := Lib.hid hP1
  have Hk1 := Lib.hid hk1
  have Hf1 : Hid (∀ k, footP P D E L1 M1 k → footP P D E L M k ∨ New w2 w3 k) := hf1
  have Hss := Lib.hid hss
  clear hc2 hP1 hk1 hf1 hob3 hss
  refine hK _ _ (fun h => absurd rfl h) (T_end ?_)
  go_wp2_with fail
  have hss := Hss.out
  refine wp_region_T (SS P D E ob #[.int .i64 10, .string name, .string to, .slice dA data.length dC, .int .i64 a, .int .i64 b, .int .i64 c, .slice kA keep.length kC]) [(0, true), (1, true), (2, true), (3, true), (4, true), (5, true), (6, true), (7, true), (8, false)] (by kernel_rfl) (by kernel_rfl) (hss) ?_
  iterate 8
    (apply T_read rfl (by rfl)
     (· (intro W hW; have hc := hcells.out W hW; go_simp; try with_reducible rfl))
     (try simp only [Act.put, List.getElem_toArray, List.getElem_cons_succ, List.getElem_cons_zero, List.setIfInBounds_toArray, List.set_cons_zero, List.set_cons_succ]))
  refine T_do rfl (by rfl) (fun K hK => ?_)
  go_simp
  refine (Hc2.out _ (Keep.refl No w3).drew).mono ?_
  rintro e w4 ⟨rfl, hd4⟩
  have hd4s := hd4.after (Keep.refl No w3).drew
  have hd4 : DidP w P D E L M (s.fall a keep) (t.fall a keep) w4 := (DidP.trans Hk1.out Hf1.out hd4s).after Hd.out.k
  have hk4 : Keep (footP P D E L M) w2 w4 := by
    obtain ⟨_, _, _, h5, _⟩ := DidP.trans Hk1.out Hf1.out hd4s
    exact h5
  obtain ⟨hob4, hsb, hsi⟩ := Hd.out.fin hk4
  simp only at hsb hsi
  have o3 : w4.cell? ⟨ob, 3, none⟩ = some (.slice dA data.length dC) := (cell_blk hob4 3).trans rfl
  have o7 : w4.cell? ⟨ob, 7, none⟩ = some (.slice kA keep.length kC) := (cell_blk hob4 7).trans rfl
  have hss4 : SS P D E ob #[.int .i64 10, .string name, .string to, .slice dA data.length dC, .int .i64 a, .int .i64 b, .int .i64 c, .slice kA keep.length kC] w4 := by
    obtain ⟨_, _, h5, _, _⟩ := hd4
    exact ⟨h5.blk, hob4⟩
  have Hss4 := Lib.hid hss4
  have Hd4 := Lib.hid hd4
  have Hsb := Lib.hid hsb
  have Hsi := Lib.hid hsi
  clear hob4 hsb hsi hk4 hd4 hss4
  refine hK _ _ (fun h => absurd rfl h) (T_end ?_)
  go_wp2_with fail
  refine Hsb.out.mono ?_
  rintro e w5 ⟨rfl, rfl⟩
  go_wp2_with fail
  refine Hsi.out.mono ?_
  rintro e w5 ⟨rfl, m5, rfl⟩
  go_wp2_with fail
  go_ret
  exact ⟨rfl, Hd4.out.before ((Keep.refl No w4).drewN m5)⟩

set_option maxRecDepth 100000 in
set_option maxHeartbeats 16000000 in
theorem does_arm {w : World} {P D E : Nat} {s t : St} {L : PL} {M : RL} {n : Nat} (hP : PW w P D E s t L M) (hg : SimG s t n) (hn : n ≤ 100000) {S : Nat → Prop} {name to : Nm} {data : List UInt8} {a b c : Int} {keep : List Int} {dA kA : Option Addr} {dC kC : Nat}
    (ha : ArgO w S (⟨11, name, to, data, a, b, c, keep⟩, (dA, dC), (kA, kC))) (hS : ∀ k, S k → ¬ footP P D E L M k) :
    Calls Try.prog 31 #[.pointer (some ⟨P, 0, none⟩), .agg #[.int .i64 11, .string name, .string to, .slice dA data.length dC, .int .i64 a, .int .i64 b, .int .i64 c, .slice kA keep.length kC]] w fun e w' => e = .returned (.bool true) ∧ DidP w P D E L M (s.arm a) (t.armR a) w' := by
  have HP := Lib.hid hP
  have Hg := Lib.hid hg
  have HA := Lib.hid ha
  have HS := Lib.hid hS
  have hdm := ha.data.max
  have hkm := ha.klen
  simp only at hdm hkm
  clear hP hg ha hS
  go_enter Try.func31, Try.ntmps31
  go_wp2_with (first
    | (have hA0 := HA.out.keepF ((Keep.refl No w).alloc (.cells #[.int .i64 11, .string name, .string to, .slice dA data.length dC, .int .i64 a, .int .i64 b, .int .i64 c, .slice kA keep.length kC] 45)) fun _ _ h => h
       have hsrc := hA0.data.src data.length (Nat.le_refl _)
       rw [List.take_length] at hsrc
       refine wpList_app (by rfl) (.const (.slice none 0 0)) (.tmp 14) 43 43 rfl (Own.nil _ 5 1) Try.underlying43 info5 rfl (by omega) rfl rfl hsrc (by unfold maxLen; omega) (by omega) ?_
       intro A1 c1 w1 hO1 hK1 hA1
       rw [Nat.zero_add, List.nil_append] at hO1
       rw [Nat.zero_add]
       have hk1 : Keep No w w1 := ((Keep.refl No w).alloc (.cells #[.int .i64 11, .string name, .string to, .slice dA data.length dC, .int .i64 a, .int .i64 b, .int .i64 c, .slice kA keep.length kC] 45)).trans' (hK1.mono fun k _ e => by simp at e)
       have hb1 : w1.heap[w.heap.size]? = some (.cells #[.int .i64 11, .string name, .string to, .slice dA data.length dC, .int .i64 a, .int .i64 b, .int .i64 c, .slice kA keep.length kC] 45 (0, 0)) := (hK1.block _ (by simp) (by simp)).trans (alloc_new w _)
       have hn1 : ∀ k, bk A1 = some k → w.heap.size ≤ k := fun k hk => by
         rcases hA1 with rfl | ⟨rfl, h2⟩
         · simp at hk
         · simp at hk; omega
       have o7 : w1.cell? ⟨w.heap.size, 7, none⟩ = some (.slice kA keep.length kC) := (cell_blk hb1 7).trans rfl
       have HO1 := Lib.hid hO1
       have Hk1 := Lib.hid hk1
       have Hb1 := Lib.hid hb1
       have Hn1 := Lib.hid hn1
       clear hA0 hsrc hO1 hK1 hA1 hk1 hb1 hn1)
    | (refine wpList_app (by rfl) (.const (.slice none 0 0)) (.tmp 17) 37 37 rfl (Own.nil _ 3 1) Try.underlying37 info3 rfl (by omega) rfl rfl (src_rd (news := IV keep) (m := keep.length) Try.underlying37 (HA.out.keepF Hk1.out fun _ _ h => h).keep (by simp [IV]) (by omega) (by intro u hu; obtain ⟨z, _, rfl⟩ := List.mem_map.1 hu; rfl)) (by unfold maxLen; omega) (by omega) ?_
       intro A2 c2 w2 hO2 hK2 hA2
       rw [Nat.zero_add, List.nil_append] at hO2
       rw [Nat.zero_add]
       have hk2 : Keep No w1 w2 := hK2.mono fun k _ e => by simp at e
       have hn2 : ∀ k, bk A2 = some k → w.heap.size ≤ k := fun k hk => by
         have hs := Hk1.out.size
         rcases hA2 with rfl | ⟨rfl, h2⟩
         · simp at hk
         · simp at hk; omega
       have hd : DoS w w2 P D E s t L M S (⟨11, name, to, data, a, b, c, keep⟩, (dA, dC), (kA, kC)) w.heap.size A1 c1 A2 c2 :=
         ⟨HP.out.keepNo (Hk1.out.trans' hk2), Hk1.out.trans' hk2, (hk2.block _ (lt_blk Hb1.out) id).trans Hb1.out, fun e => by have := HP.out.lt _ e; omega, HO1.out.keep hk2 fun _ _ h => h, fun k hk e => by have h1 := Hn1.out k hk; have h2 := HP.out.lt _ e; omega,
          hO2, fun k hk e => by have h1 := hn2 k hk; have h2 := HP.out.lt _ e; omega, HA.out.keepF (Hk1.out.trans' hk2) fun _ _ h => h, HS.out⟩
       have o0 : w2.cell? ⟨w.heap.size, 0, none⟩ = some (.int .i64 11) := (cell_blk hd.box 0).trans rfl
       have p0 : w2.cell? ⟨P, 0, none⟩ = some (.pointer (some ⟨D, 0, none⟩)) := (cell_blk hd.pw.blk 0).trans rfl
       have p1 : w2.cell? ⟨P, 1, none⟩ = some (.pointer (some ⟨E, 0, none⟩)) := (cell_blk hd.pw.blk 1).trans rfl
       have Hd := Lib.hid hd
       clear hO2 hK2 hA2 hk2 hn2 hd HO1 Hk1 Hb1 Hn1 o7))
  obtain ⟨ob, hob⟩ : ∃ ob, w.heap.size = ob := ⟨_, rfl⟩
  rw [hob] at Hd o0 ⊢
  have hcells : Hid (∀ W, SS P D E ob #[.int .i64 11, .string name, .string to, .slice dA data.length dC, .int .i64 a, .int .i64 b, .int .i64 c, .slice kA keep.length kC] W → (W.cell? ⟨P, 0, none⟩ = some (.pointer (some ⟨D, 0, none⟩)) ∧ W.cell? ⟨P, 1, none⟩ = some (.pointer (some ⟨E, 0, none⟩)) ∧ W.cell? ⟨ob, 1, none⟩ = some (.string name) ∧ W.cell? ⟨ob, 2, none⟩ = some (.string to) ∧ W.cell? ⟨ob, 3, none⟩ = some (.slice dA data.length dC) ∧ W.cell? ⟨ob, 4, none⟩ = some (.int .i64 a) ∧ W.cell? ⟨ob, 5, none⟩ = some (.int .i64 b) ∧ W.cell? ⟨ob, 6, none⟩ = some (.int .i64 c) ∧ W.cell? ⟨ob, 7, none⟩ = some (.slice kA keep.length kC))) := fun W hW =>
    ⟨(cell_blk hW.1 0).trans rfl, (cell_blk hW.1 1).trans rfl, (cell_blk hW.2 1).trans rfl, (cell_blk hW.2 2).trans rfl, (cell_blk hW.2 3).trans rfl, (cell_blk hW.2 4).trans rfl, (cell_blk hW.2 5).trans rfl, (cell_blk hW.2 6).trans rfl, (cell_blk hW.2 7).trans rfl⟩
  have Hob := Lib.hid hob
  clear hob
  have hch : s.changes.length ≤ 1000000 := Nat.le_trans Hg.out.gs.ch (by omega)
  have hcht : t.changes.length ≤ 1000000 := Nat.le_trans Hg.out.gt.ch (by omega)
  have hnm := HA.out.name
  simp only at hnm
  have hc1 : ∀ W, Keep No w2 W → Calls Try.prog 33 #[.pointer (some ⟨D, 0, none⟩), .int .i64 a] W fun e w' => e = .returned (.tuple #[]) ∧ DidP W P D E L M (s.arm a) t w' := fun W hW =>
    (arm_any (Hd.out.pw.keepNo hW).d a).mono fun _ _ ⟨h1, h2⟩ => ⟨h1, (Hd.out.pw.keepNo hW).stepD h2⟩
  clear hch hcht
  have Hc1 := Lib.hid hc1
  clear hc1
  go_wp2_with fail
  refine wp_region_T (SS P D E ob #[.int .i64 11, .string name, .string to, .slice dA data.length dC, .int .i64 a, .int .i64 b, .int .i64 c, .slice kA keep.length kC]) [(0, true), (1, true), (2, true), (3, true), (4, true), (5, true), (6, false)] (by kernel_rfl) (by kernel_rfl) (Hd.out.ss) ?_
  iterate 6
    (apply T_read rfl (by rfl)
     (· (intro W hW; have hc := hcells.out W hW; go_simp; try with_reducible rfl))
     (try simp only [Act.put, List.getElem_toArray, List.getElem_cons_succ, List.getElem_cons_zero, List.setIfInBounds_toArray, List.set_cons_zero, List.set_cons_succ]))
  refine T_do rfl (by rfl) (fun K hK => ?_)
  go_simp
  refine (Hc1.out _ (Keep.refl No w2).drew).mono ?_
  rintro e w3 ⟨rfl, L1, M1, hP1, hk1, hf1⟩
  have hk1 : Keep (footP P D E L M) w2 w3 := hk1.of_drew
  have hob3 : w3.heap[ob]? = some (.cells #[.int .i64 11, .string name, .string to, .slice dA data.length dC, .int .i64 a, .int .i64 b, .int .i64 c, .slice kA keep.length kC] 45 (0, 0)) := (hk1.block ob (lt_blk Hd.out.box) Hd.out.obn).trans Hd.out.box
  have hss : SS P D E ob #[.int .i64 11, .string name, .string to, .slice dA data.length dC, .int .i64 a, .int .i64 b, .int .i64 c, .slice kA keep.length kC] w3 := ⟨hP1.blk, hob3⟩
  have p0 : w3.cell? ⟨P, 0, none⟩ = some (.pointer (some ⟨D, 0, none⟩)) := (cell_blk hss.1 0).trans rfl
  have p1 : w3.cell? ⟨P, 1, none⟩ = some (.pointer (some ⟨E, 0, none⟩)) := (cell_blk hss.1 1).trans rfl
  have hc2 : ∀ W, Keep No w3 W → Calls Try.prog 34 #[.pointer (some ⟨E, 0, none⟩), .int .i64 a] W fun e w' => e = .returned (.tuple #[]) ∧ DidP W P D E L1 M1 (s.arm a) (t.armR a) w' := fun W hW =>
    (armR_any (hP1.keepNo hW).r a).mono fun _ _ ⟨h1, h2⟩ => ⟨h1, (hP1.keepNo hW).stepR h2⟩
  have Hc2 := Lib.hid hc2
  have HP1 := Lib.hid hP1
  have Hk1 := Lib.hid hk1
  have Hf1 : Hid (∀ k, footP P D E L1 M1 k → footP P D E L M k ∨ New w2 w3 k) := hf1
  have Hss := Lib.hid hss
  clear hc2 hP1 hk1 hf1 hob3 hss
  refine hK _ _ (fun h => absurd rfl h) (T_end ?_)
  go_wp2_with fail
  have hss := Hss.out
  refine wp_region_T (SS P D E ob #[.int .i64 11, .string name, .string to, .slice dA data.length dC, .int .i64 a, .int .i64 b, .int .i64 c, .slice kA keep.length kC]) [(0, true), (1, true), (2, true), (3, true), (4, true), (5, true), (6, false)] (by kernel_rfl) (by kernel_rfl) (hss) ?_
  iterate 6
    (apply T_read rfl (by rfl)
     (· (intro W hW; have hc := hcells.out W hW; go_simp; try with_reducible rfl))
     (try simp only [Act.put, List.getElem_toArray, List.getElem_cons_succ, List.getElem_cons_zero, List.setIfInBounds_toArray, List.set_cons_zero, List.set_cons_succ]))
  refine T_do rfl (by rfl) (fun K hK => ?_)
  go_simp
  refine (Hc2.out _ (Keep.refl No w3).drew).mono ?_
  rintro e w4 ⟨rfl, hd4⟩
  have hd4s := hd4.after (Keep.refl No w3).drew
  have hd4 : DidP w P D E L M (s.arm a) (t.armR a) w4 := (DidP.trans Hk1.out Hf1.out hd4s).after Hd.out.k
  have hk4 : Keep (footP P D E L M) w2 w4 := by
    obtain ⟨_, _, _, h5, _⟩ := DidP.trans Hk1.out Hf1.out hd4s
    exact h5
  obtain ⟨hob4, hsb, hsi⟩ := Hd.out.fin hk4
  simp only at hsb hsi
  have o3 : w4.cell? ⟨ob, 3, none⟩ = some (.slice dA data.length dC) := (cell_blk hob4 3).trans rfl
  have o7 : w4.cell? ⟨ob, 7, none⟩ = some (.slice kA keep.length kC) := (cell_blk hob4 7).trans rfl
  have hss4 : SS P D E ob #[.int .i64 11, .string name, .string to, .slice dA data.length dC, .int .i64 a, .int .i64 b, .int .i64 c, .slice kA keep.length kC] w4 := by
    obtain ⟨_, _, h5, _, _⟩ := hd4
    exact ⟨h5.blk, hob4⟩
  have Hss4 := Lib.hid hss4
  have Hd4 := Lib.hid hd4
  have Hsb := Lib.hid hsb
  have Hsi := Lib.hid hsi
  clear hob4 hsb hsi hk4 hd4 hss4
  refine hK _ _ (fun h => absurd rfl h) (T_end ?_)
  go_wp2_with fail
  refine Hsb.out.mono ?_
  rintro e w5 ⟨rfl, rfl⟩
  go_wp2_with fail
  refine Hsi.out.mono ?_
  rintro e w5 ⟨rfl, m5, rfl⟩
  go_wp2_with fail
  go_ret
  exact ⟨rfl, Hd4.out.before ((Keep.refl No w4).drewN m5)⟩

set_option maxRecDepth 100000 in
set_option maxHeartbeats 16000000 in
theorem does_fail {w : World} {P D E : Nat} {s t : St} {L : PL} {M : RL} {n : Nat} (hP : PW w P D E s t L M) (hg : SimG s t n) (hn : n ≤ 100000) {S : Nat → Prop} {name to : Nm} {data : List UInt8} {a b c : Int} {keep : List Int} {dA kA : Option Addr} {dC kC : Nat}
    (ha : ArgO w S (⟨12, name, to, data, a, b, c, keep⟩, (dA, dC), (kA, kC))) (hS : ∀ k, S k → ¬ footP P D E L M k) :
    Calls Try.prog 31 #[.pointer (some ⟨P, 0, none⟩), .agg #[.int .i64 12, .string name, .string to, .slice dA data.length dC, .int .i64 a, .int .i64 b, .int .i64 c, .slice kA keep.length kC]] w fun e w' => e = .returned (.bool true) ∧ DidP w P D E L M (s.fail a b c) (t.failR a b c) w' := by
  have HP := Lib.hid hP
  have Hg := Lib.hid hg
  have HA := Lib.hid ha
  have HS := Lib.hid hS
  have hdm := ha.data.max
  have hkm := ha.klen
  simp only at hdm hkm
  clear hP hg ha hS
  go_enter Try.func31, Try.ntmps31
  go_wp2_with (first
    | (have hA0 := HA.out.keepF ((Keep.refl No w).alloc (.cells #[.int .i64 12, .string name, .string to, .slice dA data.length dC, .int .i64 a, .int .i64 b, .int .i64 c, .slice kA keep.length kC] 45)) fun _ _ h => h
       have hsrc := hA0.data.src data.length (Nat.le_refl _)
       rw [List.take_length] at hsrc
       refine wpList_app (by rfl) (.const (.slice none 0 0)) (.tmp 14) 43 43 rfl (Own.nil _ 5 1) Try.underlying43 info5 rfl (by omega) rfl rfl hsrc (by unfold maxLen; omega) (by omega) ?_
       intro A1 c1 w1 hO1 hK1 hA1
       rw [Nat.zero_add, List.nil_append] at hO1
       rw [Nat.zero_add]
       have hk1 : Keep No w w1 := ((Keep.refl No w).alloc (.cells #[.int .i64 12, .string name, .string to, .slice dA data.length dC, .int .i64 a, .int .i64 b, .int .i64 c, .slice kA keep.length kC] 45)).trans' (hK1.mono fun k _ e => by simp at e)
       have hb1 : w1.heap[w.heap.size]? = some (.cells #[.int .i64 12, .string name, .string to, .slice dA data.length dC, .int .i64 a, .int .i64 b, .int .i64 c, .slice kA keep.length kC] 45 (0, 0)) := (hK1.block _ (by simp) (by simp)).trans (alloc_new w _)
       have hn1 : ∀ k, bk A1 = some k → w.heap.size ≤ k := fun k hk => by
         rcases hA1 with rfl | ⟨rfl, h2⟩
         · simp at hk
         · simp at hk; omega
       have o7 : w1.cell? ⟨w.heap.size, 7, none⟩ = some (.slice kA keep.length kC) := (cell_blk hb1 7).trans rfl
       have HO1 := Lib.hid hO1
       have Hk1 := Lib.hid hk1
       have Hb1 := Lib.hid hb1
       have Hn1 := Lib.hid hn1
       clear hA0 hsrc hO1 hK1 hA1 hk1 hb1 hn1)
    | (refine wpList_app (by rfl) (.const (.slice none 0 0)) (.tmp 17) 37 37 rfl (Own.nil _ 3 1) Try.underlying37 info3 rfl (by omega) rfl rfl (src_rd (news := IV keep) (m := keep.length) Try.underlying37 (HA.out.keepF Hk1.out fun _ _ h => h).keep (by simp [IV]) (by omega) (by intro u hu; obtain ⟨z, _, rfl⟩ := List.mem_map.1 hu; rfl)) (by unfold maxLen; omega) (by omega) ?_
       intro A2 c2 w2 hO2 hK2 hA2
       rw [Nat.zero_add, List.nil_append] at hO2
       rw [Nat.zero_add]
       have hk2 : Keep No w1 w2 := hK2.mono fun k _ e => by simp at e
       have hn2 : ∀ k, bk A2 = some k → w.heap.size ≤ k := fun k hk => by
         have hs := Hk1.out.size
         rcases hA2 with rfl | ⟨rfl, h2⟩
         · simp at hk
         · simp at hk; omega
       have hd : DoS w w2 P D E s t L M S (⟨12, name, to, data, a, b, c, keep⟩, (dA, dC), (kA, kC)) w.heap.size A1 c1 A2 c2 :=
         ⟨HP.out.keepNo (Hk1.out.trans' hk2), Hk1.out.trans' hk2, (hk2.block _ (lt_blk Hb1.out) id).trans Hb1.out, fun e => by have := HP.out.lt _ e; omega, HO1.out.keep hk2 fun _ _ h => h, fun k hk e => by have h1 := Hn1.out k hk; have h2 := HP.out.lt _ e; omega,
          hO2, fun k hk e => by have h1 := hn2 k hk; have h2 := HP.out.lt _ e; omega, HA.out.keepF (Hk1.out.trans' hk2) fun _ _ h => h, HS.out⟩
       have o0 : w2.cell? ⟨w.heap.size, 0, none⟩ = some (.int .i64 12) := (cell_blk hd.box 0).trans rfl
       have p0 : w2.cell? ⟨P, 0, none⟩ = some (.pointer (some ⟨D, 0, none⟩)) := (cell_blk hd.pw.blk 0).trans rfl
       have p1 : w2.cell? ⟨P, 1, none⟩ = some (.pointer (some ⟨E, 0, none⟩)) := (cell_blk hd.pw.blk 1).trans rfl
       have Hd := Lib.hid hd
       clear hO2 hK2 hA2 hk2 hn2 hd HO1 Hk1 Hb1 Hn1 o7))
  obtain ⟨ob, hob⟩ : ∃ ob, w.heap.size = ob := ⟨_, rfl⟩
  rw [hob] at Hd o0 ⊢
  have hcells : Hid (∀ W, SS P D E ob #[.int .i64 12, .string name, .string to, .slice dA data.length dC, .int .i64 a, .int .i64 b, .int .i64 c, .slice kA keep.length kC] W → (W.cell? ⟨P, 0, none⟩ = some (.pointer (some ⟨D, 0, none⟩)) ∧ W.cell? ⟨P, 1, none⟩ = some (.pointer (some ⟨E, 0, none⟩)) ∧ W.cell? ⟨ob, 1, none⟩ = some (.string name) ∧ W.cell? ⟨ob, 2, none⟩ = some (.string to) ∧ W.cell? ⟨ob, 3, none⟩ = some (.slice dA data.length dC) ∧ W.cell? ⟨ob, 4, none⟩ = some (.int .i64 a) ∧ W.cell? ⟨ob, 5, none⟩ = some (.int .i64 b) ∧ W.cell? ⟨ob, 6, none⟩ = some (.int .i64 c) ∧ W.cell? ⟨ob, 7, none⟩ = some (.slice kA keep.length kC))) := fun W hW =>
    ⟨(cell_blk hW.1 0).trans rfl, (cell_blk hW.1 1).trans rfl, (cell_blk hW.2 1).trans rfl, (cell_blk hW.2 2).trans rfl, (cell_blk hW.2 3).trans rfl, (cell_blk hW.2 4).trans rfl, (cell_blk hW.2 5).trans rfl, (cell_blk hW.2 6).trans rfl, (cell_blk hW.2 7).trans rfl⟩
  have Hob := Lib.hid hob
  clear hob
  have hch : s.changes.length ≤ 1000000 := Nat.le_trans Hg.out.gs.ch (by omega)
  have hcht : t.changes.length ≤ 1000000 := Nat.le_trans Hg.out.gt.ch (by omega)
  have hnm := HA.out.name
  simp only at hnm
  have hc1 : ∀ W, Keep No w2 W → Calls Try.prog 37 #[.pointer (some ⟨D, 0, none⟩), .int .i64 a, .int .i64 b, .int .i64 c] W fun e w' => e = .returned (.tuple #[]) ∧ DidP W P D E L M (s.fail a b c) t w' := fun W hW =>
    (fail_any (Hd.out.pw.keepNo hW).d a b c).mono fun _ _ ⟨h1, h2⟩ => ⟨h1, (Hd.out.pw.keepNo hW).stepD h2⟩
  clear hch hcht
  have Hc1 := Lib.hid hc1
  clear hc1
  go_wp2_with fail
  refine wp_region_T (SS P D E ob #[.int .i64 12, .string name, .string to, .slice dA data.length dC, .int .i64 a, .int .i64 b, .int .i64 c, .slice kA keep.length kC]) [(0, true), (1, true), (2, true), (3, true), (4, true), (5, true), (6, true), (7, true), (8, true), (9, true), (10, false)] (by kernel_rfl) (by kernel_rfl) (Hd.out.ss) ?_
  iterate 10
    (apply T_read rfl (by rfl)
     (· (intro W hW; have hc := hcells.out W hW; go_simp; try with_reducible rfl))
     (try simp only [Act.put, List.getElem_toArray, List.getElem_cons_succ, List.getElem_cons_zero, List.setIfInBounds_toArray, List.set_cons_zero, List.set_cons_succ]))
  refine T_do rfl (by rfl) (fun K hK => ?_)
  go_simp
  refine (Hc1.out _ (Keep.refl No w2).drew).mono ?_
  rintro e w3 ⟨rfl, L1, M1, hP1, hk1, hf1⟩
  have hk1 : Keep (footP P D E L M) w2 w3 := hk1.of_drew
  have hob3 : w3.heap[ob]? = some (.cells #[.int .i64 12, .string name, .string to, .slice dA data.length dC, .int .i64 a, .int .i64 b, .int .i64 c, .slice kA keep.length kC] 45 (0, 0)) := (hk1.block ob (lt_blk Hd.out.box) Hd.out.obn).trans Hd.out.box
  have hss : SS P D E ob #[.int .i64 12, .string name, .string to, .slice dA data.length dC, .int .i64 a, .int .i64 b, .int .i64 c, .slice kA keep.length kC] w3 := ⟨hP1.blk, hob3⟩
  have p0 : w3.cell? ⟨P, 0, none⟩ = some (.pointer (some ⟨D, 0, none⟩)) := (cell_blk hss.1 0).trans rfl
  have p1 : w3.cell? ⟨P, 1, none⟩ = some (.pointer (some ⟨E, 0, none⟩)) := (cell_blk hss.1 1).trans rfl
  have hc2 : ∀ W, Keep No w3 W → Calls Try.prog 57 #[.pointer (some ⟨E, 0, none⟩), .int .i64 a, .int .i64 b, .int .i64 c] W fun e w' => e = .returned (.tuple #[]) ∧ DidP W P D E L1 M1 (s.fail a b c) (t.failR a b c) w' := fun W hW =>
    (failR_any (hP1.keepNo hW).r a b c).mono fun _ _ ⟨h1, h2⟩ => ⟨h1, (hP1.keepNo hW).stepR h2⟩
  have Hc2 := Lib.hid hc2
  have HP1 := Lib.hid hP1
  have Hk1 := Lib.hid hk1
  have Hf1 : Hid (∀ k, footP P D E L1 M1 k → footP P D E L M k ∨ New w2 w3 k) := hf1
  have Hss := Lib.hid hss
  clear hc2 hP1 hk1 hf1 hob3 hss
  refine hK _ _ (fun h => absurd rfl h) (T_end ?_)
  go_wp2_with fail
  have hss := Hss.out
  refine wp_region_T (SS P D E ob #[.int .i64 12, .string name, .string to, .slice dA data.length dC, .int .i64 a, .int .i64 b, .int .i64 c, .slice kA keep.length kC]) [(0, true), (1, true), (2, true), (3, true), (4, true), (5, true), (6, true), (7, true), (8, true), (9, true), (10, false)] (by kernel_rfl) (by kernel_rfl) (hss) ?_
  iterate 10
    (apply T_read rfl (by rfl)
     (· (intro W hW; have hc := hcells.out W hW; go_simp; try with_reducible rfl))
     (try simp only [Act.put, List.getElem_toArray, List.getElem_cons_succ, List.getElem_cons_zero, List.setIfInBounds_toArray, List.set_cons_zero, List.set_cons_succ]))
  refine T_do rfl (by rfl) (fun K hK => ?_)
  go_simp
  refine (Hc2.out _ (Keep.refl No w3).drew).mono ?_
  rintro e w4 ⟨rfl, hd4⟩
  have hd4s := hd4.after (Keep.refl No w3).drew
  have hd4 : DidP w P D E L M (s.fail a b c) (t.failR a b c) w4 := (DidP.trans Hk1.out Hf1.out hd4s).after Hd.out.k
  have hk4 : Keep (footP P D E L M) w2 w4 := by
    obtain ⟨_, _, _, h5, _⟩ := DidP.trans Hk1.out Hf1.out hd4s
    exact h5
  obtain ⟨hob4, hsb, hsi⟩ := Hd.out.fin hk4
  simp only at hsb hsi
  have o3 : w4.cell? ⟨ob, 3, none⟩ = some (.slice dA data.length dC) := (cell_blk hob4 3).trans rfl
  have o7 : w4.cell? ⟨ob, 7, none⟩ = some (.slice kA keep.length kC) := (cell_blk hob4 7).trans rfl
  have hss4 : SS P D E ob #[.int .i64 12, .string name, .string to, .slice dA data.length dC, .int .i64 a, .int .i64 b, .int .i64 c, .slice kA keep.length kC] w4 := by
    obtain ⟨_, _, h5, _, _⟩ := hd4
    exact ⟨h5.blk, hob4⟩
  have Hss4 := Lib.hid hss4
  have Hd4 := Lib.hid hd4
  have Hsb := Lib.hid hsb
  have Hsi := Lib.hid hsi
  clear hob4 hsb hsi hk4 hd4 hss4
  refine hK _ _ (fun h => absurd rfl h) (T_end ?_)
  go_wp2_with fail
  refine Hsb.out.mono ?_
  rintro e w5 ⟨rfl, rfl⟩
  go_wp2_with fail
  refine Hsi.out.mono ?_
  rintro e w5 ⟨rfl, m5, rfl⟩
  go_wp2_with fail
  go_ret
  exact ⟨rfl, Hd4.out.before ((Keep.refl No w4).drewN m5)⟩

end Go.Dx
