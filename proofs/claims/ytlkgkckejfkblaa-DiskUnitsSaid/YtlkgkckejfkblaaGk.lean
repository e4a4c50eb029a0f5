/- What a law is handed, opened: lists of files. No condition. What a law is handed, opened: scripts. No condition. -/
import Derived.Test.YtlkgkckejfkblaaGi
import Derived.Deep.Slices
import Derived.SizedLaws
import Derived.ChangeOld
import Derived.OpenShut
namespace Go.Dx
open Go.RowKit Go.Proofs Go.ChangeShapes Go.WideShapes

def Old (W : World) : Nat → Prop := fun k => k < W.heap.size
theorem cell_spot {W : World} {a : Addr} {v : Value} (h : W.cell? a = some v) : a.spot = none := by
  unfold World.cell? at h
  split at h
  · split at h
    · cases h
    · rename_i hs
      cases hsp : a.spot with
      | none => rfl
      | some x => rw [hsp] at hs; simp at hs
  · cases h
theorem add_plain' (b o i : Nat) : (⟨b, o, none⟩ : Addr).add i = ⟨b, o + i, none⟩ := by unfold Addr.add; split <;> simp_all
theorem add_zero' (a : Addr) : a.add 0 = a := by unfold Addr.add; simp
theorem plain_of {W : World} {a : Addr} {v : Value} (h : W.cell? a = some v) : a = ⟨a.block, a.off, none⟩ := by
  have := cell_spot h
  cases a
  simp_all

section
variable {H : Type} {enc : TypeId × Value → H} {W : World}

def Light (t : TypeId) (d : DataW H) : Prop := ∀ n ∈ d.weights Try.prog t, n ≤ 140737488351232
theorem Light.of {ts : List TypeId} {ds : List (DataW H)} (h : (DataW.weightsEach Try.prog ts ds).all (· ≤ reachBytes) = true) {j : Nat} {t : TypeId} {d : DataW H} (ht : ts[j]? = some t) (hd : ds[j]? = some d) : Light t d := fun n hn => by
  have := List.all_eq_true.1 h n (DataW.weights_mem_each ht hd n hn)
  exact of_decide_eq_true this
theorem Light.slice {t e : TypeId} {es sp : List (DataW H)} (h : Light t (.slice es sp)) (hu : Try.prog.underlying t = some (.slice e)) : (es.length + sp.length) * Try.prog.bytesOf e ≤ 140737488351232 := h _ (by simp [DataW.weights, hu])
theorem weights_mem_all {P : Program} {e : TypeId} {d : DataW H} : ∀ {l : List (DataW H)}, d ∈ l → ∀ n ∈ d.weights P e, n ∈ DataW.weightsAll P e l
  | [], hd, _, _ => by cases hd
  | d0 :: l, hd, n, hn => by
    simp only [DataW.weightsAll, List.mem_append]
    rcases List.mem_cons.1 hd with rfl | hd
    · exact .inl hn
    · exact .inr (weights_mem_all hd n hn)
theorem Light.elem {t e : TypeId} {es sp : List (DataW H)} (h : Light t (.slice es sp)) (hu : Try.prog.underlying t = some (.slice e)) {d : DataW H} (hd : d ∈ es) : Light e d := fun n hn => h n (by
  simp only [DataW.weights, hu, List.mem_cons, List.mem_append]
  exact .inr (.inl (weights_mem_all hd n hn)))
theorem Light.part {t : TypeId} {fs : Array Field} {ps : List (DataW H)} (h : Light t (.agg ps)) (hu : Try.prog.underlying t = some (.struct fs)) {j : Nat} {u : TypeId} {d : DataW H} (ht : (fs.toList.map (·.type))[j]? = some u) (hd : ps[j]? = some d) : Light u d := fun n hn => h n (by
  simp only [DataW.weights, hu]
  exact DataW.weights_mem_each ht hd n hn)

set_option maxRecDepth 100000 in
theorem open_bytes {fuel : Nat} {cs : List Value} {x : DataW H × List MemPlace} (h : DataW.trod enc Try.prog W 0 (fun _ => true) true fuel 43 cs = some x) (hl : Light 43 x.1) :
    ∃ A c bs, cs = [.slice A bs.length c] ∧ ArgB W (Old W) A c bs := by
  rcases open_ints Try.underlying43 Try.underlying5 (by kernel_rfl) h with ⟨rfl, _⟩ | ⟨a, len, cap, zs, rfl, _, hle, _, hz, rfl, hcell, hwf⟩
  · exact ⟨none, 0, [], rfl, Rd.nil _ _ _, fun _ h => h, Nat.le_refl _, by simp⟩
  · simp only [if_true] at hz
    have hw := hl.slice Try.underlying43
    have hb1 : Try.prog.bytesOf 5 = 1 := by kernel_rfl
    simp only [lits, List.length_map, List.length_take, List.length_drop, hb1] at hw
    have hbl : ((zs.take len).map fun z => UInt8.ofNat z.toNat).length = len := by rw [List.length_map, List.length_take]; omega
    refine ⟨some a, cap, (zs.take len).map fun z => UInt8.ofNat z.toNat, by rw [hbl], ?_, fun _ h => h, by rw [hbl]; exact hle, by rw [hbl]; omega⟩
    intro hx
    rw [BV_length, hbl] at hx
    have h0 := hcell 0 (by omega)
    rw [add_zero'] at h0
    refine ⟨a.block, a.off, by rw [← plain_of h0], World.block_lt_of_cell? W _ h0, fun j u hu => ?_⟩
    rw [BV_get, List.getElem?_map, List.getElem?_take] at hu
    split at hu
    · rename_i hj
      cases hzj : zs[j]? with
      | none => rw [hzj] at hu; cases hu
      | some z =>
        rw [hzj] at hu
        simp only [Option.map_some, Option.some.injEq] at hu
        have hjl := (List.getElem?_eq_some_iff.1 hzj).1
        have hc := hcell j hjl
        rw [plain_of h0, add_plain', List.getD_eq_getElem?_getD, hzj, Option.getD_some] at hc
        rw [hc, ← hu]
        have hz8 := hwf z (List.mem_of_getElem? hzj)
        have hb := bounds_u8 hz8
        have e : ((UInt8.ofNat z.toNat).toNat : Int) = z := by rw [UInt8.toNat_ofNat']; omega
        rw [e]
    · cases hu

theorem open_keep {fuel : Nat} {cs : List Value} {x : DataW H × List MemPlace} (h : DataW.trod enc Try.prog W 0 (fun _ => true) true fuel 37 cs = some x) (hl : Light 37 x.1) :
    ∃ A c ks, cs = [.slice A ks.length c] ∧ Rd W (Old W) A (IV ks) ∧ ks.length ≤ 17592186044416 := by
  rcases open_ints Try.underlying37 Try.underlying3 (by kernel_rfl) h with ⟨rfl, _⟩ | ⟨a, len, cap, zs, rfl, _, hle, _, hz, rfl, hcell, hwf⟩
  · exact ⟨none, 0, [], rfl, Rd.nil _ _ _, by simp⟩
  · simp only [if_true] at hz
    have hw := hl.slice Try.underlying37
    have hb1 : Try.prog.bytesOf 3 = 8 := by kernel_rfl
    simp only [lits, List.length_map, List.length_take, List.length_drop, hb1] at hw
    have hbl : (zs.take len).length = len := by rw [List.length_take]; omega
    refine ⟨some a, cap, zs.take len, by rw [hbl], ?_, by omega⟩
    intro hx
    unfold IV at hx
    rw [List.length_map, hbl] at hx
    have h0 := hcell 0 (by omega)
    rw [add_zero'] at h0
    refine ⟨a.block, a.off, by rw [← plain_of h0], World.block_lt_of_cell? W _ h0, fun j u hu => ?_⟩
    unfold IV at hu
    rw [List.getElem?_map, List.getElem?_take] at hu
    split at hu
    · rename_i hj
      cases hzj : zs[j]? with
      | none => rw [hzj] at hu; cases hu
      | some z =>
        rw [hzj] at hu
        simp only [Option.map_some, Option.some.injEq] at hu
        have hjl := (List.getElem?_eq_some_iff.1 hzj).1
        have hc := hcell j hjl
        rw [plain_of h0, add_plain', List.getD_eq_getElem?_getD, hzj, Option.getD_some] at hc
        rw [hc, ← hu]
    · cases hu


set_option maxRecDepth 100000 in
theorem open_file {fuel : Nat} {cs : List Value} {x : DataW H × List MemPlace} (h : DataW.trod enc Try.prog W 0 (fun _ => true) true fuel 60 cs = some x) (hl : Light 60 x.1) :
    ∃ (y : FI) (d : Option Addr × Nat), cs = tVI y d ∧ ArgB W (Old W) d.1 d.2 y.2.1 ∧ y.1.size ≤ 140737488355328 := by
  obtain ⟨xs, n, rfl, rfl, hlen, hxs, hf⟩ := DataW.trod_struct Try.underlying60 h
  have c60 : Try.prog.cellsOf 60 = 3 := by kernel_rfl
  have c9 : Try.prog.cellsOf 9 = 1 := by kernel_rfl
  have c43 : Try.prog.cellsOf 43 = 1 := by kernel_rfl
  have c3 : Try.prog.cellsOf 3 = 1 := by kernel_rfl
  rw [c60] at hlen
  match xs, hxs, cs, hlen with
  | [y0, y1, y2], _, [v0, v1, v2], _ =>
    have g0 := hf 0 _ rfl
    have g1 := hf 1 _ rfl
    have g2 := hf 2 _ rfl
    simp [c9, c43, c3] at g0 g1 g2
    have l0 : Light 9 y0.1 := hl.part Try.underlying60 (j := 0) rfl rfl
    have l1 : Light 43 y1.1 := hl.part Try.underlying60 (j := 1) rfl rfl
    obtain ⟨nm, e0, e1, _⟩ := DataW.trod_string Try.underlying9 g0
    obtain ⟨A, c, bs, e2, hb⟩ := open_bytes g1 l1
    obtain ⟨z, e3, _, _⟩ := DataW.trod_int Try.underlying3 g2
    simp only [List.cons.injEq, and_true] at e0 e2 e3
    subst e0; subst e2; subst e3; subst e1
    have hs : nm.data.toList.length ≤ 140737488351232 := l0 _ (by simp [DataW.weights])
    refine ⟨(nm, bs, z), (A, c), rfl, hb, ?_⟩
    have : nm.size = nm.data.toList.length := by simp
    simp only
    omega

theorem open_files {v : Value} {d : DataW H} {ps : List MemPlace} (h : DataW.Trod enc Try.prog W 0 (fun _ => true) true 22 v d ps) {A : Option Addr} {len cap : Nat} (hv : v = .slice A len cap) (hl : Light 22 d) :
    ∃ l fa, len = l.length ∧ ArgF W (Old W) A l fa ∧ l.length * 48 ≤ 140737488355328 := by
  obtain ⟨fuel, hf⟩ := h
  subst hv
  rcases Go.Deep.open_slice Try.underlying22 hf with ⟨hcs, _⟩ | ⟨a, len', cap', m, n, D, Pl, hcs, _, hle, _, hm, hx, hel⟩
  · simp [Value.cells] at hcs
    obtain ⟨rfl, rfl, rfl⟩ := hcs
    exact ⟨[], [], rfl, ⟨Rd.nil _ _ _, rfl, fun i x d h => by simp at h, fun _ h => h, fun x h => by simp at h⟩, by simp⟩
  · simp [Value.cells] at hcs
    obtain ⟨rfl, rfl, rfl⟩ := hcs
    simp only [if_true] at hm
    subst hm
    simp only [Prod.mk.injEq] at hx
    obtain ⟨rfl, _⟩ := hx
    have c60 : Try.prog.cellsOf 60 = 3 := by kernel_rfl
    have b60 : Try.prog.bytesOf 60 = 48 := by kernel_rfl
    have hw := hl.slice Try.underlying22
    simp only [List.length_map, List.length_range, b60] at hw
    obtain ⟨f, hfn⟩ := Go.Deep.choose_lt (α := FI × (Option Addr × Nat)) (n := len) (p := fun i q => (∀ j, j < 3 → W.cell? ((a.add (i * 3)).add j) = (tVI q.1 q.2)[j]?) ∧ ArgB W (Old W) q.2.1 q.2.2 q.1.2.1 ∧ q.1.1.size ≤ 140737488355328) (fun i hi => by
      obtain ⟨cs', h1, h2⟩ := hel i (by omega)
      rw [c60] at h1
      obtain ⟨_, _, hc⟩ := World.cells?_some h1
      obtain ⟨y, d, e, hb, hn⟩ := open_file h2 (hl.elem Try.underlying22 (List.mem_map.2 ⟨i, List.mem_range.2 hi, rfl⟩))
      subst e
      exact ⟨(y, d), hc, hb, hn⟩)
    refine ⟨(List.range len).map fun i => (f i).1, (List.range len).map fun i => (f i).2, by simp, ⟨?_, by simp, ?_, fun _ h => h, ?_⟩, by simp only [List.length_map, List.length_range]; omega⟩
    · intro hx
      have hlen : (tsVI ((List.range len).map fun i => (f i).1) ((List.range len).map fun i => (f i).2)).length = len * 3 := by rw [tsVI_len (by simp)]; simp
      rw [hlen] at hx
      have h0 := (hfn 0 (by omega)).1 0 (by omega)
      rw [Nat.zero_mul, add_zero', add_zero'] at h0
      have h0' : W.cell? a = some (.string (f 0).1.1) := h0
      refine ⟨a.block, a.off, by rw [← plain_of h0'], World.block_lt_of_cell? W _ h0', fun j u hu => ?_⟩
      have hj : j < len * 3 := by rw [← hlen]; exact (List.getElem?_eq_some_iff.1 hu).1
      have hi : j / 3 < len := by omega
      have hq : j % 3 < 3 := Nat.mod_lt _ (by omega)
      have hjj : j / 3 * 3 + j % 3 = j := by omega
      have hg := tsVI_get ((List.range len).map fun i => (f i).1) ((List.range len).map fun i => (f i).2) (j / 3) (f (j / 3)).1 (f (j / 3)).2 (by simp [hi]) (by simp [hi]) (j % 3) hq
      rw [hjj, hu] at hg
      have hc := (hfn (j / 3) hi).1 (j % 3) hq
      rw [← hg, plain_of h0', add_plain', add_plain', Nat.add_assoc, hjj] at hc
      exact hc
    · intro i x d hx hd
      simp only [List.getElem?_map] at hx hd
      cases hr : (List.range len)[i]? with
      | none => rw [hr] at hx; cases hx
      | some q =>
        rw [hr] at hx hd
        cases hx; cases hd
        have hql : q < len := List.mem_range.1 (List.mem_of_getElem? hr)
        exact (hfn q hql).2.1
    · intro x hx
      obtain ⟨q, hq, rfl⟩ := List.mem_map.1 hx
      exact (hfn q (List.mem_range.1 hq)).2.2
end
end Go.Dx

namespace Go.Dx
open Go.RowKit Go.Proofs Go.ChangeShapes Go.WideShapes

instance : Inhabited OpD := ⟨⟨0, ByteArray.empty, ByteArray.empty, [], 0, 0, 0, []⟩⟩
section
variable {H : Type} {enc : TypeId × Value → H} {W : World}

set_option maxRecDepth 100000 in
theorem open_op {fuel : Nat} {cs : List Value} {x : DataW H × List MemPlace} (h : DataW.trod enc Try.prog W 0 (fun _ => true) true fuel 45 cs = some x) (hl : Light 45 x.1) :
    ∃ y : OpE, cs = opV y ∧ ArgO W (Old W) y := by
  obtain ⟨xs, n, rfl, rfl, hlen, hxs, hf⟩ := DataW.trod_struct Try.underlying45 h
  have c45 : Try.prog.cellsOf 45 = 8 := by kernel_rfl
  have c9 : Try.prog.cellsOf 9 = 1 := by kernel_rfl
  have c43 : Try.prog.cellsOf 43 = 1 := by kernel_rfl
  have c37 : Try.prog.cellsOf 37 = 1 := by kernel_rfl
  have c3 : Try.prog.cellsOf 3 = 1 := by kernel_rfl
  rw [c45] at hlen
  match xs, hxs, cs, hlen with
  | [y0, y1, y2, y3, y4, y5, y6, y7], _, [v0, v1, v2, v3, v4, v5, v6, v7], _ =>
    have g0 := hf 0 _ rfl
    have g1 := hf 1 _ rfl
    have g2 := hf 2 _ rfl
    have g3 := hf 3 _ rfl
    have g4 := hf 4 _ rfl
    have g5 := hf 5 _ rfl
    have g6 := hf 6 _ rfl
    have g7 := hf 7 _ rfl
    simp [c9, c43, c3, c37] at g0 g1 g2 g3 g4 g5 g6 g7
    have l1 : Light 9 y1.1 := hl.part Try.underlying45 (j := 1) rfl rfl
    have l2 : Light 9 y2.1 := hl.part Try.underlying45 (j := 2) rfl rfl
    have l3 : Light 43 y3.1 := hl.part Try.underlying45 (j := 3) rfl rfl
    have l7 : Light 37 y7.1 := hl.part Try.underlying45 (j := 7) rfl rfl
    obtain ⟨kd, e0, _, _⟩ := DataW.trod_int Try.underlying3 g0
    obtain ⟨nm, e1, f1, _⟩ := DataW.trod_string Try.underlying9 g1
    obtain ⟨to, e2, f2, _⟩ := DataW.trod_string Try.underlying9 g2
    obtain ⟨A, c, bs, e3, hb⟩ := open_bytes g3 l3
    obtain ⟨a, e4, _, wa⟩ := DataW.trod_int Try.underlying3 g4
    obtain ⟨b, e5, _, wb⟩ := DataW.trod_int Try.underlying3 g5
    obtain ⟨d, e6, _, wd⟩ := DataW.trod_int Try.underlying3 g6
    obtain ⟨B, c2, ks, e7, hk, hkl⟩ := open_keep g7 l7
    simp only [List.cons.injEq, and_true] at e0 e1 e2 e3 e4 e5 e6 e7
    subst e0; subst e1; subst e2; subst e3; subst e4; subst e5; subst e6; subst e7; subst f1; subst f2
    have hs1 : nm.data.toList.length ≤ 140737488351232 := l1 _ (by simp [DataW.weights])
    have hs2 : to.data.toList.length ≤ 140737488351232 := l2 _ (by simp [DataW.weights])
    have z1 : nm.size = nm.data.toList.length := by simp
    have z2 : to.size = to.data.toList.length := by simp
    have ba := bounds_i64 wa
    have bb := bounds_i64 wb
    have bd := bounds_i64 wd
    exact ⟨(⟨kd, nm, to, bs, a, b, d, ks⟩, (A, c), (B, c2)), rfl, hb, hk, hkl, by simp only; omega, by simp only; omega, by simp only; omega, by simp only; omega, by simp only; omega⟩

theorem open_ops {v : Value} {d : DataW H} {ps : List MemPlace} (h : DataW.Trod enc Try.prog W 0 (fun _ => true) true 36 v d ps) {A : Option Addr} {len cap : Nat} (hv : v = .slice A len cap) (hl : Light 36 d) :
    ∃ l : List OpE, len = l.length ∧ ArgS W (Old W) A l ∧ l.length ≤ 1000000000000000 := by
  obtain ⟨fuel, hf⟩ := h
  subst hv
  rcases Go.Deep.open_slice Try.underlying36 hf with ⟨hcs, _⟩ | ⟨a, len', cap', m, n, D, Pl, hcs, _, hle, _, hm, hx, hel⟩
  · simp [Value.cells] at hcs
    obtain ⟨rfl, rfl, rfl⟩ := hcs
    exact ⟨[], rfl, ⟨Rd.nil _ _ _, (fun x hx => by cases hx), fun _ h => h⟩, by simp⟩
  · simp [Value.cells] at hcs
    obtain ⟨rfl, rfl, rfl⟩ := hcs
    simp only [if_true] at hm
    subst hm
    simp only [Prod.mk.injEq] at hx
    obtain ⟨rfl, _⟩ := hx
    have c45 : Try.prog.cellsOf 45 = 8 := by kernel_rfl
    have b45 : Try.prog.bytesOf 45 = 112 := by kernel_rfl
    have hw := hl.slice Try.underlying36
    simp only [List.length_map, List.length_range, b45] at hw
    obtain ⟨f, hfn⟩ := Go.Deep.choose_lt (α := OpE) (n := len) (p := fun i q => (∀ j, j < 8 → W.cell? ((a.add (i * 8)).add j) = (opV q)[j]?) ∧ ArgO W (Old W) q) (fun i hi => by
      obtain ⟨cs', h1, h2⟩ := hel i (by omega)
      rw [c45] at h1
      obtain ⟨_, _, hc⟩ := World.cells?_some h1
      obtain ⟨y, e, hy⟩ := open_op h2 (hl.elem Try.underlying36 (List.mem_map.2 ⟨i, List.mem_range.2 hi, rfl⟩))
      subst e
      exact ⟨y, hc, hy⟩)
    have hfull : ((List.range len).map fun i => f i).length = len := by simp
    refine ⟨(List.range len).map fun i => f i, hfull.symm, ⟨?_, ?_, fun _ h => h⟩, by rw [hfull]; omega⟩
    · intro hx
      rw [opsV_len, hfull] at hx
      have hlen : (opsV ((List.range len).map fun i => f i)).length = len * 8 := by rw [opsV_len, hfull]
      have h0 := (hfn 0 (by omega)).1 0 (by omega)
      rw [Nat.zero_mul, add_zero', add_zero'] at h0
      have h0' : W.cell? a = some (.int .i64 (f 0).1.kind) := h0
      refine ⟨a.block, a.off, by rw [← plain_of h0'], World.block_lt_of_cell? W _ h0', fun j u hu => ?_⟩
      have hj : j < len * 8 := by rw [← hlen]; exact (List.getElem?_eq_some_iff.1 hu).1
      have hi : j / 8 < len := by omega
      have hq : j % 8 < 8 := Nat.mod_lt _ (by omega)
      have hjj : j / 8 * 8 + j % 8 = j := by omega
      have hg := opsV_get ((List.range len).map fun i => f i) (j / 8) (f (j / 8)) (by simp [hi]) (j % 8) hq
      rw [hjj, hu] at hg
      have hc := (hfn (j / 8) hi).1 (j % 8) hq
      rw [← hg, plain_of h0', add_plain', add_plain', Nat.add_assoc, hjj] at hc
      exact hc
    · intro x hx
      obtain ⟨q, hq, rfl⟩ := List.mem_map.1 hx
      exact (hfn q (List.mem_range.1 hq)).2
end
end Go.Dx
