/- The contracts of slices.Sorted(maps.Keys(m)) at this dump, in plain words. No condition. Made by program. slices.Sorted(maps.Keys(m)) at a map that holds a directory: its names, in order. No condition. The program's disk: told: the files of a directory, in order, each with its bytes and how many are sure. No condition. The program's disk: told, the walk. No condition. -/
import Derived.Shelf.SlIter.Nil
import Derived.Shelf.SortM.Plain
import Derived.Shelf.SortM.SortNone
import Derived.Test.YtlkgkckejfkblaaProg
import Derived.Test.YtlkgkckejfkblaaGc
namespace Go.Proofs
open Go.RowKit Go.Maps Go.Sort Go.Shelf

def Try.keys67_ren : Go.Shelf.Ren := ⟨fun | 7 => 67 | 10 => 73 | n => n, fun | 23 => 75 | 26 => 9 | 3 => 92 | 28 => 120 | 0 => 0 | 27 => 119 | 33 => 97 | 4 => 4 | n => n, fun | n => n⟩
theorem Try.keys67 : Go.Proofs.SlLaysZ.n7 Try.prog Try.keys67_ren := {
  mixed := by kernel_rfl
  f7 := ⟨Try.f67.name, by decide, Try.func67.trans (congrArg some (by kernel_rfl))⟩
  f10 := ⟨Try.f73.name, by decide, Try.func73.trans (congrArg some (by kernel_rfl))⟩
  t0 := Try.underlying0
  a0 := Try.isAgg0
  z0 := Try.sizeOf0
  v0 := Try.zeroValue0
  t4 := Try.underlying4
  a4 := Try.isAgg4
  z4 := Try.sizeOf4
  v4 := Try.zeroValue4
  t23 := Try.underlying75
  a23 := Try.isAgg75
  z23 := Try.sizeOf75
  v23 := Try.zeroValue75
  t26 := Try.underlying9
  a26 := Try.isAgg9
  z26 := Try.sizeOf9
  v26 := Try.zeroValue9
  t27 := Try.underlying119
  a27 := Try.isAgg119
  z27 := Try.sizeOf119
  v27 := Try.zeroValue119
  t28 := Try.underlying120
  a28 := Try.isAgg120
  z28 := Try.sizeOf120
  v28 := Try.zeroValue120
  t33 := Try.underlying97
  a33 := Try.isAgg97
  z33 := Try.sizeOf97
  v33 := Try.zeroValue97 }

def Try.sorted66_ren : Go.Shelf.Ren := ⟨fun | 6 => 66 | 8 => 71 | 9 => 72 | 11 => 75 | 13 => 77 | 12 => 76 | 23 => 87 | 24 => 88 | 14 => 78 | 15 => 79 | 16 => 80 | 17 => 81 | 18 => 82 | 19 => 83 | 20 => 84 | 21 => 85 | 22 => 86 | 25 => 89 | 26 => 90 | 27 => 91 | 28 => 92 | 29 => 93 | 30 => 94 | 31 => 95 | n => n, fun | 26 => 9 | 28 => 120 | 24 => 42 | 0 => 0 | 3 => 3 | 37 => 129 | 48 => 139 | 50 => 141 | 4 => 4 | 40 => 132 | 39 => 131 | 45 => 104 | 5 => 5 | 9 => 9 | 51 => 142 | 55 => 146 | 57 => 148 | 58 => 149 | 33 => 97 | n => n, fun | n => n⟩
theorem Try.sorted66 : Go.Proofs.SlLaysZ.n6 Try.prog Try.sorted66_ren := {
  mixed := by kernel_rfl
  f6 := ⟨Try.f66.name, by decide, Try.func66.trans (congrArg some (by kernel_rfl))⟩
  f8 := ⟨Try.f71.name, by decide, Try.func71.trans (congrArg some (by kernel_rfl))⟩
  f11 := ⟨Try.f75.name, by decide, Try.func75.trans (congrArg some (by kernel_rfl))⟩
  t0 := Try.underlying0
  a0 := Try.isAgg0
  z0 := Try.sizeOf0
  v0 := Try.zeroValue0
  t24 := Try.underlying42
  a24 := Try.isAgg42
  z24 := Try.sizeOf42
  v24 := Try.zeroValue42
  t26 := Try.underlying9
  a26 := Try.isAgg9
  z26 := Try.sizeOf9
  v26 := Try.zeroValue9
  t28 := Try.underlying120
  a28 := Try.isAgg120
  z28 := Try.sizeOf120
  v28 := Try.zeroValue120
  i26 := by kernel_rfl }

def Try.sort72_ren : Go.Shelf.Ren := ⟨fun | 6 => 72 | 8 => 77 | 9 => 76 | 19 => 87 | 20 => 88 | 21 => 78 | 22 => 79 | 23 => 80 | 24 => 81 | 25 => 82 | 26 => 83 | 27 => 84 | 28 => 85 | 29 => 86 | 36 => 89 | 31 => 90 | 32 => 91 | 37 => 92 | 38 => 93 | 39 => 94 | 41 => 95 | n => n, fun | 27 => 42 | 29 => 9 | 3 => 3 | 32 => 129 | 26 => 42 | 0 => 0 | 44 => 139 | 46 => 141 | 4 => 4 | 36 => 132 | 35 => 131 | 41 => 104 | 5 => 5 | 9 => 9 | 53 => 142 | 57 => 146 | 63 => 148 | 64 => 149 | n => n, fun | n => n⟩
theorem Try.sort72 : Go.Proofs.SlLaysM.n6 Try.prog Try.sort72_ren := {
  mixed := by kernel_rfl
  f6 := ⟨Try.f72.name, by decide, Try.func72.trans (congrArg some (by kernel_rfl))⟩
  f8 := Try.func77.trans (congrArg some (by kernel_rfl))
  f9 := ⟨Try.f76.name, by decide, Try.func76.trans (congrArg some (by kernel_rfl))⟩
  f19 := Try.func87.trans (congrArg some (by kernel_rfl))
  f20 := Try.func88.trans (congrArg some (by kernel_rfl))
  f21 := ⟨Try.f78.name, by decide, Try.func78.trans (congrArg some (by kernel_rfl))⟩
  f22 := ⟨Try.f79.name, by decide, Try.func79.trans (congrArg some (by kernel_rfl))⟩
  f23 := ⟨Try.f80.name, by decide, Try.func80.trans (congrArg some (by kernel_rfl))⟩
  f24 := ⟨Try.f81.name, by decide, Try.func81.trans (congrArg some (by kernel_rfl))⟩
  f25 := ⟨Try.f82.name, by decide, Try.func82.trans (congrArg some (by kernel_rfl))⟩
  f26 := ⟨Try.f83.name, by decide, Try.func83.trans (congrArg some (by kernel_rfl))⟩
  f27 := ⟨Try.f84.name, by decide, Try.func84.trans (congrArg some (by kernel_rfl))⟩
  f28 := ⟨Try.f85.name, by decide, Try.func85.trans (congrArg some (by kernel_rfl))⟩
  f29 := ⟨Try.f86.name, by decide, Try.func86.trans (congrArg some (by kernel_rfl))⟩
  f31 := Try.func90.trans (congrArg some (by kernel_rfl))
  f32 := Try.func91.trans (congrArg some (by kernel_rfl))
  f36 := ⟨Try.f89.name, by decide, Try.func89.trans (congrArg some (by kernel_rfl))⟩
  f37 := ⟨Try.f92.name, by decide, Try.func92.trans (congrArg some (by kernel_rfl))⟩
  f38 := ⟨Try.f93.name, by decide, Try.func93.trans (congrArg some (by kernel_rfl))⟩
  f39 := ⟨Try.f94.name, by decide, Try.func94.trans (congrArg some (by kernel_rfl))⟩
  f41 := ⟨Try.f95.name, by decide, Try.func95.trans (congrArg some (by kernel_rfl))⟩
  t0 := Try.underlying0
  a0 := Try.isAgg0
  z0 := Try.sizeOf0
  v0 := Try.zeroValue0
  t3 := Try.underlying3
  a3 := Try.isAgg3
  z3 := Try.sizeOf3
  v3 := Try.zeroValue3
  t4 := Try.underlying4
  a4 := Try.isAgg4
  z4 := Try.sizeOf4
  v4 := Try.zeroValue4
  t5 := Try.underlying5
  a5 := Try.isAgg5
  z5 := Try.sizeOf5
  v5 := Try.zeroValue5
  t9 := Try.underlying9
  a9 := Try.isAgg9
  z9 := Try.sizeOf9
  v9 := Try.zeroValue9
  t26 := Try.underlying42
  a26 := Try.isAgg42
  z26 := Try.sizeOf42
  v26 := Try.zeroValue42
  t27 := Try.underlying42
  a27 := Try.isAgg42
  z27 := Try.sizeOf42
  v27 := Try.zeroValue42
  t29 := Try.underlying9
  a29 := Try.isAgg9
  z29 := Try.sizeOf9
  v29 := Try.zeroValue9
  t32 := Try.underlying129
  a32 := Try.isAgg129
  z32 := Try.sizeOf129
  v32 := Try.zeroValue129
  t35 := Try.underlying131
  a35 := Try.isAgg131
  z35 := Try.sizeOf131
  v35 := Try.zeroValue131
  t36 := Try.underlying132
  a36 := Try.isAgg132
  z36 := Try.sizeOf132
  v36 := Try.zeroValue132
  t41 := Try.underlying104
  a41 := Try.isAgg104
  z41 := Try.sizeOf104
  v41 := Try.zeroValue104
  t44 := Try.underlying139
  a44 := Try.isAgg139
  z44 := Try.sizeOf139
  v44 := Try.zeroValue139
  t46 := Try.underlying141
  a46 := Try.isAgg141
  z46 := Try.sizeOf141
  v46 := Try.zeroValue141
  t53 := Try.underlying142
  a53 := Try.isAgg142
  z53 := Try.sizeOf142
  v53 := Try.zeroValue142
  t57 := Try.underlying146
  a57 := Try.isAgg146
  z57 := Try.sizeOf146
  v57 := Try.zeroValue146
  t63 := Try.underlying148
  a63 := Try.isAgg148
  z63 := Try.sizeOf148
  v63 := Try.zeroValue148
  t64 := Try.underlying149
  a64 := Try.isAgg149
  z64 := Try.sizeOf149
  v64 := Try.zeroValue149 }

theorem Try.sorts66 (m : Nat) : AnyZ.SortsIn Try.prog Try.sorted66_ren Fence.wide m :=
  ⟨fun blk off cap ss W hH hblk hsz => callsIn_wide.2 (AnyM.slices_Sort_string Try.sort72 blk off cap ss W hH hblk hsz),
   fun p cap W => callsIn_wide.2 (AnyM.slices_Sort_string_none Try.sort72 p cap W)⟩

theorem Try.maps_Keys_67 (mb : Option Nat) (W : World) : CallsIn Fence.wide 5 Try.prog 67 #[.map mb] W fun e w' => e = .returned (.func (.func 73) #[] #[.pointer (some ⟨W.heap.size, 0, none⟩)]) ∧ w' = W.alloc (.cells #[.map mb] 75) :=
  AnyZ.keys_in Try.keys67 Fence.wide 5 trivial rfl mb W

set_option maxHeartbeats 1000000 in
theorem Try.slices_Sorted_keys_66_67 {H : Type} (b nn : Nat) (D0 : DataW H) (R : Value → Option (DataW H × List MemPlace)) (w : World) (hown : w.ownsMap Try.prog 9 R b nn D0) (hmax : Maps.size D0 ≤ maxLen) (hbytes : Maps.size D0 * 16 ≤ 140737488355328) :
    CallsIn Fence.wide 5 Try.prog 66 #[.func (.func 73) #[] #[.pointer (some ⟨w.heap.size, 0, none⟩)]] (w.alloc (.cells #[.map (some b)] 75)) fun e w' => ∃ (v : Value) (ss : List (List UInt8)), e = .returned v ∧ ss.Perm (strKeys D0) ∧
      w'.ownsRow (w.alloc (.cells #[.map (some b)] 75)).heap.size 9 1 v ss.length ((ss.mergeSort (fun x y => decide (x ≤ y))).map encStr) ∧ (v = .slice none 0 0 ↔ ss = []) ∧ Below (w.alloc (.cells #[.map (some b)] 75)).heap.size (w.alloc (.cells #[.map (some b)] 75)) w' := by
  have hbl := hown.lt
  have hseq : SeqGives Fence.wide 2 Try.prog 73 #[.pointer (some ⟨w.heap.size, 0, none⟩)] encStr (fun ss => ss.Perm (strKeys D0)) (Maps.size D0) (w.alloc (.cells #[.map (some b)] 75)) :=
    AnyZ.keys_gives (ρ := Try.keys67_ren) { Try.keys67 with } Fence.wide _ trivial rfl (by omega) w.heap.size b nn D0 _ (by simp) (by simp) (by
      obtain ⟨es, clock, hb, Ft, hs, hD⟩ := hown
      exact ⟨es, clock, (Below.heap_alloc _ _ b hbl).trans hb, Ft, hs, hD⟩)
  exact AnyZ.sorted_in Try.sorted66 Fence.wide 5 trivial trivial trivial trivial rfl (by omega) (Try.sorts66 _) (enters_of Try.func72 (by kernel_rfl) rfl) 73 #[.pointer (some ⟨w.heap.size, 0, none⟩)] trivial (enters_of Try.func73 (by kernel_rfl) rfl) _ _ hmax hbytes _ hseq

set_option maxHeartbeats 1000000 in
theorem Try.slices_Sorted_keys_nil_66_67 (w : World) :
    CallsIn Fence.wide 5 Try.prog 66 #[.func (.func 73) #[] #[.pointer (some ⟨w.heap.size, 0, none⟩)]] (w.alloc (.cells #[.map none] 75)) fun e w' => ∃ (v : Value) (ss : List (List UInt8)), e = .returned v ∧ ss = [] ∧
      w'.ownsRow (w.alloc (.cells #[.map none] 75)).heap.size 9 1 v ss.length ((ss.mergeSort (fun x y => decide (x ≤ y))).map encStr) ∧ (v = .slice none 0 0 ↔ ss = []) ∧ Below (w.alloc (.cells #[.map none] 75)).heap.size (w.alloc (.cells #[.map none] 75)) w' := by
  have hseq : SeqGives Fence.wide 2 Try.prog 73 #[.pointer (some ⟨w.heap.size, 0, none⟩)] encStr (fun ss : List (List UInt8) => ss = []) 0 (w.alloc (.cells #[.map none] 75)) :=
    AnyZ.keys_gives_nil (ρ := Try.keys67_ren) { Try.keys67 with } Fence.wide _ trivial rfl w.heap.size _ (by simp) (by simp)
  exact AnyZ.sorted_in Try.sorted66 Fence.wide 5 trivial trivial trivial trivial rfl (by omega) (Try.sorts66 _) (enters_of Try.func72 (by kernel_rfl) rfl) 73 #[.pointer (some ⟨w.heap.size, 0, none⟩)] trivial (enters_of Try.func73 (by kernel_rfl) rfl) _ 0 (Nat.zero_le _) (by omega) _ hseq



end Go.Proofs

namespace Go.Dx
open Go.RowKit Go.Proofs

def nmB (n : Nm) : List UInt8 := n.data.toList
theorem nlt_lt {a b : Nm} (h : nlt a b = true) : nmB a ≤ nmB b := by
  have h2 : Op.bytesLess b.toList a.toList = false := nlt_asymm h
  unfold nmB
  rw [bytesLess_eq, ByteArray.toList_eq, ByteArray.toList_eq, decide_eq_false_iff_not] at h2
  exact List.not_lt.1 h2
theorem sd_sorted {α : Type} {d : Dir α} (h : Sd d) {ss : List (List UInt8)} (hp : ss.Perm (d.map fun x => nmB x.1)) : ss.mergeSort (fun x y => decide (x ≤ y)) = d.map fun x => nmB x.1 := by
  have tr : ∀ a b c : List UInt8, leB a b = true → leB b c = true → leB a c = true := fun a b c h1 h2 => by simp only [leB, decide_eq_true_eq] at *; exact List.le_trans h1 h2
  have to : ∀ a b : List UInt8, (leB a b || leB b a) = true := fun a b => by simp only [leB, Bool.or_eq_true, decide_eq_true_eq]; exact List.le_total a b
  refine List.Perm.eq_of_pairwise (le := fun a b => leB a b = true) (fun a b _ _ h1 h2 => ?_) (List.pairwise_mergeSort tr to ss) ?_ ((List.mergeSort_perm ss leB).trans hp)
  · simp only [leB, decide_eq_true_eq] at h1 h2
    exact List.le_antisymm h1 h2
  · rw [List.pairwise_map]
    exact h.imp fun h => decide_eq_true (nlt_lt h)

theorem ins_sort_perm {H : Type} (x : Lit × DataW H) : ∀ l : List (Lit × DataW H), (DataW.insert x l).Perm (x :: l)
  | [] => List.Perm.refl _
  | y :: l => by
    unfold DataW.insert
    split
    · exact List.Perm.refl _
    · exact ((ins_sort_perm x l).cons y).trans (List.Perm.swap x y l)
theorem foldr_ins_perm {H : Type} : ∀ l : List (Lit × DataW H), (l.foldr DataW.insert []).Perm l
  | [] => List.Perm.refl _
  | x :: l => (ins_sort_perm x _).trans ((foldr_ins_perm l).cons x)

def anyR : Value → Option (DataW Unit × List MemPlace) := fun _ => some (.nil, [])
theorem MapP.owns {w : World} {r : Nat} {kv : Dir Value} (h : MapP w r kv) (hn : ∀ x ∈ kv, x.1.size ≤ maxLen) (hl : kv.length ≤ maxLen) :
    ∃ D0 : DataW Unit, w.ownsMap Try.prog 9 anyR r kv.length D0 ∧ (strKeys D0).Perm (kv.map fun x => nmB x.1) ∧ Maps.size D0 = kv.length := by
  obtain ⟨es, ck, hb, E⟩ := h
  have hlen : es.size = kv.length := by rw [← E.perm.length_eq, List.length_map, Array.length_toList]
  have hkey : ∀ x ∈ es.toList, WideElems.rd Try.prog 9 anyR x = some (.string (nmB (keyS x)), .nil) := fun x hx => by
    have h1 : (keyS x).size ≤ maxLen := hn _ (E.perm.mem_iff.1 (List.mem_map.2 ⟨x, hx, rfl⟩))
    unfold WideElems.rd
    rw [E.str x hx]
    simp [keyOf, Try.underlying9, mapKey, anyR, h1, nmB]
  have hmap : es.toList.map (WideElems.rg Try.prog 9 anyR) = es.toList.map fun x => (Lit.string (nmB (keyS x)), (DataW.nil : DataW Unit)) := List.map_congr_left fun x hx => by
    unfold WideElems.rg
    rw [hkey x hx]; rfl
  refine ⟨.map ((es.toList.map (WideElems.rg Try.prog 9 anyR)).foldr DataW.insert []), ⟨es, ck, hb, ⟨by omega, ⟨E.old, E.born, ?_⟩, fun x hx => ⟨_, hkey x hx⟩⟩, Nat.le_of_eq hlen, rfl⟩, ?_, ?_⟩
  · have h1 : es.toList.map (·.key) = (es.toList.map keyS).map Value.string := by
      rw [List.map_map]
      exact List.map_congr_left fun x hx => E.str x hx
    have h2 : (es.toList.map keyS).Nodup := by
      have : es.toList.map keyS = (es.toList.map kvOf).map (·.1) := by rw [List.map_map]; rfl
      rw [this]
      exact (E.perm.map _).nodup_iff.2 E.nod
    rw [h1]
    unfold List.Nodup at *
    rw [List.pairwise_map]
    exact h2.imp fun hne e => hne (by injection e)
  · have := (foldr_ins_perm (es.toList.map (WideElems.rg Try.prog 9 anyR))).map fun p => strOf p.1
    refine this.trans ?_
    rw [hmap, List.map_map]
    have h3 := E.perm.map fun x => nmB x.1
    rw [List.map_map] at h3
    exact h3
  · have := (foldr_ins_perm (es.toList.map (WideElems.rg Try.prog 9 anyR))).length_eq
    rw [List.length_map] at this
    exact (this.trans Array.length_toList).trans hlen

theorem nm_back (n : Nm) : encStr (nmB n) = .string n := by simp [nmB]

/-- maps.Keys. -/
theorem keys_any {w : World} (r : Nat) :
    Calls Try.prog 67 #[.map (some r)] w fun e w' => e = .returned (.func (.func 73) #[] #[.pointer (some ⟨w.heap.size, 0, none⟩)]) ∧ w' = w.alloc (.cells #[.map (some r)] 75) :=
  (callsIn_wide (n := 5)).1 (Try.maps_Keys_67 (some r) w)
/-- .. and slices.Sorted of it. -/
theorem sorted_any {w : World} {r : Nat} {kv : Dir Value} (h : MapP w r kv) (hs : Sd kv) (hn : ∀ x ∈ kv, x.1.size ≤ maxLen) (hl : kv.length ≤ 8388608) :
    Calls Try.prog 66 #[.func (.func 73) #[] #[.pointer (some ⟨w.heap.size, 0, none⟩)]] (w.alloc (.cells #[.map (some r)] 75)) fun e w' => ∃ A c, e = .returned (.slice A kv.length c) ∧ Own w' 9 1 A kv.length c (kv.map fun x => .string x.1) ∧
      Keep No w w' ∧ ∀ k, bk A = some k → New w w' k := by
  obtain ⟨D0, h1, h2, h3⟩ := h.owns hn (by unfold maxLen; omega)
  refine ((callsIn_wide (n := 5)).1 (Try.slices_Sorted_keys_66_67 r kv.length D0 anyR w h1 (by rw [h3]; unfold maxLen; omega) (by rw [h3]; omega))).mono ?_
  rintro e w' ⟨v, ss, rfl, hp, hrow, hnil, hb⟩
  have hp2 := hp.trans h2
  have hlen : ss.length = kv.length := by rw [hp2.length_eq, List.length_map]
  have hk : Keep No w w' := ((Keep.refl No w).alloc _).trans (Keep.of_below hb No) fun _ _ h => h
  rw [sd_sorted hs hp2, hlen, List.map_map] at hrow
  have he : (kv.map (encStr ∘ fun x => nmB x.1)) = kv.map fun x => Value.string x.1 := List.map_congr_left fun x _ => nm_back x.1
  rw [he] at hrow
  obtain ⟨hr1, hr2 | ⟨g, cap, cur, rfl, hg, hgb, h5, h6, h7, h8⟩⟩ := hrow
  · obtain ⟨rfl, h0⟩ := hr2
    exact ⟨none, 0, by rw [h0], ⟨hr1, .inl ⟨rfl, h0, rfl⟩⟩, hk, by simp⟩
  · refine ⟨some ⟨g, 0, none⟩, cap, rfl, ⟨hr1, .inr ⟨g, cur, rfl, hgb, h5, h6, by omega, h8⟩⟩, hk, ?_⟩
    intro k hk'
    simp at hk'
    subst hk'
    rw [World.size_alloc] at hg
    exact ⟨by omega, lt_blk hgb⟩

end Go.Dx

namespace Go.Dx
open Go.RowKit Go.Proofs

abbrev FT := Nm × List UInt8 × Nat
def tV (x : FT) (d : Option Addr × Nat) : List Value := [.string x.1, .slice d.1 x.2.1.length d.2, .int .i64 x.2.2]
def tsV (l : List FT) (ds : List (Option Addr × Nat)) : List Value := (l.zip ds).flatMap fun p => tV p.1 p.2
/-- A list of files as it is told: a slice of files, each with bytes of its own. -/
structure Told (w : World) (l : List FT) (A : Option Addr) (c : Nat) (ds : List (Option Addr × Nat)) : Prop where
  row : Own w 60 3 A l.length c (tsV l ds)
  dl : ds.length = l.length
  own : ∀ (i : Nat) (x : FT) (d : Option Addr × Nat), l[i]? = some x → ds[i]? = some d → Own w 5 1 d.1 x.2.1.length d.2 (BV x.2.1)
  apart : ∀ (i j : Nat) (x y : Option Addr × Nat), i ≠ j → ds[i]? = some x → ds[j]? = some y → ∀ k, bk x.1 = some k → bk y.1 ≠ some k
def footT (A : Option Addr) (ds : List (Option Addr × Nat)) : Nat → Prop := fun k => bk A = some k ∨ ∃ d ∈ ds, bk d.1 = some k

section
variable {w w' : World} {l : List FT} {A : Option Addr} {c : Nat} {ds : List (Option Addr × Nat)}
theorem tsV_len (h : ds.length = l.length) : (tsV l ds).length = l.length * 3 := by
  unfold tsV
  induction l generalizing ds with
  | nil => simp
  | cons x l ih =>
    cases ds with
    | nil => simp at h
    | cons d ds =>
      simp only [List.length_cons, Nat.add_right_cancel_iff] at h
      have := ih h
      simp only [List.zip_cons_cons, List.flatMap_cons, List.length_append, List.length_cons] at *
      rw [this]
      simp only [tV, List.length_cons, List.length_nil]
      omega
theorem tsV_app (h : ds.length = l.length) (x : FT) (d : Option Addr × Nat) : tsV (l ++ [x]) (ds ++ [d]) = tsV l ds ++ tV x d := by
  unfold tsV
  rw [List.zip_append h.symm, List.flatMap_append]
  simp
theorem Told.nil (w : World) : Told w [] none 0 [] := ⟨Own.nil _ _ _, rfl, fun i x d h => by simp at h, fun i j x y _ h => by simp at h⟩
theorem Told.same (h : Told w l A c ds) {S : Nat → Prop} (hs : Same S w w') (hS : ∀ k, footT A ds k → S k) : Told w' l A c ds :=
  ⟨h.row.same hs fun k hk => hS k (.inl hk), h.dl, fun i x d hx hd => (h.own i x d hx hd).same hs fun k hk => hS k (.inr ⟨d, List.mem_of_getElem? hd, hk⟩), h.apart⟩
theorem Told.obj (h : Told w l A c ds) {d : Option Addr × Nat} (hd : d ∈ ds) : ∃ n xs, Own w 5 1 d.1 n d.2 xs := by
  obtain ⟨i, hi⟩ := List.mem_iff_getElem?.1 hd
  have hlt := (List.getElem?_eq_some_iff.1 hi).1
  rw [h.dl] at hlt
  exact ⟨_, _, h.own i _ d (List.getElem?_eq_getElem hlt) hi⟩
theorem Told.lt (h : Told w l A c ds) : ∀ k, footT A ds k → k < w.heap.size := by
  rintro k (hk | ⟨d, hd, hk⟩)
  · exact h.row.lt hk
  · obtain ⟨n, xs, ho⟩ := h.obj hd
    exact ho.lt hk
theorem Told.keep (h : Told w l A c ds) {F : Nat → Prop} (hk : Keep F w w') (hF : ∀ k, footT A ds k → ¬ F k) : Told w' l A c ds :=
  h.same (S := footT A ds) (fun k hk' => hk.block k (h.lt k hk') (hF k hk')) fun _ h => h
/-- One file more. -/
theorem Told.push (h : Told w l A c ds) {A' : Option Addr} {c' : Nat} {x : FT} {d : Option Addr × Nat} (hk : Keep (fun k => bk A = some k) w w') (hrow : Own w' 60 3 A' (l.length + 1) c' (tsV l ds ++ tV x d))
    (hd : Own w 5 1 d.1 x.2.1.length d.2 (BV x.2.1)) (hfar : ∀ k, bk d.1 = some k → ¬ footT A ds k) : Told w' (l ++ [x]) A' c' (ds ++ [d]) := by
  have hfar2 : ∀ d2 ∈ ds, ∀ k, bk d2.1 = some k → bk A ≠ some k := fun d2 hd2 k hk1 hk2 => by
    obtain ⟨n, xs, ho⟩ := h.obj hd2
    exact ho.ne h.row (by decide) k hk1 hk2
  have hl := h.dl
  refine ⟨by rw [tsV_app h.dl, List.length_append]; exact hrow, by simp [h.dl], fun i y d2 hy hd2 => ?_, fun i j a b hij ha hb k hk1 hk2 => ?_⟩
  · by_cases hi : i < l.length
    · rw [List.getElem?_append_left hi] at hy
      rw [List.getElem?_append_left (by omega)] at hd2
      exact (h.own i y d2 hy hd2).keep hk fun k hk1 hk2 => hfar2 d2 (List.mem_of_getElem? hd2) k hk1 hk2
    · rw [List.getElem?_append_right (by omega)] at hy
      rw [List.getElem?_append_right (by omega)] at hd2
      have h0 : i - l.length = 0 := by
        have := (List.getElem?_eq_some_iff.1 hy).1
        simp at this; omega
      have h0' : i - ds.length = 0 := by omega
      rw [h0] at hy
      rw [h0'] at hd2
      simp at hy hd2
      subst hy; subst hd2
      exact hd.keep hk fun k hk1 hk2 => hfar k hk1 (.inl hk2)
  · by_cases hi : i < ds.length
    · rw [List.getElem?_append_left hi] at ha
      by_cases hj : j < ds.length
      · rw [List.getElem?_append_left hj] at hb
        exact h.apart i j a b hij ha hb k hk1 hk2
      · rw [List.getElem?_append_right (by omega)] at hb
        have h0 : j - ds.length = 0 := by
          have := (List.getElem?_eq_some_iff.1 hb).1
          simp at this; omega
        rw [h0] at hb
        simp at hb; subst hb
        exact hfar k hk2 (.inr ⟨a, List.mem_of_getElem? ha, hk1⟩)
    · rw [List.getElem?_append_right (by omega)] at ha
      have h0 : i - ds.length = 0 := by
        have := (List.getElem?_eq_some_iff.1 ha).1
        simp at this; omega
      rw [h0] at ha
      simp at ha; subst ha
      by_cases hj : j < ds.length
      · rw [List.getElem?_append_left hj] at hb
        exact hfar k hk1 (.inr ⟨b, List.mem_of_getElem? hb, hk2⟩)
      · rw [List.getElem?_append_right (by omega)] at hb
        have h1 := (List.getElem?_eq_some_iff.1 hb).1
        simp at h1
        omega
end

end Go.Dx

namespace Go.Dx
open Go.RowKit Go.Proofs

theorem FilesAt.at {w : World} {e : TypeId} {fs : List FV} {fb : List Nat} {fd : List (Option Addr × Nat)} (h : FilesAt w e fs fb fd) {i : Nat} (hi : i < fs.length) : ∃ f b d, fs[i]? = some f ∧ fb[i]? = some b ∧ fd[i]? = some d ∧ ptrV fb i = .pointer (some ⟨b, 0, none⟩) ∧
    w.heap[b]? = some (.cells (fileC f d) e (0, 0)) ∧ Own w 5 1 d.1 f.data.length d.2 (BV f.data) := by
  obtain ⟨b, d, h1, h2, h3, h4⟩ := h.file i _ (List.getElem?_eq_getElem hi)
  refine ⟨_, b, d, List.getElem?_eq_getElem hi, h1, h2, ?_, h3, h4⟩
  unfold ptrV
  rw [List.getD_eq_getElem?_getD, h1]; rfl
theorem FilesAt.keepNo {w w' : World} {e : TypeId} {fs : List FV} {fb : List Nat} {fd : List (Option Addr × Nat)} (h : FilesAt w e fs fb fd) (hk : Keep No w w') : FilesAt w' e fs fb fd :=
  h.same (S := footF fb fd) (fun k hk' => hk.block k (h.lt k hk') id) fun _ h => h
theorem MapP.keepNo {w w' : World} {r : Nat} {kv : Dir Value} (h : MapP w r kv) (hk : Keep No w w') : MapP w' r kv := h.same (hk.block r h.lt id)
theorem Own.cellAt {w : World} {e : TypeId} {A : Option Addr} {n c : Nat} {xs : List Value} (h : Own w e 1 A n c xs) {j : Nat} {u : Value} (hj : xs[j]? = some u) : ∃ b, A = some ⟨b, 0, none⟩ ∧ w.cell? ⟨b, j, none⟩ = some u := by
  have hlt := (List.getElem?_eq_some_iff.1 hj).1
  rcases h.2 with ⟨rfl, rfl, _⟩ | ⟨g, cur, rfl, hg, _, _, _, ht⟩
  · rw [h.1] at hlt; omega
  · refine ⟨g, rfl, ?_⟩
    rw [cell_blk hg]
    rw [← ht, List.getElem?_take] at hj
    split at hj
    · simpa using hj
    · cases hj

set_option maxRecDepth 100000 in
set_option maxHeartbeats 4000000 in
theorem told_any {w : World} {r : Nat} {fb : List Nat} {fd : List (Option Addr × Nat)} {s : St} {d : Dir Nat} (hm : MapP w r (dirV fb d)) (hf : FilesAt w 100 s.files fb fd) (hs : Sd d) (hi : ∀ x ∈ d, x.2 < s.files.length)
    (hlen : ∀ f ∈ s.files, f.data.length ≤ 2147483648) (hn : ∀ x ∈ d, x.1.size ≤ 24) (hl : d.length ≤ 8388608) :
    Calls Try.prog 41 #[.map (some r)] w fun e w' => ∃ A c ds, e = .returned (.slice A d.length c) ∧ Told w' (s.told d) A c ds ∧ Keep No w w' ∧ ∀ k, footT A ds k → New w w' k := by
  have hkeys := keys_any (w := w) r
  have hsd : Sd (dirV fb d) := by unfold Sd dirV; rw [List.pairwise_map]; exact hs
  have hdl : (dirV fb d).length = d.length := by simp [dirV]
  have hsort := sorted_any hm hsd (fun x hx => by
    obtain ⟨y, hy, rfl⟩ := List.mem_map.1 hx
    have := hn y hy
    simp only [maxLen]; omega) (by rw [hdl]; exact hl)
  rw [hdl] at hsort
  have hnames : (dirV fb d).map (fun x => Value.string x.1) = d.map fun x => Value.string x.1 := by unfold dirV; rw [List.map_map]; rfl
  rw [hnames] at hsort
  have Hkeys := Lib.hid hkeys
  have Hsort := Lib.hid hsort
  have Hm := Lib.hid hm
  have Hf := Lib.hid hf
  have Hs := Lib.hid hs
  have Hi := Lib.hid hi
  have Hlen := Lib.hid hlen
  clear hkeys hsort hm hf hs hi hlen hn hsd hdl hnames
  go_enter Try.func41, Try.ntmps41
  go_wp2_with fail
  refine Hkeys.out.mono ?_
  rintro e w1 ⟨rfl, rfl⟩
  go_wp2_with fail
  refine Hsort.out.mono ?_
  rintro e w2 ⟨As, cs, rfl, hnm, hk2, hnew⟩
  have HK2 := Lib.hid hk2
  clear hk2
  go_wp2_with fail
  go_loopw [3, 10] (fun v i wr => ∃ (j : Nat) (A : Option Addr) (c : Nat) (ds : List (Option Addr × Nat)), j ≤ d.length ∧ v = .slice A j c ∧ i = .int .i64 j ∧ Hid (Told wr ((s.told d).take j) A c ds ∧ Keep No w wr ∧ (∀ k, footT A ds k → New w wr k) ∧
      Own wr 9 1 As d.length cs (d.map fun x => .string x.1) ∧ (∀ k, bk As = some k → New w wr k))) (fun _ i _ => d.length - (RowKit.intOf i).toNat)
  case atStart => exact ⟨0, none, 0, [], Nat.zero_le _, rfl, rfl, Told.nil _, HK2.out, (fun k hk => by rcases hk with e | ⟨x, hx, _⟩ <;> simp at *), hnm, hnew⟩
  case round =>
    obtain ⟨j, A, c, ds, hj, rfl, rfl, hR⟩ := hrel
    by_cases hlt : j < d.length
    · have hlt' : (j : Int) < d.length := by omega
      obtain ⟨x, hx⟩ : ∃ x, d[j]? = some x := ⟨_, List.getElem?_eq_getElem hlt⟩
      obtain ⟨bn, rfl, hcn⟩ := hR.out.2.2.2.1.cellAt (j := j) (u := .string x.1) (by simp [hx])
      have hm1 := Hm.out.keepNo hR.out.2.1
      have hf1 := Hf.out.keepNo hR.out.2.1
      have hxi := Hi.out x (List.mem_of_getElem? hx)
      obtain ⟨f, b, dd, hff, hfb, hfd, hp, hblk, hown⟩ := hf1.at hxi
      have hget : get d x.1 = some x.2 := Hs.out.getMem (List.mem_of_getElem? hx)
      have hfl := Hlen.out f (List.mem_of_getElem? hff)
      have hcells : Hid (∀ W, Keep (fun k => bk A = some k) wr W → ((Instr.lookup 75 (.map (some r)) (.string x.1) false).run Try.prog W = .ok (.pointer (some ⟨b, 0, none⟩)) W ∧ W.cell? ⟨b, 0, none⟩ = some (.slice dd.1 f.data.length dd.2) ∧ W.cell? ⟨b, 1, none⟩ = some (.int .i64 f.sure))) := by
        intro W hW
        have hmW : MapP W r (dirV fb d) := hm1.same (hW.block r hm1.lt fun e => by
          obtain ⟨es, ck, hb, _⟩ := hm1
          exact hR.out.1.row.ne_map hb e)
        have hbW : W.heap[b]? = some (.cells (fileC f dd) 100 (0, 0)) := (hW.block b (lt_blk hblk) (hR.out.1.row.ne_blk hblk (by decide))).trans hblk
        refine ⟨?_, (cell_blk hbW 0).trans rfl, (cell_blk hbW 1).trans rfl⟩
        have := run_look hmW x.1
        rw [hget] at this
        simp only [lookV, hp] at this
        exact this
      have hcl := fun (W : World) (hW : Keep No wr W) => clone_any (w := W) ((hown.keep hW fun _ _ h => h).rd) (fun k hk => (hown.keep hW fun _ _ h => h).lt hk) dd.2 (by omega)
      have Hx := Lib.hid hx
      have Hff := Lib.hid hff
      have Hcl := Lib.hid hcl
      clear hx hm1 hf1 hxi hff hfb hfd hp hblk hown hget hcl
      go_wp2_with fail
      refine wp_region_T (Keep (fun k => bk A = some k) wr) [(0, true), (1, true), (2, true), (3, true), (4, true), (5, true), (6, true), (7, true), (9, true), (10, true), (11, true), (12, true), (13, true), (14, true), (8, false), (15, true), (16, false), (17, false), (18, false)] (by kernel_rfl) (by kernel_rfl) (Keep.refl _ _).drew ?_
      iterate 14
        (apply T_read rfl (by rfl)
         (· (intro W hW; have hc := hcells.out W hW; go_simp; try with_reducible rfl))
         (simp only [Act.put, List.getElem_toArray, List.getElem_cons_succ, List.getElem_cons_zero, List.setIfInBounds_toArray, List.set_cons_zero, List.set_cons_succ]))
      refine T_do rfl (by rfl) (fun K hK => ?_)
      go_simp
      refine (Hcl.out _ (Keep.refl No wr).drew).mono ?_
      rintro e w3 ⟨A1, c1, rfl, hO1, hk3, hn1⟩
      have hk3 := hk3.of_drew
      refine hK _ _ (fun _ => hk3.mono fun _ _ h => h.elim) ?_
      iterate 1
        (apply T_read rfl (by rfl)
         (· (intro W hW; go_simp; try with_reducible rfl))
         (simp only [Act.put, List.getElem_toArray, List.getElem_cons_succ, List.getElem_cons_zero, List.setIfInBounds_toArray, List.set_cons_zero, List.set_cons_succ]))
      refine T_do rfl (by rfl) (fun K hK => ?_)
      go_simp
      refine hK _ _ (fun _ => (hk3.mono fun _ _ h => h.elim).alloc _) ?_
      have hT := hR.out.1
      have hlen0 : ((s.told d).take j).length = j := by rw [List.length_take]; simp [St.told]; omega
      have hrow : Own wr 60 3 A j c (tsV ((s.told d).take j) ds) := by have := hT.row; rw [hlen0] at this; exact this
      have hka : Keep No wr (w3.alloc (.cells #[.string x.1, .slice A1 f.data.length c1, .int .i64 f.sure] 60)) := hk3.alloc _
      refine T_do rfl (by rfl) (fun K hK => ?_)
      have hO3 := hrow.keep hka fun _ _ h => h
      have hR3 : Rd (w3.alloc (.cells #[.string x.1, .slice A1 f.data.length c1, .int .i64 f.sure] 60)) (fun k => k = w3.heap.size) (some ⟨w3.heap.size, 0, none⟩) [.string x.1, .slice A1 f.data.length c1, .int .i64 f.sure] := fun _ => ⟨w3.heap.size, 0, rfl, rfl, Run.of_blk (alloc_new w3 _)⟩
      refine wp_app (.tmp 14) (.tmp 30) 22 22 rfl hO3 Try.underlying22 info60 rfl (by omega) rfl rfl (src_rd (news := [.string x.1, .slice A1 f.data.length c1, .int .i64 f.sure]) (m := 1) Try.underlying22 hR3 rfl (by omega) (by intro u hu; simp at hu; rcases hu with rfl | rfl | rfl <;> rfl)) (by unfold maxLen; omega) (by omega) (fun A' c' w4 hO4 hK4 hA => ?_)
      have hk4 : Keep (fun k => bk A = some k) wr w4 := (hka.mono (G := fun k => bk A = some k) fun _ _ h => h.elim).trans' (hK4.mono fun k _ e => e.symm)
      refine hK _ _ (fun _ => hk4) ?_
      have hdat : s.dataAt x.2 = f.data := by simp [St.dataAt, Hff.out]
      have hsur : s.sureAt x.2 = f.sure := by simp [St.sureAt, Hff.out]
      have htk : (s.told d).take (j + 1) = (s.told d).take j ++ [(x.1, f.data, f.sure)] := by
        have hg : (s.told d)[j]? = some (x.1, f.data, f.sure) := by simp [St.told, Hx.out, hdat, hsur]
        obtain ⟨hlt3, e⟩ := List.getElem?_eq_some_iff.1 hg
        rw [List.take_succ_eq_append_getElem hlt3, e]
      have hT3 := hT.keep hka fun _ _ h => h
      have hO1a : Own (w3.alloc (.cells #[.string x.1, .slice A1 f.data.length c1, .int .i64 f.sure] 60)) 5 1 A1 f.data.length c1 (BV f.data) := hO1.keep ((Keep.refl No w3).alloc _) fun _ _ h => h
      have hT4 := hT3.push (x := (x.1, f.data, f.sure)) (d := (A1, c1)) (hK4.mono fun k _ e => e.symm) (by rw [hlen0]; exact hO4) hO1a fun k hk1 hk2 => by
        have h1 := hn1 k hk1
        have h2 := hT.lt k hk2
        have := h1.1
        rw [World.size_drew] at this
        omega
      rw [← htk] at hT4
      have hsz := hk3.size
      have hsz4 := hK4.size
      rw [World.size_alloc] at hsz4
      have hszr := hR.out.2.1.size
      have hup : ∀ k, New w wr k → New w w4 k := fun k hk => ⟨hk.1, by have := hk.2; omega⟩
      have hk04 : Keep No w w4 := hR.out.2.1.trans hk4 fun k hk e => by
        have := (hR.out.2.2.1 k (.inl e)).1
        omega
      have HRel : Hid (Told w4 ((s.told d).take (j + 1)) A' c' (ds ++ [(A1, c1)]) ∧ Keep No w w4 ∧ (∀ k, footT A' (ds ++ [(A1, c1)]) k → New w w4 k) ∧
          Own w4 9 1 (some ⟨bn, 0, none⟩) d.length cs (d.map fun x => .string x.1) ∧ (∀ k, bk (some ⟨bn, 0, none⟩) = some k → New w w4 k)) := by
        refine ⟨hT4, hk04, ?_, hR.out.2.2.2.1.keep hk4 (fun k hk e => hR.out.2.2.2.1.ne hrow (by decide) k hk e), fun k hk => hup k (hR.out.2.2.2.2 k hk)⟩
        rintro k (hk | ⟨x2, hx2, hk⟩)
        · rcases hA with rfl | ⟨rfl, hlt4⟩
          · exact hup k (hR.out.2.2.1 k (.inl hk))
          · simp at hk hlt4
            subst hk
            exact ⟨by omega, by omega⟩
        · rcases List.mem_append.1 hx2 with hx2 | hx2
          · exact hup k (hR.out.2.2.1 k (.inr ⟨x2, hx2, hk⟩))
          · simp at hx2
            subst hx2
            have h1 := hn1 k hk
            have h2 := h1.1
            have h3 := h1.2
            rw [World.size_drew] at h2
            exact ⟨by omega, by omega⟩
      have Hk4 := Lib.hid hk4
      clear hT4 hO1a hT3 htk hO4 hK4 hk4 hR3 hO3 hka hrow hlen0 hT hO1 hk3 hn1 hdat hsur hk04
      refine T_do rfl (by rfl) (fun K hK => ?_)
      go_simp
      refine hK _ _ (fun h => absurd rfl h) (T_end ?_)
      go_wp2_with fail
      go_roundw
      case rel => exact ⟨j + 1, A', c', ds ++ [(A1, c1)], by omega, rfl, by go_num, HRel⟩
      case measure => simp [RowKit.intOf]; omega
    · obtain rfl : j = d.length := by omega
      have hall : (s.told d).take d.length = s.told d := List.take_of_length_le (by simp [St.told])
      go_wp2_with fail
      go_ret
      refine ⟨A, c, ds, rfl, ?_, hR.out.2.1, hR.out.2.2.1⟩
      have := hR.out.1
      rw [hall] at this
      exact this

end Go.Dx
