/- The law's own small functions: sameFiles, sameInts. No condition. The law's own functions: small, twin. What scripts read as. No condition. The law's own twin of a list of files. No condition. The disk as plain data: the two disks beside one another; what a disk begins with. No condition. Chapter 3's examples, on the plain disk. No condition. -/
import Derived.Test.YtlkgkckejfkblaaGh
namespace Go.Dx
open Go.RowKit Go.Proofs

/-- A list of files that is read. -/
structure FR (w : World) (A : Option Addr) (l : List FI) (ds : List (Option Addr × Nat)) : Prop where
  row : Rd w (fun _ => True) A (tsVI l ds)
  len : ds.length = l.length
  data : ∀ (i : Nat) (x : FI) (d : Option Addr × Nat), l[i]? = some x → ds[i]? = some d → Rd w (fun _ => True) d.1 (BV x.2.1)
theorem FR.at {w : World} {A : Option Addr} {l : List FI} {ds : List (Option Addr × Nat)} (h : FR w A l ds) {i : Nat} {x : FI} (hx : l[i]? = some x) :
    ∃ b o d, A = some ⟨b, o, none⟩ ∧ ds[i]? = some d ∧ w.cell? ⟨b, o + i * 3, none⟩ = some (.string x.1) ∧ w.cell? ⟨b, o + i * 3 + 1, none⟩ = some (.slice d.1 x.2.1.length d.2) ∧ w.cell? ⟨b, o + i * 3 + 2, none⟩ = some (.int .i64 x.2.2) ∧ Rd w (fun _ => True) d.1 (BV x.2.1) := by
  have hil := (List.getElem?_eq_some_iff.1 hx).1
  have hdl : i < ds.length := by rw [h.len]; exact hil
  have hd : ds[i]? = some ds[i] := List.getElem?_eq_getElem hdl
  generalize ds[i] = d at hd
  have key := fun q hq => tsVI_get l ds i x d hx hd q hq
  obtain ⟨b, o, hA, _, hr⟩ := h.row (by rw [tsVI_len h.len]; omega)
  refine ⟨b, o, d, hA, hd, ?_, ?_, ?_, h.data i x d hx hd⟩
  · exact hr (i * 3) _ (key 0 (by omega))
  · have := hr (i * 3 + 1) _ (key 1 (by omega))
    rwa [← Nat.add_assoc] at this
  · have := hr (i * 3 + 2) _ (key 2 (by omega))
    rwa [← Nat.add_assoc] at this
def toI (x : FT) : FI := (x.1, x.2.1, (x.2.2 : Int))
theorem tsV_toI : ∀ (l : List FT) (ds : List (Option Addr × Nat)), tsVI (l.map toI) ds = tsV l ds
  | [], _ => by simp [tsVI, tsV]
  | x :: l, [] => by simp [tsVI, tsV]
  | x :: l, d :: ds => by
    have := tsV_toI l ds
    unfold tsVI tsV at *
    simp only [List.map_cons, List.zip_cons_cons, List.flatMap_cons, this]
    rfl
theorem Told.fr {w : World} {l : List FT} {A : Option Addr} {c : Nat} {ds : List (Option Addr × Nat)} (h : Told w l A c ds) : FR w A (l.map toI) ds :=
  ⟨by rw [tsV_toI]; exact h.row.rd.sub fun _ _ => trivial, by simp [h.dl], fun i x d hx hd => by
    rw [List.getElem?_map] at hx
    cases hl : l[i]? with
    | none => rw [hl] at hx; cases hx
    | some y =>
      rw [hl] at hx
      cases hx
      exact (h.own i y d hl hd).rd.sub fun _ _ => trivial⟩
theorem ArgF.fr {w : World} {S : Nat → Prop} {A : Option Addr} {l : List FI} {ds : List (Option Addr × Nat)} (h : ArgF w S A l ds) : FR w A l ds :=
  ⟨h.row.sub fun _ _ => trivial, h.len, fun i x d hx hd => (h.data i x d hx hd).rd.sub fun _ _ => trivial⟩

set_option maxRecDepth 100000 in
set_option maxHeartbeats 4000000 in
theorem sameFiles_any {w : World} {A B : Option Addr} {l : List FI} {ds es : List (Option Addr × Nat)} (ha : FR w A l ds) (hb : FR w B l es) (hl : l.length ≤ 1000000000000) (c d : Nat) :
    Calls Try.prog 11 #[.slice A l.length c, .slice B l.length d] w fun e w' => e = .returned (.bool true) ∧ ∃ m, w' = w.drewN m := by
  have HA := Lib.hid ha
  have HB := Lib.hid hb
  clear ha hb
  go_enter Try.func11, Try.ntmps11
  go_wp2_with fail
  go_loopw [5] (fun i wr => ∃ j m : Nat, j ≤ l.length ∧ i = .int .i64 j ∧ wr = w.drewN m) (fun i _ => l.length - (RowKit.intOf i).toNat)
  case atStart => exact ⟨0, 0, Nat.zero_le _, rfl, rfl⟩
  case round =>
    obtain ⟨j, m, hj, rfl, hw⟩ := hrel
    by_cases hlt : j < l.length
    · have hlt' : (j : Int) < l.length := by omega
      obtain ⟨x, hx⟩ : ∃ x, l[j]? = some x := ⟨_, List.getElem?_eq_getElem hlt⟩
      obtain ⟨b1, o1, d1, rfl, _, p0, p1, p2, hd1⟩ := HA.out.at hx
      obtain ⟨b2, o2, d2, rfl, _, q0, q1, q2, hd2⟩ := HB.out.at hx
      obtain ⟨xn, xd, xs⟩ := x
      simp only at p0 p1 p2 q0 q1 q2 hd1 hd2
      have e0 : (xn.toList != xn.toList) = false := by simp
      have hsb : ∀ k, Calls Try.prog 40 #[.slice d1.1 xd.length d1.2, .slice d2.1 xd.length d2.2] (wr.drewN k) fun e w' => e = .returned (.bool true) ∧ ∃ m, w' = (wr.drewN k).drewN m := fun k =>
        (sameBytes_any (w := wr.drewN k) (hd1.same (T := fun _ => True) (fun _ _ => by rw [hw]; rfl) fun _ h => h) (hd2.same (T := fun _ => True) (fun _ _ => by rw [hw]; rfl) fun _ h => h) d1.2 d2.2).mono fun e w' ⟨h1, h2⟩ => ⟨by rw [h1]; simp, 0, by rw [← h2]; rfl⟩
      have p0 : wr.cell? ⟨b1, o1 + j * 3, none⟩ = some (.string xn) := by rw [hw]; exact p0
      have p1 : wr.cell? ⟨b1, o1 + j * 3 + 1, none⟩ = some (.slice d1.1 xd.length d1.2) := by rw [hw]; exact p1
      have p2 : wr.cell? ⟨b1, o1 + j * 3 + 2, none⟩ = some (.int .i64 xs) := by rw [hw]; exact p2
      have q0 : wr.cell? ⟨b2, o2 + j * 3, none⟩ = some (.string xn) := by rw [hw]; exact q0
      have q1 : wr.cell? ⟨b2, o2 + j * 3 + 1, none⟩ = some (.slice d2.1 xd.length d2.2) := by rw [hw]; exact q1
      have q2 : wr.cell? ⟨b2, o2 + j * 3 + 2, none⟩ = some (.int .i64 xs) := by rw [hw]; exact q2
      have Hw := Lib.hid hw
      have Hsb := Lib.hid hsb
      clear hw hsb hx
      go_wp2_with fail
      go_quiet ((go_at_call 40; exact Calls.quiet_of (Hsb.out _)))
      go_wp2_with fail
      go_roundw
      case rel => exact ⟨j + 1, m + nq, by omega, by go_num, by rw [Hw.out, World.drewN_drewN]⟩
      case measure => simp [RowKit.intOf]; omega
    · obtain rfl : j = l.length := by omega
      go_wp2_with fail
      go_ret
      exact ⟨rfl, m, rfl⟩
set_option maxRecDepth 100000 in
set_option maxHeartbeats 4000000 in
theorem sameInts_any {w : World} {S T : Nat → Prop} {A B : Option Addr} {l : List Int} (ha : Rd w S A (IV l)) (hb : Rd w T B (IV l)) (hl : l.length ≤ 1000000000000000) (c d : Nat) :
    Calls Try.prog 58 #[.slice A l.length c, .slice B l.length d] w fun e w' => e = .returned (.bool true) ∧ ∃ m, w' = w.drewN m := by
  have HA := Lib.hid ha
  have HB := Lib.hid hb
  clear ha hb
  go_enter Try.func58, Try.ntmps58
  go_wp2_with fail
  go_loopw [5] (fun i wr => ∃ j m : Nat, j ≤ l.length ∧ i = .int .i64 j ∧ wr = w.drewN m) (fun i _ => l.length - (RowKit.intOf i).toNat)
  case atStart => exact ⟨0, 0, Nat.zero_le _, rfl, rfl⟩
  case round =>
    obtain ⟨j, m, hj, rfl, rfl⟩ := hrel
    by_cases hlt : j < l.length
    · have hlt' : (j : Int) < l.length := by omega
      obtain ⟨x, hx⟩ : ∃ x, l[j]? = some x := ⟨_, List.getElem?_eq_getElem hlt⟩
      obtain ⟨b1, o1, rfl, _, hr1⟩ := HA.out (by simp [IV]; omega)
      obtain ⟨b2, o2, rfl, _, hr2⟩ := HB.out (by simp [IV]; omega)
      have p0 : w.cell? ⟨b1, o1 + j, none⟩ = some (.int .i64 x) := hr1 j _ (by simp [IV, hx])
      have q0 : w.cell? ⟨b2, o2 + j, none⟩ = some (.int .i64 x) := hr2 j _ (by simp [IV, hx])
      clear hx hr1 hr2
      go_wp2_with fail
      go_quiet (fail)
      go_wp2_with fail
      go_roundw
      case rel => exact ⟨j + 1, m + nq, by omega, by go_num, rfl⟩
      case measure => simp [RowKit.intOf]; omega
    · obtain rfl : j = l.length := by omega
      go_wp2_with fail
      go_ret
      exact ⟨rfl, m, rfl⟩

end Go.Dx

namespace Go.Dx
open Go.RowKit Go.Proofs

structure OpD where
  kind : Int
  name : Nm
  to : Nm
  data : List UInt8
  a : Int
  b : Int
  c : Int
  keep : List Int
/-- A call, and where its lists lie. -/
abbrev OpE := OpD × (Option Addr × Nat) × (Option Addr × Nat)
def opV (x : OpE) : List Value := [.int .i64 x.1.kind, .string x.1.name, .string x.1.to, .slice x.2.1.1 x.1.data.length x.2.1.2, .int .i64 x.1.a, .int .i64 x.1.b, .int .i64 x.1.c, .slice x.2.2.1 x.1.keep.length x.2.2.2]
theorem opV_len (x : OpE) : (opV x).length = 8 := rfl
def opsV (l : List OpE) : List Value := l.flatMap opV
theorem opsV_len : ∀ l : List OpE, (opsV l).length = l.length * 8
  | [] => rfl
  | x :: l => by
    have := opsV_len l
    unfold opsV at *
    rw [List.flatMap_cons, List.length_append, this, opV_len, List.length_cons]; omega
theorem opsV_get : ∀ (l : List OpE) (i : Nat) (x : OpE), l[i]? = some x → ∀ q, q < 8 → (opsV l)[i * 8 + q]? = (opV x)[q]?
  | [], _, _, h, _, _ => by simp at h
  | y :: l, 0, x, h, q, hq => by
    simp at h; subst h
    unfold opsV
    rw [List.flatMap_cons, List.getElem?_append_left (by rw [opV_len]; omega), Nat.zero_mul, Nat.zero_add]
  | y :: l, i + 1, x, h, q, hq => by
    simp at h
    have := opsV_get l i x h q hq
    unfold opsV at *
    rw [List.flatMap_cons, List.getElem?_append_right (by rw [opV_len]; omega), ← this, opV_len]
    congr 1
    omega
structure ArgO (w : World) (S : Nat → Prop) (x : OpE) : Prop where
  data : ArgB w S x.2.1.1 x.2.1.2 x.1.data
  keep : Rd w S x.2.2.1 (IV x.1.keep)
  klen : x.1.keep.length ≤ 17592186044416
  name : x.1.name.size ≤ 140737488355328
  to : x.1.to.size ≤ 140737488355328
  wa : -9223372036854775808 ≤ x.1.a ∧ x.1.a < 9223372036854775808
  wb : -9223372036854775808 ≤ x.1.b ∧ x.1.b < 9223372036854775808
  wc : -9223372036854775808 ≤ x.1.c ∧ x.1.c < 9223372036854775808
structure ArgS (w : World) (S : Nat → Prop) (A : Option Addr) (l : List OpE) : Prop where
  row : Rd w S A (opsV l)
  each : ∀ x ∈ l, ArgO w S x
  lt : ∀ k, S k → k < w.heap.size
theorem ArgO.keepF {w w' : World} {S F : Nat → Prop} {x : OpE} (h : ArgO w S x) (hk : Keep F w w') (hF : ∀ k, S k → ¬ F k) : ArgO w' S x :=
  { h with data := h.data.keep hk hF, keep := h.keep.same (T := S) (fun k hk' => hk.block k (h.data.lt k hk') (hF k hk')) fun _ h => h }
theorem ArgS.keepF {w w' : World} {S F : Nat → Prop} {A : Option Addr} {l : List OpE} (h : ArgS w S A l) (hk : Keep F w w') (hF : ∀ k, S k → ¬ F k) : ArgS w' S A l :=
  ⟨h.row.same (T := S) (fun k hk' => hk.block k (h.lt k hk') (hF k hk')) fun _ h => h, fun x hx => (h.each x hx).keepF hk hF, fun k hk' => Nat.lt_of_lt_of_le (h.lt k hk') hk.size⟩
theorem ArgS.at {w : World} {S : Nat → Prop} {A : Option Addr} {l : List OpE} (h : ArgS w S A l) {i : Nat} {x : OpE} (hx : l[i]? = some x) :
    ∃ b o, A = some ⟨b, o, none⟩ ∧ S b ∧ ∀ q, q < 8 → w.cell? ⟨b, o + i * 8 + q, none⟩ = (opV x)[q]? := by
  have hil := (List.getElem?_eq_some_iff.1 hx).1
  obtain ⟨b, o, hA, hS, hr⟩ := h.row (by rw [opsV_len]; omega)
  refine ⟨b, o, hA, hS, fun q hq => ?_⟩
  have h1 := opsV_get l i x hx q hq
  have h2 : (opV x)[q]? = some ((opV x)[q]'(by rw [opV_len]; exact hq)) := List.getElem?_eq_getElem _
  rw [h2] at h1
  have := hr (i * 8 + q) _ h1
  rw [← Nat.add_assoc] at this
  rw [this, h2]

def sumS (l : List OpE) : Nat := (l.map fun x => x.1.data.length + x.1.keep.length).sum
theorem sumS_take {l : List OpE} {j : Nat} {x : OpE} (h : l[j]? = some x) : sumS (l.take (j + 1)) = sumS (l.take j) + (x.1.data.length + x.1.keep.length) := by
  unfold sumS
  rw [take_snoc h]
  simp
theorem sumS_mem {l : List OpE} {x : OpE} (h : x ∈ l) : x.1.data.length + x.1.keep.length ≤ sumS l := by
  unfold sumS
  induction l with
  | nil => cases h
  | cons y l ih =>
    simp only [List.map_cons, List.sum_cons]
    rcases List.mem_cons.1 h with e | e
    · subst e; omega
    · have := ih e; omega
/-- What 'small' has told. -/
def SmallR (w : World) (l : List FI) (ops : List OpE) (e : Ending) (w' : World) : Prop :=
  (∃ b : Bool, e = .returned (.bool b) ∧ (b = true → sumF l ≤ 1048576 ∧ sumS ops ≤ 1048576 * 2 ∧ ops.length ≤ 400)) ∧ ∃ m, w' = w.drewN m

set_option maxRecDepth 100000 in
set_option maxHeartbeats 4000000 in
theorem small_any {w : World} {S T : Nat → Prop} {A B : Option Addr} {l : List FI} {fa : List (Option Addr × Nat)} {ops : List OpE} (ha : ArgF w S A l fa) (hb : ArgS w T B ops) (hl : l.length ≤ 1000000000000000) (hol : ops.length ≤ 1000000000000000) (c d : Nat) :
    Calls Try.prog 9 #[.slice A l.length c, .slice B ops.length d] w (SmallR w l ops) := by
  have HA := Lib.hid ha
  have HB := Lib.hid hb
  clear ha hb
  go_enter Try.func9, Try.ntmps9
  go_wp2_with fail
  go_loop [5, 6] (fun n i => ∃ j : Nat, j ≤ l.length ∧ n = .int .i64 (sumF (l.take j)) ∧ i = .int .i64 j ∧ Hid (sumF (l.take j) ≤ 1048576)) (fun _ i => l.length - (RowKit.intOf i).toNat)
  case atStart => exact ⟨0, Nat.zero_le _, rfl, rfl, by simp [sumF, Hid]⟩
  case round =>
    obtain ⟨j, hj, rfl, rfl, hs⟩ := hrel
    by_cases hlt : j < l.length
    · have hlt' : (j : Int) < l.length := by omega
      obtain ⟨x, hx⟩ : ∃ x, l[j]? = some x := ⟨_, List.getElem?_eq_getElem hlt⟩
      obtain ⟨b1, o1, d1, rfl, _, _, p0, p1, p2, hd1⟩ := HA.out.at hx
      have hmx := hd1.max
      have hst := sumF_take hx
      have hs' := hs.out
      obtain ⟨t, ht⟩ : ∃ t, sumF (l.take (j + 1)) = t := ⟨_, rfl⟩
      have hadd : ((sumF (l.take j) : Nat) : Int) + x.2.1.length = t := by omega
      have htb : (t : Int) ≤ 1000000000000000 := by omega
      have Ht := Lib.hid ht
      by_cases hbig : 1048576 < t
      · have hb1 : decide ((1048576 : Int) < t) = true := decide_eq_true (by omega)
        clear hx p0 p2 hd1 hst hs' ht hbig
        go_wp2_with fail
        go_ret
        exact ⟨⟨false, rfl, fun h => by cases h⟩, 0, rfl⟩
      · have hb1 : decide ((1048576 : Int) < t) = false := decide_eq_false (by omega)
        have hsm : Hid (sumF (l.take (j + 1)) ≤ 1048576) := by unfold Hid; omega
        clear hx p0 p2 hd1 hst hs' ht hbig
        go_wp2_with fail
        go_round
        case rel => exact ⟨j + 1, by omega, by rw [Ht.out], by go_num, hsm⟩
        case measure => simp [RowKit.intOf]; omega
    · obtain rfl : j = l.length := by omega
      have hs1 : Hid (sumF l ≤ 1048576) := by have := hs.out; rw [List.take_length] at this; exact this
      rw [List.take_length]
      go_wp2_with fail
      go_loopw [5, 7] (fun n i wr => ∃ j m : Nat, j ≤ ops.length ∧ n = .int .i64 (sumF l + sumS (ops.take j) : Nat) ∧ i = .int .i64 j ∧ wr = w.drewN m ∧ Hid (sumF l + sumS (ops.take j) ≤ 1048576)) (fun _ i _ => ops.length - (RowKit.intOf i).toNat)
      case atStart => exact ⟨0, 0, Nat.zero_le _, by simp [sumS], rfl, rfl, by simpa [sumS] using hs1⟩
      case round =>
        obtain ⟨j, m, hj, rfl, rfl, rfl, hs⟩ := hrel
        by_cases hlt : j < ops.length
        · have hlt' : (j : Int) < ops.length := by omega
          obtain ⟨x, hx⟩ : ∃ x, ops[j]? = some x := ⟨_, List.getElem?_eq_getElem hlt⟩
          obtain ⟨b1, o1, rfl, _, hc⟩ := HB.out.at hx
          have hO := HB.out.each x (List.mem_of_getElem? hx)
          have hmx := hO.data.max
          have hkl := hO.klen
          have q3 : w.cell? ⟨b1, o1 + j * 8 + 3, none⟩ = some (.slice x.2.1.1 x.1.data.length x.2.1.2) := hc 3 (by omega)
          have q7 : w.cell? ⟨b1, o1 + j * 8 + 7, none⟩ = some (.slice x.2.2.1 x.1.keep.length x.2.2.2) := hc 7 (by omega)
          have hst := sumS_take hx
          have hs' := hs.out
          obtain ⟨t0, ht0⟩ : ∃ t0, sumF l + sumS (ops.take j) = t0 := ⟨_, rfl⟩
          obtain ⟨t1, ht1⟩ : ∃ t1, t0 + x.1.data.length = t1 := ⟨_, rfl⟩
          obtain ⟨t, ht⟩ : ∃ t, sumF l + sumS (ops.take (j + 1)) = t := ⟨_, rfl⟩
          rw [ht0] at hs' ⊢
          have hadd : (t0 : Int) + x.1.data.length = t1 := by omega
          have hadd2 : (t1 : Int) + x.1.keep.length = t := by omega
          have hw1 : IntKind.i64.wrap (t1 : Int) = t1 := by rw [IntKind.wrap_i64]; omega
          have hw2 : IntKind.i64.wrap (t : Int) = t := by rw [IntKind.wrap_i64]; omega
          have Ht := Lib.hid ht
          by_cases hbig : 1048576 < t
          · have hb1 : decide ((1048576 : Int) < t) = true := decide_eq_true (by omega)
            clear hx hc hO hst hs' ht0 ht1 ht hbig hs
            go_wp2_with fail
            go_quiet (fail)
            go_wp2_with fail
            go_ret
            exact ⟨⟨false, rfl, fun h => by cases h⟩, _, rfl⟩
          · have hb1 : decide ((1048576 : Int) < t) = false := decide_eq_false (by omega)
            have hsm : Hid (sumF l + sumS (ops.take (j + 1)) ≤ 1048576) := by unfold Hid; omega
            clear hx hc hO hst hs' ht0 ht1 ht hbig hs
            go_wp2_with fail
            go_quiet (fail)
            go_wp2_with fail
            go_roundw
            case rel => exact ⟨j + 1, m + nq, by omega, by rw [Ht.out], by go_num, rfl, hsm⟩
            case measure => simp [RowKit.intOf]; omega
        · obtain rfl : j = ops.length := by omega
          have hs2 : Hid (sumF l + sumS ops ≤ 1048576) := by have := hs.out; rw [List.take_length] at this; exact this
          go_wp2_with fail
          go_ret
          exact ⟨⟨_, rfl, fun hb => ⟨hs1.out, by have := hs2.out; omega, by have := of_decide_eq_true hb; omega⟩⟩, m, rfl⟩

end Go.Dx

namespace Go.Dx
open Go.RowKit Go.Proofs

theorem TI.more {w wr w3 w4 : World} {l : List FI} {A A' A1 : Option Addr} {c c' c1 : Nat} {ds : List (Option Addr × Nat)} {x : FI} (hT : TI wr l A c ds) (h0 : Keep No w wr) (hn : ∀ k, footT A ds k → New w wr k)
    (hk3 : Keep No wr w3) (hO1 : Own w3 5 1 A1 x.2.1.length c1 (BV x.2.1)) (hn1 : ∀ k, bk A1 = some k → New wr w3 k)
    (hK4 : Keep (fun k => bk A = some k) w3 w4) (hO4 : Own w4 60 3 A' (l.length + 1) c' (tsVI l ds ++ tVI x (A1, c1))) (hA : ∀ k, bk A' = some k → bk A = some k ∨ New w3 w4 k) :
    TI w4 (l ++ [x]) A' c' (ds ++ [(A1, c1)]) ∧ Keep No w w4 ∧ ∀ k, footT A' (ds ++ [(A1, c1)]) k → New w w4 k := by
  have hT3 := hT.keep hk3 fun _ _ h => h
  have hs0 := h0.size
  have hs3 := hk3.size
  have hs4 := hK4.size
  refine ⟨hT3.push (x := x) (d := (A1, c1)) hK4 hO4 hO1 fun k hk1 hk2 => ?_, ?_, ?_⟩
  · have h1 := (hn1 k hk1).1
    have h2 := hT.lt k hk2
    omega
  · refine (h0.trans' hk3).trans hK4 fun k hk e => ?_
    have := (hn k (.inl e)).1
    omega
  · rintro k (hk | ⟨y, hy, hk⟩)
    · rcases hA k hk with e | e
      · exact (hn k (.inl e)).sub (by omega)
      · exact ⟨by have := e.1; omega, e.2⟩
    · rcases List.mem_append.1 hy with hy | hy
      · exact (hn k (.inr ⟨y, hy, hk⟩)).sub (by omega)
      · simp at hy
        subst hy
        have h1 := hn1 k hk
        exact ⟨by have := h1.1; omega, by have := h1.2; omega⟩
theorem TI.arg {w : World} {l : List FI} {A : Option Addr} {c : Nat} {ds : List (Option Addr × Nat)} (h : TI w l A c ds) (hn : ∀ x ∈ l, x.1.size ≤ 140737488355328) (hd : ∀ x ∈ l, x.2.1.length ≤ 140737488355328) : ArgF w (footT A ds) A l ds :=
  ⟨h.row.rd.sub fun _ hk => .inl hk, h.dl, fun i x d hx hdd => ⟨(h.own i x d hx hdd).rd.sub fun _ hk => .inr ⟨d, List.mem_of_getElem? hdd, hk⟩, h.lt, (h.own i x d hx hdd).le.1, hd x (List.mem_of_getElem? hx)⟩, h.lt, hn⟩

def TwinF (w : World) (l : List FI) (e : Ending) (w' : World) : Prop := ∃ A c ds, e = .returned (.slice A l.length c) ∧ TI w' l A c ds ∧ Keep No w w' ∧ ∀ k, footT A ds k → New w w' k

set_option maxRecDepth 100000 in
set_option maxHeartbeats 4000000 in
theorem twinF_any {w : World} {S : Nat → Prop} {B : Option Addr} {cb : Nat} {l : List FI} {fa : List (Option Addr × Nat)} (ha : ArgF w S B l fa) (hl : l.length * 48 ≤ 140737488355328) :
    Calls Try.prog 38 #[.slice B l.length cb] w (TwinF w l) := by
  have HAr := Lib.hid ha
  clear ha
  go_enter Try.func38, Try.ntmps38
  go_wp2_with fail
  go_loopw [3, 4] (fun v i wr => ∃ (j : Nat) (A : Option Addr) (c : Nat) (ds : List (Option Addr × Nat)), j ≤ l.length ∧ v = .slice A j c ∧ i = .int .i64 j ∧ Hid (TI wr (l.take j) A c ds ∧ Keep No w wr ∧ (∀ k, footT A ds k → New w wr k))) (fun _ i _ => l.length - (RowKit.intOf i).toNat)
  case atStart => exact ⟨0, none, 0, [], Nat.zero_le _, rfl, rfl, TI.nil _, Keep.refl _ _, (fun k hk => by rcases hk with e | ⟨x, hx, _⟩ <;> simp at *)⟩
  case round =>
    obtain ⟨j, A, c, ds, hj, rfl, rfl, hR⟩ := hrel
    by_cases hlt : j < l.length
    · have hlt' : (j : Int) < l.length := by omega
      obtain ⟨x, hx⟩ : ∃ x, l[j]? = some x := ⟨_, List.getElem?_eq_getElem hlt⟩
      have hArg := HAr.out.keep hR.out.2.1 fun _ _ h => h
      obtain ⟨b, o, d, rfl, hSb, hfd, q0, q1, q2, hdat⟩ := hArg.at hx
      have hmx := hdat.max
      have htk : l.take (j + 1) = l.take j ++ [x] := take_snoc hx
      have hlen0 : (l.take j).length = j := by rw [List.length_take]; omega
      have hrow : Own wr 60 3 A j c (tsVI (l.take j) ds) := by have := hR.out.1.row; rw [hlen0] at this; exact this
      have hblt : b < wr.heap.size := Nat.lt_of_lt_of_le (HAr.out.lt b hSb) hR.out.2.1.size
      have hbA : ¬ bk A = some b := fun e => by
        have h1 := (hR.out.2.2 b (.inl e)).1
        have h2 := HAr.out.lt b hSb
        omega
      have hcells : Hid (∀ W, Keep (fun k => bk A = some k) wr W → (W.cell? ⟨b, o + j * 3, none⟩ = some (.string x.1) ∧ W.cell? ⟨b, o + j * 3 + 1, none⟩ = some (.slice d.1 x.2.1.length d.2) ∧ W.cell? ⟨b, o + j * 3 + 2, none⟩ = some (.int .i64 x.2.2))) := fun W hW =>
        ⟨(hW.cell (a := ⟨b, o + j * 3, none⟩) hblt hbA).trans q0, (hW.cell (a := ⟨b, o + j * 3 + 1, none⟩) hblt hbA).trans q1, (hW.cell (a := ⟨b, o + j * 3 + 2, none⟩) hblt hbA).trans q2⟩
      have Htk := Lib.hid htk
      have Hlen0 := Lib.hid hlen0
      have Hrow := Lib.hid hrow
      have Hdat := Lib.hid hdat
      clear hx htk hfd hlen0 hrow hArg hdat q0 q1 q2 hbA hblt
      go_wp2_with fail
      refine wp_region_T (Keep (fun k => bk A = some k) wr) [(0, true), (1, true), (2, true), (3, true), (4, true), (5, true), (6, true), (7, true), (8, true), (9, true), (10, true), (12, true), (13, true), (14, true), (15, true), (16, true), (11, false), (17, true), (18, false), (19, false), (20, false)] (by kernel_rfl) (by kernel_rfl) (Keep.refl _ _).drew ?_
      iterate 16
        (apply T_read rfl (by rfl)
         (· (intro W hW; have hc := hcells.out W hW; go_simp; try with_reducible rfl))
         (try simp only [Act.put, List.getElem_toArray, List.getElem_cons_succ, List.getElem_cons_zero, List.setIfInBounds_toArray, List.set_cons_zero, List.set_cons_succ]))
      refine T_do rfl (by rfl) (fun K hK => ?_)
      have hsrc := (Hdat.out.keep (Keep.refl No wr).drew fun _ _ h => h).src x.2.1.length (Nat.le_refl _)
      rw [List.take_length] at hsrc
      refine wp_app (.const (.slice none 0 0)) (.tmp 21) 43 43 rfl (Own.nil wr.drew 5 1) Try.underlying43 info5 rfl (by omega) rfl rfl hsrc (by unfold maxLen; omega) (by omega) (fun A1 c1 w3 hO1 hK1 hA1 => ?_)
      rw [Nat.zero_add, List.nil_append] at hO1
      rw [Nat.zero_add]
      have hk3 : Keep No wr w3 := (Keep.refl No wr).drew.trans' (hK1.mono fun k _ e => by simp at e)
      have hn1 : ∀ k, bk A1 = some k → New wr w3 k := fun k hk => by
        rcases hA1 with rfl | ⟨rfl, h2⟩
        · simp at hk
        · simp at hk
          subst hk
          exact ⟨Nat.le_refl _, h2⟩
      refine hK _ _ (fun _ => hk3.mono fun _ _ h => h.elim) ?_
      iterate 1
        (apply T_read rfl (by rfl)
         (· (intro W hW; have hc := hcells.out W hW; go_simp; try with_reducible rfl))
         (try simp only [Act.put, List.getElem_toArray, List.getElem_cons_succ, List.getElem_cons_zero, List.setIfInBounds_toArray, List.set_cons_zero, List.set_cons_succ]))
      refine T_do rfl (by rfl) (fun K hK => ?_)
      go_simp
      have hk3a : Keep No wr (w3.alloc (.cells #[.string x.1, .slice A1 x.2.1.length c1, .int .i64 x.2.2] 60)) := hk3.alloc _
      refine hK _ _ (fun _ => hk3a.mono fun _ _ h => h.elim) ?_
      refine T_do rfl (by rfl) (fun K hK => ?_)
      have hO3 := Hrow.out.keep hk3a fun _ _ h => h
      have hR3 : Rd (w3.alloc (.cells #[.string x.1, .slice A1 x.2.1.length c1, .int .i64 x.2.2] 60)) (fun k => k = w3.heap.size) (some ⟨w3.heap.size, 0, none⟩) [.string x.1, .slice A1 x.2.1.length c1, .int .i64 x.2.2] := fun _ => ⟨w3.heap.size, 0, rfl, rfl, Run.of_blk (alloc_new w3 _)⟩
      refine wp_app (.tmp 11) (.tmp 29) 22 22 rfl hO3 Try.underlying22 info60 rfl (by omega) rfl rfl (src_rd (news := [.string x.1, .slice A1 x.2.1.length c1, .int .i64 x.2.2]) (m := 1) Try.underlying22 hR3 rfl (by omega) (by intro u hu; simp at hu; rcases hu with rfl | rfl | rfl <;> rfl)) (by unfold maxLen; omega) (by omega) (fun A' c' w4 hO4 hK4 hA => ?_)
      have hk4 : Keep (fun k => bk A = some k) wr w4 := (hk3a.mono (G := fun k => bk A = some k) fun _ _ h => h.elim).trans' (hK4.mono fun k _ e => e.symm)
      refine hK _ _ (fun _ => hk4) ?_
      have HRel := TI.more (x := x) hR.out.1 hR.out.2.1 hR.out.2.2 hk3a (hO1.keep ((Keep.refl No w3).alloc _) fun _ _ h => h) (fun k hk => (hn1 k hk).sub (by simp)) (hK4.mono fun k _ e => e.symm) (by rw [Hlen0.out]; exact hO4) (fun k hk => by
        rcases hA with rfl | ⟨rfl, h2⟩
        · exact .inl hk
        · simp only [bk_some, Option.some.injEq] at hk
          subst hk
          exact .inr ⟨Nat.le_refl _, h2⟩)
      rw [← Htk.out] at HRel
      have HRel := Lib.hid HRel
      clear hO1 hK1 hA1 hk3 hn1 hk3a hO3 hR3 hO4 hK4 hA hk4 hsrc
      refine T_do rfl (by rfl) (fun K hK => ?_)
      go_simp
      refine hK _ _ (fun h => absurd rfl h) (T_end ?_)
      go_wp2_with fail
      go_roundw
      case rel => exact ⟨j + 1, A', c', ds ++ [(A1, c1)], by omega, rfl, by go_num, HRel⟩
      case measure => simp [RowKit.intOf]; omega
    · obtain rfl : j = l.length := by omega
      have hall : l.take l.length = l := List.take_length
      have Hall := Lib.hid hall
      clear hall
      go_wp2_with fail
      go_ret
      refine ⟨A, c, ds, rfl, ?_, hR.out.2.1, hR.out.2.2⟩
      have := hR.out.1
      rw [Hall.out] at this
      exact this

end Go.Dx

namespace Go.Dx

theorem Good.mkI {room : Int} {l : List FI} (h : newOk room l) (hr : room < 9223372036854775808) (n : Nat) : Good (St.mkI room l) n := by
  have hsd := insUp_sd l l.length (Nat.le_refl _)
  have hidx := insUp_idx l l.length (Nat.le_refl _)
  have hlen := insUp_length l l.length (Nat.le_refl _)
  have hnames := insUp_names l l.length (Nat.le_refl _)
  rw [List.take_length] at hsd hidx hlen hnames
  have hl := h.2.1
  have hnm : ∀ x ∈ insUp l, right x.1 = true := fun x hx => by
    obtain ⟨y, hy, e⟩ := hnames x hx
    obtain ⟨i, hi⟩ := List.mem_iff_getElem?.1 hy
    rw [← e]
    exact (h.2.2.1 i y hi).1
  refine ⟨⟨hsd, hsd, ?_, ?_, ?_, ?_, trivial, rfl, ?_, ?_, ?_, ?_, ?_, ?_, ?_⟩, ⟨hnm, hnm, fun c hc => by cases hc⟩, Nat.zero_le _⟩
  · intro x hx
    simp only [St.mkI, List.length_map]
    exact hidx x hx
  · intro x hx
    simp only [St.mkI, List.length_map]
    exact hidx x hx
  · intro a i hm; cases hm
  · intro f hf
    simp only [St.mkI] at hf
    obtain ⟨x, hx, rfl⟩ := List.mem_map.1 hf
    obtain ⟨i, hi⟩ := List.mem_iff_getElem?.1 hx
    have := (h.2.2.1 i x hi).2.2
    simp only [fvOf, toN]
    omega
  · simp only [St.mkI]; omega
  · intro k
    simp only [St.mkI, List.take_nil, lays, List.foldl_nil]
    omega
  · simp only [St.mkI]; omega
  all_goals (simp only [St.mkI]; omega)
theorem mkI_files (room : Int) (l : List FI) : (St.mkI room l).files.length = l.length := by simp [St.mkI]

/-! ### two disks -/
/-- The program's disk and the document's: alike, but for the rigs that the one takes while it is down. -/
structure Sim (s t : St) : Prop where
  down : t.down = s.down
  room : t.room = s.room
  files : t.files = s.files
  now : t.now = s.now
  sure : t.sure = s.sure
  changes : t.changes = s.changes
  up : s.down = false → t = s
theorem Sim.refl (s : St) : Sim s s := ⟨rfl, rfl, rfl, rfl, rfl, rfl, fun _ => rfl⟩

section
variable {s t : St}
theorem Sim.filesOf (h : Sim s t) : t.filesOf = s.filesOf := by
  unfold St.filesOf St.told
  rw [h.now]
  have h1 : t.dataAt = s.dataAt := by funext i; unfold St.dataAt; rw [h.files]
  have h2 : t.sureAt = s.sureAt := by funext i; unfold St.sureAt; rw [h.files]
  rw [h1, h2]
theorem Sim.image (h : Sim s t) (dir : Int) (ks : List Int) : t.image dir ks = s.image dir ks := by
  unfold St.image St.told St.rest
  have h1 : t.dataAt = s.dataAt := by funext i; unfold St.dataAt; rw [h.files]
  have h2 : t.sureAt = s.sureAt := by funext i; unfold St.sureAt; rw [h.files]
  rw [h1, h2, h.sure, h.changes]
theorem Sim.fall (h : Sim s t) (dir : Int) (ks : List Int) : Sim (s.fall dir ks) (t.fall dir ks) := by
  have : t.fall dir ks = s.fall dir ks := by
    unfold St.fall
    rw [h.image, h.room]
  rw [this]
  exact Sim.refl _
theorem Sim.read (h : Sim s t) (n : Nm) : t.read n = s.read n := by
  unfold St.read
  have h1 : t.dataAt = s.dataAt := by funext i; unfold St.dataAt; rw [h.files]
  rw [h.down, h.now, h1]
theorem Sim.arm (h : Sim s t) (a : Int) : Sim (s.arm a) (t.armR a) := by
  unfold St.armR
  cases hd : s.down with
  | true =>
    rw [h.down, hd, if_pos rfl]
    exact ⟨h.down, h.room, h.files, h.now, h.sure, h.changes, fun e => by rw [show (s.arm a).down = s.down from rfl, hd] at e; cases e⟩
  | false =>
    rw [h.down, hd, if_neg (by simp), h.up hd]
    exact Sim.refl _
theorem Sim.fail (h : Sim s t) (a b c : Int) : Sim (s.fail a b c) (t.failR a b c) := by
  unfold St.failR
  cases hd : s.down with
  | true =>
    rw [h.down, hd, if_pos rfl]
    exact ⟨h.down, h.room, h.files, h.now, h.sure, h.changes, fun e => by rw [show (s.fail a b c).down = s.down from rfl, hd] at e; cases e⟩
  | false =>
    rw [h.down, hd, if_neg (by simp), h.up hd]
    exact Sim.refl _
/-- A call that answers 30, and does nothing, while the machine is down. -/
theorem Sim.call {f : St → Int × St} (hf : ∀ s, s.down = true → f s = (30, s)) (h : Sim s t) : (f t).1 = (f s).1 ∧ Sim (f s).2 (f t).2 := by
  cases hd : s.down with
  | true =>
    rw [hf s hd, hf t (by rw [h.down, hd])]
    exact ⟨rfl, h⟩
  | false =>
    rw [h.up hd]
    exact ⟨rfl, Sim.refl _⟩
theorem bgn_dn' {s : St} (h : s.down = true) (ok : Bool) : s.bgn ok = (30, s) := by simp [St.bgn, h]
theorem Sim.create (h : Sim s t) (n : Nm) : (t.create n).1 = (s.create n).1 ∧ Sim (s.create n).2 (t.create n).2 := Sim.call (f := fun s => s.create n) (fun s hd => by simp [St.create, bgn_dn' hd]) h
theorem Sim.append (h : Sim s t) (n : Nm) (b : List UInt8) : (t.append n b).1 = (s.append n b).1 ∧ Sim (s.append n b).2 (t.append n b).2 := Sim.call (f := fun s => s.append n b) (fun s hd => by simp [St.append, bgn_dn' hd]) h
theorem Sim.sync (h : Sim s t) (n : Nm) : (t.sync n).1 = (s.sync n).1 ∧ Sim (s.sync n).2 (t.sync n).2 := Sim.call (f := fun s => s.sync n) (fun s hd => by simp [St.sync, bgn_dn' hd]) h
theorem Sim.rename (h : Sim s t) (a b : Nm) : (t.rename a b).1 = (s.rename a b).1 ∧ Sim (s.rename a b).2 (t.rename a b).2 := Sim.call (f := fun s => s.rename a b) (fun s hd => by simp [St.rename, bgn_dn' hd]) h
theorem Sim.delete (h : Sim s t) (n : Nm) : (t.delete n).1 = (s.delete n).1 ∧ Sim (s.delete n).2 (t.delete n).2 := Sim.call (f := fun s => s.delete n) (fun s hd => by simp [St.delete, bgn_dn' hd]) h
theorem Sim.syncDir (h : Sim s t) : t.syncDir.1 = s.syncDir.1 ∧ Sim s.syncDir.2 t.syncDir.2 := Sim.call (f := fun s => s.syncDir) (fun s hd => by simp [St.syncDir, bgn_dn' hd]) h
theorem Good.armR {n : Nat} (h : Good s n) (a : Int) (ha : a < 9223372036854775808) : Good (s.armR a) n := by
  unfold St.armR
  split
  · exact h
  · exact h.arm a ha
theorem Good.failR {n : Nat} (h : Good s n) (a b c : Int) (ha : a < 9223372036854775808) (hb : b < 9223372036854775808) (hc : c < 9223372036854775808) : Good (s.failR a b c) n := by
  unfold St.failR
  split
  · exact h
  · exact h.fail a b c ha hb hc
end

/-! ### how many files there ever were -/
section
variable (s : St)
theorem fls_fl (c : Nat) : (s.fls c).2.2.files = s.files := (fls_files s c).1
theorem bgn_fl (ok : Bool) : (s.bgn ok).2.files = s.files := (bgn_files s ok).1
theorem create_fl (n : Nm) : (s.create n).2.files.length ≤ s.files.length + 1 := by
  unfold St.create
  simp only []
  have hb := bgn_fl s (right n)
  generalize s.bgn (right n) = r at *
  have hq := fls_fl r.2 1
  generalize r.2.fls 1 = q at *
  repeat' split
  all_goals simp only [List.length_append, List.length_cons, List.length_nil, hb, hq]
  all_goals omega
theorem append_fl (n : Nm) (b : List UInt8) : (s.append n b).2.files.length = s.files.length := by
  unfold St.append
  simp only []
  have hb := bgn_fl s (right n)
  generalize s.bgn (right n) = r at *
  have hq := fls_fl r.2 (1 + b.length)
  generalize r.2.fls (1 + b.length) = q at *
  repeat' split
  all_goals simp only [St.app, List.length_modify, hb, hq]
theorem sync_fl (n : Nm) : (s.sync n).2.files.length = s.files.length := by
  unfold St.sync
  simp only []
  have hb := bgn_fl s (right n)
  generalize s.bgn (right n) = r at *
  have hq := fls_fl r.2 1
  generalize r.2.fls 1 = q at *
  repeat' split
  all_goals simp only [List.length_modify, hb, hq]
theorem rename_fl (a b : Nm) : (s.rename a b).2.files.length = s.files.length := by
  unfold St.rename
  simp only []
  have hb := bgn_fl s (right a && right b)
  generalize s.bgn (right a && right b) = r at *
  have hq := fls_fl r.2 1
  generalize r.2.fls 1 = q at *
  repeat' split
  all_goals simp only [hb, hq]
theorem delete_fl (n : Nm) : (s.delete n).2.files.length = s.files.length := by
  unfold St.delete
  simp only []
  have hb := bgn_fl s (right n)
  generalize s.bgn (right n) = r at *
  have hq := fls_fl r.2 1
  generalize r.2.fls 1 = q at *
  repeat' split
  all_goals simp only [hb, hq]
theorem syncDir_fl : s.syncDir.2.files.length = s.files.length := by
  unfold St.syncDir
  simp only []
  have hb := bgn_fl s true
  generalize s.bgn true = r at *
  have hq := fls_fl r.2 1
  generalize r.2.fls 1 = q at *
  repeat' split
  all_goals simp only [hb, hq]
theorem armR_fl (a : Int) : (s.armR a).files.length = s.files.length := by
  unfold St.armR
  split <;> rfl
theorem failR_fl (a b c : Int) : (s.failR a b c).files.length = s.files.length := by
  unfold St.failR
  split <;> rfl
end
theorem fall_fl {s : St} (h : Wf s) (dir : Int) (ks : List Int) : (s.fall dir ks).files.length ≤ 8388608 := by
  simp only [St.fall, List.length_map]
  rw [image_len]
  exact rest_len h dir

end Go.Dx

namespace Go.Dx

def k0 : St := St.mkI 0 []
def k1 : St := (k0.create ⟨#[97]⟩).2
def k2 : St := (k1.append ⟨#[97]⟩ [120, 121, 122]).2
def k3 : St := (k2.sync ⟨#[97]⟩).2
def k4 : St := (k3.append ⟨#[97]⟩ [117, 118]).2
def k5 : St := k0.fail 1 2 2
def k6 : St := (k5.create ⟨#[120]⟩).2
def k7 : St := (k6.append ⟨#[120]⟩ [49, 50, 51, 52, 53]).2
def k8 : St := (k7.delete ⟨#[121]⟩).2
def k9 : St := (k8.delete ⟨#[121]⟩).2
theorem kc1 : (k0.create ⟨#[97]⟩).1 = 0 := by decide +kernel
theorem kc2 : (k1.append ⟨#[97]⟩ [120, 121, 122]).1 = 0 := by decide +kernel
theorem kc3 : (k2.sync ⟨#[97]⟩).1 = 0 := by decide +kernel
theorem kc4 : (k3.append ⟨#[97]⟩ [117, 118]).1 = 0 := by decide +kernel
theorem kf4 : k4.filesOf = [(⟨#[97]⟩, [120, 121, 122, 117, 118], 3)] := by decide +kernel
theorem ki0 : k4.image 0 [] = [] := by decide +kernel
theorem ki1 : k4.image 1 [1] = [(⟨#[97]⟩, [120, 121, 122, 117], 4)] := by decide +kernel
theorem kc6 : (k5.create ⟨#[120]⟩).1 = 0 := by decide +kernel
theorem kc7 : (k6.append ⟨#[120]⟩ [49, 50, 51, 52, 53]).1 = 31 := by decide +kernel
theorem kc8 : (k7.delete ⟨#[121]⟩).1 = 31 := by decide +kernel
theorem kc9 : (k8.delete ⟨#[121]⟩).1 = 34 := by decide +kernel
theorem kr9 : k9.read ⟨#[120]⟩ = ([49, 50], 0) := by decide +kernel
theorem knew : newOk 0 ([] : List FI) := ⟨by omega, by simp, fun j x h => by simp at h, .inl rfl⟩
theorem kg0 (n : Nat) : Good k0 n := Good.mkI knew (by omega) n
theorem kg1 : Good k1 1 := (kg0 0).create _
theorem kg2 : Good k2 1 := kg1.append _ _
theorem kg3 : Good k3 1 := kg2.sync _
theorem kg4 : Good k4 1 := kg3.append _ _
theorem kg5 : Good k5 0 := (kg0 0).fail _ _ _ (by omega) (by omega) (by omega)
theorem kg6 : Good k6 1 := kg5.create _
theorem kg7 : Good k7 1 := kg6.append _ _
theorem kg8 : Good k8 2 := kg7.delete _
theorem kg9 : Good k9 3 := kg8.delete _
end Go.Dx
