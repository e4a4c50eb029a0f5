/- A loop over a map: the step, wherever its iterator lies; sums over what it has handed out. No condition. The program's disk: full: how many bytes all files that have a name hold. No condition. The program's disk: Append. No condition. The program's disk: Append, the walk. No condition. -/
import Derived.Test.YtlkgkckejfkblaaGa
import Derived.Maps.RangeRun
import Derived.Test.YtlkgkckejfkblaaGb
namespace Go.Dx
open Go.RowKit
variable {P : Program}

theorem next_at {w : World} (ty : TypeId) {r bm ck : Nat} {seen : Array Nat} {es : Array MapEntry} (hr : w.heap[r]? = some (.mapIter (some bm) ck seen ck)) (hb : w.heap[bm]? = some (.map es ck)) (hold : ∀ x ∈ es.toList, x.born < ck) :
    ((leftOf es seen).size = 0 ∧ (Instr.next (.pointer (some ⟨r, 0, none⟩)) false ty).run P w = .ok (.tuple #[.bool false]) w) ∨
    ∃ e ∈ (leftOf es seen).toList, ∃ w' : World, Keep (fun k => k = r) w w' ∧ w'.heap.size = w.heap.size ∧ w'.heap[r]? = some (.mapIter (some bm) ck (seen.push e.born) ck) ∧ (Instr.next (.pointer (some ⟨r, 0, none⟩)) false ty).run P w = .ok (.tuple #[.bool true, e.key, e.val]) w' := by
  rcases run_next_at w ty r bm ck ck seen es ck hr hb hold (Nat.le_refl _) with h | ⟨e, he, w1, h1, h2⟩
  · exact .inl h
  · have hlt := lt_blk hr
    have hh : w1.heap = w.heap := by rcases h1 with rfl | rfl <;> rfl
    refine .inr ⟨e, he, _, ?_, ?_, ?_, h2⟩
    · refine ⟨?_, ?_, ?_, ?_, ?_⟩
      · rcases h1 with rfl | rfl <;> rfl
      · rcases h1 with rfl | rfl <;> rfl
      · rcases h1 with rfl | rfl <;> rfl
      · simp [ChangeMaps.setBlock, hh]
      · intro k hk hne
        simp only [ChangeMaps.setBlock, hh]
        rw [Array.getElem?_setIfInBounds_ne (Ne.symm hne)]
    · simp [ChangeMaps.setBlock, hh]
    · simp [ChangeMaps.setBlock, hh, hlt]

/-- The numbers g of the entries that have been handed out, added up. -/
def seenG (g : MapEntry → Nat) : List MapEntry → Array Nat → Nat
  | [], _ => 0
  | x :: l, seen => (if seen.contains x.born then g x else 0) + seenG g l seen
theorem seenG_none (g : MapEntry → Nat) : ∀ es : List MapEntry, seenG g es #[] = 0
  | [] => rfl
  | x :: l => by
    have : (#[] : Array Nat).contains x.born = false := by simp
    simp only [seenG, this, Bool.false_eq_true, if_false, seenG_none g l]
theorem seenG_other (g : MapEntry → Nat) (seen : Array Nat) (b : Nat) : ∀ es : List MapEntry, b ∉ es.map (·.born) → seenG g es (seen.push b) = seenG g es seen
  | [], _ => rfl
  | x :: l, h => by
    have hx : (x.born == b) = false := by
      cases hc : x.born == b with
      | false => rfl
      | true => exact absurd (List.mem_cons.2 (Or.inl (beq_iff_eq.1 hc).symm)) h
    have ih := seenG_other g seen b l fun e => h (List.mem_cons.2 (Or.inr e))
    simp only [seenG, contains_push, hx, Bool.or_false, ih]
theorem seenG_push (g : MapEntry → Nat) (seen : Array Nat) (e : MapEntry) (hs : seen.contains e.born = false) : ∀ es : List MapEntry, (es.map (·.born)).Nodup → e ∈ es → seenG g es (seen.push e.born) = seenG g es seen + g e
  | x :: l, hn, he => by
    have hn' : x.born ∉ l.map (·.born) ∧ (l.map (·.born)).Nodup := List.nodup_cons.1 hn
    rcases List.mem_cons.1 he with rfl | h
    · simp only [seenG, contains_push, hs, beq_self_eq_true, Bool.or_true, if_true, Bool.false_eq_true, if_false, seenG_other g seen e.born l hn'.1]
      omega
    · have hx : (x.born == e.born) = false := by
        cases hc : x.born == e.born with
        | false => rfl
        | true => exact absurd (by rw [beq_iff_eq.1 hc]; exact List.mem_map.2 ⟨e, h, rfl⟩) hn'.1
      simp only [seenG, contains_push, hx, Bool.or_false, seenG_push g seen e hs l hn'.2 h]
      omega
theorem seenG_full (g : MapEntry → Nat) (seen : Array Nat) : ∀ es : List MapEntry, (∀ x ∈ es, seen.contains x.born = true) → seenG g es seen = (es.map g).sum
  | [], _ => rfl
  | x :: l, h => by
    simp only [seenG, h x (List.mem_cons.2 (Or.inl rfl)), if_true, List.map_cons, List.sum_cons, seenG_full g seen l fun y hy => h y (List.mem_cons.2 (Or.inr hy))]
theorem seenG_all (g : MapEntry → Nat) (es : Array MapEntry) (seen : Array Nat) (h : (leftOf es seen).size = 0) : seenG g es.toList seen = (es.toList.map g).sum := seenG_full g seen _ (all_seen es seen h)
theorem seenG_le (g : MapEntry → Nat) (seen : Array Nat) : ∀ es : List MapEntry, seenG g es seen ≤ (es.map g).sum
  | [] => Nat.le_refl _
  | x :: l => by
    have := seenG_le g seen l
    simp only [seenG, List.map_cons, List.sum_cons]
    split <;> omega
theorem sum_le {α : Type} (g : α → Nat) (b : Nat) : ∀ l : List α, (∀ x ∈ l, g x ≤ b) → (l.map g).sum ≤ l.length * b
  | [], _ => by simp
  | x :: l, h => by
    have := sum_le g b l fun y hy => h y (List.mem_cons_of_mem _ hy)
    have h2 := h x List.mem_cons_self
    simp only [List.map_cons, List.sum_cons, List.length_cons, Nat.add_mul]
    omega

end Go.Dx

namespace Go.Dx
open Go.RowKit Go.Proofs

def nameLen (s : St) (n : Nm) : Nat := s.lenAt ((get s.now n).getD 0)
theorem total_names {s : St} (h : Sd s.now) : s.total = (s.now.map fun x => nameLen s x.1).sum := by
  unfold St.total
  congr 1
  apply List.map_congr_left
  intro x hx
  unfold nameLen
  rw [h.getMem (n := x.1) (i := x.2) hx]; rfl
theorem lenAt_le {s : St} (h : Wf s) (i : Nat) : s.lenAt i ≤ 2147483648 := by
  unfold St.lenAt
  split
  · exact (h.fsure _ (List.mem_of_getElem? ‹_›)).2
  · omega
theorem total_le {s : St} (h : Wf s) : s.total ≤ 18014398509481984 := by
  have := sum_le (fun x : Nm × Nat => s.lenAt x.2) 2147483648 s.now fun x _ => lenAt_le h x.2
  have h2 := h.nlen
  unfold St.total
  have h3 : s.now.length * 2147483648 ≤ 8388608 * 2147483648 := Nat.mul_le_mul_right _ h2
  omega
theorem ents_total {s : St} (h : Sd s.now) {fb : List Nat} {es : Array MapEntry} {ck : Nat} (E : Ents es ck (dirV fb s.now)) : (es.toList.map fun x => nameLen s (keyS x)).sum = s.total := by
  rw [total_names h]
  have hp : (es.toList.map keyS).Perm (s.now.map (·.1)) := by
    have := E.perm.map (·.1)
    simp only [List.map_map] at this
    refine this.trans (List.Perm.of_eq ?_)
    unfold dirV
    rw [List.map_map]; rfl
  have := (hp.map (nameLen s)).sum_nat
  simp only [List.map_map] at this
  exact this

set_option maxRecDepth 100000 in
set_option maxHeartbeats 2000000 in
theorem full_any {w : World} {D : Nat} {s : St} {L : PL} (h : PDL w D s L) (hw : Wf s) {i : Nat} (hi : i < s.files.length) (n : Nat) (hn : n ≤ 140737488355328) :
    Calls Try.prog 49 #[.pointer (some ⟨D, 0, none⟩), ptrV L.fb i, .int .i64 n] w fun e w' => e = .returned (.bool (s.full i n)) ∧ Keep No w w' := by
  obtain ⟨f, b, d, hf, hb, hdd, hp, hblk, hown⟩ := h.at hi
  have c0 : w.cell? ⟨b, 0, none⟩ = some (.slice d.1 f.data.length d.2) := (cell_blk hblk 0).trans rfl
  have cr : w.cell? ⟨D, 0, none⟩ = some (.int .i64 s.room) := h.cell 0 rfl
  have hl : s.lenAt i = f.data.length := by simp [St.lenAt, hf]
  have hlen := (hw.fsure f (List.mem_of_getElem? hf)).2
  rw [hp]
  have H := Lib.hid h
  have Hw := Lib.hid hw
  clear h hw hf hb hdd hp hblk hown
  by_cases h1 : 2147483648 < f.data.length + n
  · have hfin : Hid (s.full i n = true) := by unfold Hid St.full; rw [hl]; simp [h1]
    have t1 : decide ((2147483648 : Int) < (f.data.length : Int) + (n : Int)) = true := decide_eq_true (by omega)
    clear hl
    go_enter Try.func49, Try.ntmps49
    go_wp2_with fail
    go_ret
    rw [hfin.out]
    exact ⟨rfl, Keep.refl _ _⟩
  · have t1 : decide ((2147483648 : Int) < (f.data.length : Int) + (n : Int)) = false := decide_eq_false (by omega)
    by_cases h2 : s.room = 0
    · have hfin : Hid (s.full i n = false) := by unfold Hid St.full; rw [hl]; simp [h1, h2]
      have t2 : ((s.room : Int) == 0) = true := by simp [h2]
      clear hl h2
      go_enter Try.func49, Try.ntmps49
      go_wp2_with fail
      go_ret
      rw [hfin.out]
      exact ⟨rfl, Keep.refl _ _⟩
    · have hfin : Hid (s.full i n = decide (s.room < s.total + n)) := by unfold Hid St.full; rw [hl]; simp [h1, h2]
      have t2 : ((s.room : Int) == 0) = false := by simp [h2]
      have c1 : w.cell? ⟨D, 1, none⟩ = some (.map (some L.m1)) := H.out.cell 1 rfl
      obtain ⟨es, ck, hm, E⟩ := H.out.now
      have hrg := run_range_map (P := Try.prog) w 75 9 92 L.m1 es ck Try.underlying75 hm
      have hsum := ents_total Hw.out.sdN E
      have htot := total_le Hw.out
      have E := Lib.hid E
      have hsum := Lib.hid hsum
      clear hl h2
      go_enter Try.func49, Try.ntmps49
      go_wp2_with fail
      go_loopw [2] (fun v w' => ∃ seen : Array Nat, w'.heap[w.heap.size]? = some (.mapIter (some L.m1) ck seen ck) ∧ Keep (fun k => k = w.heap.size) (w.alloc (.mapIter (some L.m1) ck #[] ck)) w' ∧ v = .int .i64 ((n + seenG (fun x => nameLen s (keyS x)) es.toList seen : Nat) : Int)) (fun _ w' => (leftOf es (w'.iterSeen w.heap.size)).size)
      case atStart => exact ⟨#[], alloc_new _ _, Keep.refl _ _, by rw [seenG_none]; rfl⟩
      case round =>
        obtain ⟨seen, hit, hk1, rfl⟩ := hrel
        have hb1 : wr.heap[L.m1]? = some (.map es ck) := by
          rw [hk1.block L.m1 (by rw [World.size_alloc]; have := lt_blk hm; omega) (Nat.ne_of_lt (lt_blk hm)), alloc_old _ _ (lt_blk hm)]; exact hm
        have hk0 : Keep No w wr := ((Keep.refl No w).alloc (.mapIter (some L.m1) ck #[] ck)).trans hk1 fun i hi e => by omega
        have h1 := H.out.keepNo hk0
        have cr1 : wr.cell? ⟨D, 0, none⟩ = some (.int .i64 s.room) := h1.cell 0 rfl
        rcases next_at (P := Try.prog) 0 hit hb1 E.out.old with ⟨h0, hrun⟩ | ⟨e, he, w2, hk2, hz2, hit2, hrun⟩
        · have hnx : ∀ ty, (Instr.next (.pointer (some ⟨w.heap.size, 0, none⟩)) false ty).run Try.prog wr = _ := fun _ => hrun
          have hall : Hid (seenG (fun x => nameLen s (keyS x)) es.toList seen = s.total) := (seenG_all _ es seen h0).trans hsum.out
          have Hk0 := Lib.hid hk0
          clear hrun h0 hit hk1 hb1 h1 hk0
          go_wp2_with fail
          go_ret
          rw [hfin.out, hall.out]
          refine ⟨ret_bool ?_, Hk0.out⟩
          rw [decide_eq_decide]; omega
        · have hnx : ∀ ty, (Instr.next (.pointer (some ⟨w.heap.size, 0, none⟩)) false ty).run Try.prog wr = _ := fun _ => hrun
          have hm2 : w2.heap[L.m1]? = some (.map es ck) := by rw [hk2.block _ (lt_blk hb1) (Nat.ne_of_lt (lt_blk hm))]; exact hb1
          have hen := run_entry_at (P := Try.prog) w2 w.heap.size L.m1 ck seen es ck e hit2 hm2 (mem_left he).1 E.out.born
          have hk02 : Keep No w w2 := hk0.trans hk2 fun i hi e => by omega
          have h2 := H.out.keepNo hk02
          obtain ⟨j, hj1, hj2⟩ : ∃ j, (keyS e, j) ∈ s.now ∧ e.val = ptrV L.fb j := by
            have := E.out.perm.mem_iff.1 (List.mem_map.2 ⟨e, (mem_left he).1, rfl⟩)
            unfold dirV at this
            obtain ⟨x, hx, hx2⟩ := List.mem_map.1 this
            unfold kvOf at hx2
            injection hx2 with e1 e2
            exact ⟨x.2, by rw [← e1]; exact hx, e2.symm⟩
          obtain ⟨g, b2, d2, hf2, hb2, hdd2, hp2, hblk2, hown2⟩ := h2.at (Hw.out.idxN _ hj1)
          have c2 : w2.cell? ⟨b2, 0, none⟩ = some (.slice d2.1 g.data.length d2.2) := (cell_blk hblk2 0).trans rfl
          have hlen2 : Hid (nameLen s (keyS e) = g.data.length) := by
            unfold Hid nameLen
            rw [Hw.out.sdN.getMem hj1]
            simp [St.lenAt, hf2]
          have hkey := E.out.str e (mem_left he).1
          rw [hkey, hj2, hp2] at hnx hen
          have hle := seenG_le (fun x => nameLen s (keyS x)) (seen.push e.born) es.toList
          have hpush := seenG_push (fun x => nameLen s (keyS x)) seen e (mem_left he).2 es.toList E.out.born (mem_left he).1
          rw [hsum.out, hpush] at hle
          simp only [hlen2.out] at hle
          have hpush := Lib.hid hpush
          have Hk1 := Lib.hid hk1
          have Hk2 := Lib.hid hk2
          have Hit := Lib.hid hit
          have Hit2 := Lib.hid hit2
          clear hrun hit hk1 hb1 h1 hk0 hm2 hk02 h2 hj1 hj2 hf2 hb2 hdd2 hp2 hblk2 hown2 hkey hk2 hit2
          generalize hG : seenG (fun x => nameLen s (keyS x)) es.toList seen = G at *
          have hG := Lib.hid hG
          go_wp2_with fail
          go_roundw
          case rel =>
            refine ⟨seen.push e.born, Hit2.out, Hk1.out.trans' Hk2.out, ?_⟩
            rw [hpush.out]
            simp only [hlen2.out]
            go_num
          case measure =>
            unfold World.iterSeen
            rw [Hit.out, Hit2.out]
            exact left_shrinks es seen e he

end Go.Dx

namespace Go.Dx
open Go.RowKit Go.Proofs

theorem addr_add0 (a : Addr) : a.add 0 = a := by
  unfold Addr.add
  split <;> simp_all
theorem sliced_to (A : Option Addr) (c k : Nat) : sliced A 0 (k : Int).toNat c 1 = .slice A k c := by
  unfold sliced
  rw [Int.toNat_natCast, Nat.zero_mul, Nat.sub_zero, Nat.sub_zero]
  congr 1
  split
  · rfl
  · cases A
    · rfl
    · simp [addr_add0]
theorem run_to (w : World) (A : Option Addr) (n c k : Nat) (h : k ≤ c) : (Instr.slice 43 (.slice A n c) none (some (.int .i64 k)) none).run Try.prog w = .ok (.slice A k c) w := by
  have he : Try.prog.elem 43 = 5 := by kernel_rfl
  have hs : ∀ W, (sizeOf 5).run Try.prog W = .ok 1 W := fun W => by kernel_rfl
  rw [run_slice_h w 43 A n c (by rw [he]; exact Try.underlying43) .i64 k (by omega) (by omega), he, hs]
  simp only [Result.andThen]
  rw [sliced_to]

section
variable {w w' : World} {D : Nat} {s : St} {L : PL}
theorem PDL.appFile (h : PDL w D s L) {i : Nat} {f : FV} {b : Nat} {d : Option Addr × Nat} (hf : s.files[i]? = some f) (hb : L.fb[i]? = some b) (hd : L.fd[i]? = some d) (hblk : w.heap[b]? = some (.cells (fileC f d) 100 (0, 0)))
    {A' : Option Addr} {c' : Nat} {bs : List UInt8} {w3 : World} (hK : Keep (fun k => bk d.1 = some k) w w3) (hO : Own w3 5 1 A' (f.data.length + bs.length) c' (BV (f.data ++ bs)))
    (hA : ∀ k, bk A' = some k → bk d.1 = some k ∨ New w w3 k) :
    Did w D L (s.app i bs) (w3.setCell ⟨b, 0, none⟩ (.slice A' (f.data ++ bs).length c')) := by
  have hne : bk d.1 ≠ some b := by
    obtain ⟨f2, b2, d2, h1, h2, h3, _, _, h6⟩ := h.at (List.getElem?_eq_some_iff.1 hf).1
    rw [hd] at h3; cases h3
    exact h6.ne_blk hblk (by decide)
  have hb3 : w3.heap[b]? = some (.cells (fileC f d) 100 (0, 0)) := (hK.block b (lt_blk hblk) hne).trans hblk
  have hlt : b < w3.heap.size := lt_blk hb3
  have k4 := (Keep.refl (fun k => k = b) w3).setAt rfl 0 (.slice A' (f.data ++ bs).length c')
  have kall : Keep (fun k => k = b ∨ bk d.1 = some k) w (w3.setCell ⟨b, 0, none⟩ (.slice A' (f.data ++ bs).length c')) := (hK.mono fun _ _ e => .inr e).trans' (k4.mono fun _ _ e => .inl e)
  have hneA : bk A' ≠ some b := by
    intro e
    rcases hA b e with e | e
    · exact hne e
    · exact absurd e.1 (Nat.not_le.2 (lt_blk hblk))
  refine ⟨{ L with fd := L.fd.set i (A', c') }, ?_, ?_, ?_⟩
  · have := h.updFile (f' := ⟨f.data ++ bs, f.sure⟩) (d' := (A', c')) hf hb hd kall ?_ ?_ fun k hk => ?_
    · unfold St.app
      rw [modify_eq_set _ _ _ f hf]
      exact this
    · exact set_blk hb3 0 _
    · rw [show (FV.mk (f.data ++ bs) f.sure).data.length = f.data.length + bs.length by simp]
      exact hO.same (S := fun k => k ≠ b) (fun k hk => set_far hk _) fun k hk e => hneA (by rw [← e]; exact hk)
    · rcases hA k hk with e | e
      · exact .inl e
      · exact .inr e.1
  · refine kall.mono fun k _ e => ?_
    rcases e with rfl | e
    · exact .inr (.inr (.inr (.inr (.inl (List.mem_of_getElem? hb)))))
    · exact .inr (.inr (.inr (.inr (.inr ⟨d, List.mem_of_getElem? hd, e⟩))))
  · rintro k (e | e | e | e | e)
    · exact .inl (.inl e)
    · exact .inl (.inr (.inl e))
    · exact .inl (.inr (.inr (.inl e)))
    · exact .inl (.inr (.inr (.inr (.inl e))))
    · rcases e with e | ⟨x, hx, e⟩
      · exact .inl (.inr (.inr (.inr (.inr (.inl e)))))
      · obtain ⟨j, hj⟩ := List.mem_iff_getElem?.1 hx
        rw [List.getElem?_set] at hj
        split at hj
        · split at hj
          · cases hj
            rcases hA k e with e | e
            · exact .inl (.inr (.inr (.inr (.inr (.inr ⟨d, List.mem_of_getElem? hd, e⟩)))))
            · right
              have := k4.size
              exact ⟨e.1, Nat.lt_of_lt_of_le e.2 this⟩
          · cases hj
        · exact .inl (.inr (.inr (.inr (.inr (.inr ⟨x, List.mem_of_getElem? hj, e⟩)))))
theorem Did.after {w0 : World} {s' : St} (hk : Keep (fun k => k = D) w0 w) (h : Did w D L s' w') : Did w0 D L s' w' := by
  obtain ⟨L', h1, h2, h3⟩ := h
  refine ⟨L', h1, (hk.mono fun _ _ e => .inl e).trans' h2, fun k hk' => ?_⟩
  rcases h3 k hk' with e | e
  · exact .inl e
  · exact .inr ⟨Nat.le_trans hk.size e.1, e.2⟩
end

end Go.Dx

namespace Go.Dx
open Go.RowKit Go.Proofs

/-- Bytes that are handed in: a slice that is read, its cells in S. -/
structure ArgB (w : World) (S : Nat → Prop) (A : Option Addr) (c : Nat) (bs : List UInt8) : Prop where
  rd : Rd w S A (BV bs)
  lt : ∀ k, S k → k < w.heap.size
  cap : bs.length ≤ c
  max : bs.length ≤ 140737488355328
theorem ArgB.keep {w w' : World} {S F : Nat → Prop} {A : Option Addr} {c : Nat} {bs : List UInt8} (h : ArgB w S A c bs) (hk : Keep F w w') (hF : ∀ k, S k → ¬ F k) : ArgB w' S A c bs :=
  ⟨h.rd.same (T := S) (fun k hk' => hk.block k (h.lt k hk') (hF k hk')) fun _ h => h, fun k hk' => Nat.lt_of_lt_of_le (h.lt k hk') hk.size, h.cap, h.max⟩
theorem ArgB.src {w : World} {S : Nat → Prop} {A : Option Addr} {c : Nat} {bs : List UInt8} (h : ArgB w S A c bs) (m : Nat) (hm : m ≤ bs.length) : Src Try.prog 1 43 (.slice A m c) m (BV (bs.take m)) w := by
  refine src_rd Try.underlying43 (S := S) ?_ (by rw [BV_length, List.length_take]; omega) (by omega) (BV_one _)
  intro hx
  obtain ⟨b, o, e, hb, hr⟩ := h.rd (by rw [BV_length] at *; rw [List.length_take] at hx; omega)
  refine ⟨b, o, e, hb, ?_⟩
  rw [← BV_take]
  exact hr.take m

theorem PDL.appTake {w w2 : World} {D : Nat} {s : St} {L : PL} (h : PDL w D s L) {i : Nat} {f : FV} {b : Nat} {d : Option Addr × Nat} (hf : s.files[i]? = some f) (hb : L.fb[i]? = some b) (hd : L.fd[i]? = some d) (hblk : w.heap[b]? = some (.cells (fileC f d) 100 (0, 0)))
    {A' : Option Addr} {c' : Nat} {bs : List UInt8} {w3 : World} {m : Nat} (hm : m ≤ bs.length) (k2 : Keep No w w2) (hK : Keep (fun k => bk d.1 = some k) w2 w3) (hO : Own w3 5 1 A' (f.data.length + m) c' (BV f.data ++ BV (bs.take m)))
    (hA : A' = d.1 ∨ (A' = some ⟨w2.heap.size, 0, none⟩ ∧ w2.heap.size < w3.heap.size)) :
    Did w D L (s.app i (bs.take m)) (w3.setCell ⟨b, 0, none⟩ (.slice A' (f.data.length + m) c')) := by
  have hl : (bs.take m).length = m := List.length_take_of_le hm
  have := h.appFile hf hb hd hblk (A' := A') (c' := c') (bs := bs.take m) (w3 := w3) ((k2.mono fun _ _ h => h.elim).trans' hK) (by rw [hl, ← BV_append]; exact hO) (fun k hk => by
    rcases hA with rfl | ⟨rfl, hlt⟩
    · exact .inl hk
    · right
      simp at hk hlt
      have h2 := k2.size
      subst hk
      exact ⟨by omega, by omega⟩)
  rw [List.length_append, hl] at this
  exact this
theorem full_le {s : St} {i n : Nat} (h : s.full i n = false) : s.lenAt i + n ≤ 2147483648 := by
  unfold St.full at h
  simp only [Bool.or_eq_false_iff, decide_eq_false_iff_not] at h
  omega
theorem ptrV_ne {fb : List Nat} {i : Nat} : ∃ a, ptrV fb i = .pointer (some a) := ⟨_, rfl⟩

set_option maxRecDepth 100000 in
set_option maxHeartbeats 4000000 in
theorem append_any {w : World} {D : Nat} {s : St} {L : PL} (h : PDL w D s L) (hw : Wf s) (n : Nm) (hn : n.size ≤ 140737488355328) {S : Nat → Prop} {A : Option Addr} {c : Nat} {bs : List UInt8} (hb : ArgB w S A c bs) (hS : ∀ k, S k → ¬ foot D L k) :
    Calls Try.prog 20 #[.pointer (some ⟨D, 0, none⟩), .string n, .slice A bs.length c] w fun e w' => e = .returned (.int .i64 (s.append n bs).1) ∧ Did w D L (s.append n bs).2 w' := by
  have hB := begin1 h hw n hn
  have hw1 := Lib.hid (bgn_wf hw (right n))
  have hfl1 := Lib.hid (bgn_files s (right n))
  have c7 : w.cell? ⟨D, 7, none⟩ = some (.int .i64 s.part) := h.cell 7 rfl
  have HB := Lib.hid hB
  clear hB
  generalize hr : s.bgn (right n) = r at *
  have Hr := Lib.hid hr
  have H := Lib.hid h
  have Hw := Lib.hid hw
  have HAb := Lib.hid hb
  have HS := Lib.hid hS
  clear hr h hw hb hS
  go_enter Try.func20, Try.ntmps20
  go_wp2_with fail
  refine HB.out.mono ?_
  rintro e w1 ⟨rfl, h1, k1⟩
  have c1 : w1.cell? ⟨D, 1, none⟩ = some (.map (some L.m1)) := h1.cell 1 rfl
  have hlk := run_look h1.now n
  have hab := HAb.out.keep k1 fun k hk e => HS.out k hk (.inl e)
  have HAb1 := Lib.hid hab
  have H1 := Lib.hid h1
  have K1 := Lib.hid k1
  clear h1 k1 hab
  by_cases h31 : r.1 = 31
  · have e1 : (r.1 == 31) = true := by simp [h31]
    have h31 := Lib.hid h31
    cases hg : get r.2.now n with
    | none =>
      have hfin : Hid (s.append n bs = (31, r.2)) := by simp [Hid, St.append, Hr.out, h31.out, hg]
      rw [hg] at hlk
      simp only [lookV] at hlk
      clear hg
      by_cases hpl : bs.length < s.part
      all_goals
        go_wp2_with fail
        go_ret
        rw [hfin.out]
        exact ⟨rfl, Did.same H1.out K1.out⟩
    | some i =>
      have hi : i < r.2.files.length := hw1.out.idxN _ (get_mem hg)
      obtain ⟨f, b, d, hf, hb, hd, hp, hblk, hown⟩ := H1.out.at hi
      have hfull := fun m (hm : m ≤ 140737488355328) => full_any H1.out hw1.out hi m hm
      have hlen := (hw1.out.fsure f (List.mem_of_getElem? hf)).2
      have hlA : Hid (r.2.lenAt i = f.data.length) := by simp [Hid, St.lenAt, hf]
      have hmx := HAb1.out.max
      have hcap := HAb1.out.cap
      have hmin : min s.part bs.length = if bs.length < s.part then bs.length else s.part := by split <;> omega
      have hfin : Hid (s.append n bs = if r.2.full i (if bs.length < s.part then bs.length else s.part) then (31, r.2) else (31, r.2.app i (bs.take (if bs.length < s.part then bs.length else s.part)))) := by
        rw [← hmin]
        simp [Hid, St.append, Hr.out, h31.out, hg]
      rw [hp] at hfull
      rw [hg] at hlk
      simp only [lookV, hp] at hlk
      have Hf := Lib.hid hf
      have Hb := Lib.hid hb
      have Hd := Lib.hid hd
      have Hblk := Lib.hid hblk
      have Hown := Lib.hid hown
      clear hf hb hd hblk hown hg hi hp hmin
      by_cases hpl : bs.length < s.part
      all_goals
        simp only [hpl, if_true, if_false] at hfin
        first
          | (have _ : bs.length < s.part := hpl; have hfull1 := hfull bs.length (by omega); have hmle : bs.length ≤ bs.length := Nat.le_refl _; have hslice := fun W => run_to W A bs.length c bs.length (by omega); generalize hfu : r.2.full i bs.length = q at hfull1 hfin)
          | (have hfull1 := hfull s.part (by omega); have hmle : s.part ≤ bs.length := (by omega); have hslice := fun W => run_to W A bs.length c s.part (by omega); generalize hfu : r.2.full i s.part = q at hfull1 hfin)
        have Hfull := Lib.hid hfull1
        have Hfu := Lib.hid hfu
        clear hfull hfull1 hfu
        go_wp2_with fail
        refine Hfull.out.mono ?_
        rintro e w2 ⟨rfl, k2⟩
        have h2 := H1.out.keepNo k2
        have hab2 := HAb1.out.keep k2 fun _ _ h => h
        have H2 := Lib.hid h2
        have K2 := Lib.hid k2
        have HAb2 := Lib.hid hab2
        clear h2 k2 hab2
        cases q with
        | true =>
          have hfin2 : Hid (s.append n bs = (31, r.2)) := by rw [hfin.out]; rfl
          clear hfin
          go_wp2_with fail
          go_ret
          rw [hfin2.out]
          exact ⟨rfl, Did.same H2.out (K1.out.trans' (K2.out.mono fun _ _ h => h.elim))⟩
        | false =>
          go_wp2_with fail
          have hle := full_le Hfu.out
          rw [hlA.out] at hle
          have hcells : Hid (∀ W, Keep (fun k => bk d.1 = some k) w2 W → (W.cell? ⟨b, 0, none⟩ = some (.slice d.1 f.data.length d.2) ∧ W.frozen? ⟨b, 0, none⟩ = false)) := by
            intro W hW
            have hb2 : w2.heap[b]? = some (.cells (fileC f d) 100 (0, 0)) := (K2.out.block b (lt_blk Hblk.out) id).trans Hblk.out
            have hWb : W.heap[b]? = some (.cells (fileC f d) 100 (0, 0)) := (hW.block b (lt_blk hb2) (Hown.out.ne_blk Hblk.out (by decide))).trans hb2
            exact ⟨(cell_blk hWb 0).trans rfl, froz_blk hWb 0⟩
          refine wp_region_T (Keep (fun k => bk d.1 = some k) w2) [(0, true), (1, true), (2, true), (3, true), (4, true), (5, true), (6, true), (7, true), (8, false), (9, true), (10, true), (11, false)] (by kernel_rfl) (by kernel_rfl) (Keep.refl _ _).drew ?_
          iterate 8
            (apply T_read rfl (by rfl)
             (· (intro W hW; have hc := hcells.out W hW; go_simp; try with_reducible rfl))
             (simp only [Act.put, List.getElem_toArray, List.getElem_cons_succ, List.getElem_cons_zero, List.setIfInBounds_toArray, List.set_cons_zero, List.set_cons_succ]))
          refine T_do rfl (by rfl) (fun K hK => ?_)
          have hO3 : Own w2.drew 5 1 d.1 f.data.length d.2 (BV f.data) := Hown.out.keep (K2.out.drew) fun _ _ h => h
          have hA3 := HAb2.out.keep (Keep.refl No w2).drew fun _ _ h => h
          refine wp_app (.tmp 48) (.tmp 51) 43 43 rfl hO3 Try.underlying43 info5 rfl (by omega) rfl rfl (hA3.src _ hmle) (by unfold maxLen; omega) (by omega) (fun A' c' w3 hO hK3 hA => ?_)
          have hk3 : Keep (fun k => bk d.1 = some k) w2 w3 := (Keep.refl _ w2).drew.trans' (hK3.mono fun k _ e => e.symm)
          refine hK _ _ (fun _ => hk3) ?_
          (simp only [Act.put, List.getElem_toArray, List.getElem_cons_succ, List.getElem_cons_zero, List.setIfInBounds_toArray, List.set_cons_zero, List.set_cons_succ])
          iterate 2
            (apply T_read rfl (by rfl)
             (· (intro W hW; have hc := hcells.out W hW; go_simp; try with_reducible rfl))
             (simp only [Act.put, List.getElem_toArray, List.getElem_cons_succ, List.getElem_cons_zero, List.setIfInBounds_toArray, List.set_cons_zero, List.set_cons_succ]))
          have hc3 := hcells.out w3 hk3
          have hD := H1.out.appTake Hf.out Hb.out Hd.out Hblk.out hmle K2.out hk3 hO hA
          have HD := Lib.hid (hD.after K1.out)
          have Hfin := Lib.hid hfin
          clear hD hO hk3 hK3 hA hle hfin
          refine T_do rfl (by rfl) (fun K hK => ?_)
          go_simp
          refine hK _ _ (fun h => absurd rfl h) (T_end ?_)
          go_wp2_with fail
          go_ret
          rw [Hfin.out.out]
          exact ⟨rfl, HD.out⟩
  · have e1 : (r.1 == 31) = false := by simp [h31]
    by_cases h0 : r.1 = 0
    · have e2 : (r.1 != 0) = false := by simp [h0]
      have h0 := Lib.hid h0
      have h31 := Lib.hid h31
      cases hg : get r.2.now n with
      | none =>
        have hfin : Hid (s.append n bs = (34, r.2)) := by simp [Hid, St.append, Hr.out, h0.out, hg]
        rw [hg] at hlk
        simp only [lookV] at hlk
        clear hg
        go_wp2_with fail
        go_ret
        rw [hfin.out]
        exact ⟨rfl, Did.same H1.out K1.out⟩
      | some i =>
        have hi : i < r.2.files.length := hw1.out.idxN _ (get_mem hg)
        have hmx := HAb1.out.max
        have hcap := HAb1.out.cap
        have hfull := full_any H1.out hw1.out hi bs.length (by omega)
        obtain ⟨f1, b, d1, _, hb, _, hp, _, _⟩ := H1.out.at hi
        rw [hp] at hfull
        rw [hg] at hlk
        simp only [lookV, hp] at hlk
        cases hfu : r.2.full i bs.length with
        | true =>
          have hfin : Hid (s.append n bs = (32, r.2)) := by simp [Hid, St.append, Hr.out, h0.out, hg, hfu]
          rw [hfu] at hfull
          have Hfull := Lib.hid hfull
          clear hfull hg hfu hi hp hb
          go_wp2_with fail
          refine Hfull.out.mono ?_
          rintro e w2 ⟨rfl, k2⟩
          have h2 := H1.out.keepNo k2
          have H2 := Lib.hid h2
          have K2 := Lib.hid k2
          clear h2 k2
          go_wp2_with fail
          go_ret
          rw [hfin.out]
          exact ⟨rfl, Did.same H2.out (K1.out.trans' (K2.out.mono fun _ _ h => h.elim))⟩
        | false =>
          have hle := full_le hfu
          have hfin : Hid (s.append n bs = if (r.2.fls (1 + bs.length)).2.1 then (30, (r.2.fls (1 + bs.length)).2.2.app i (bs.take (r.2.fls (1 + bs.length)).1)) else (0, (r.2.fls (1 + bs.length)).2.2.app i bs)) := by
            simp [Hid, St.append, Hr.out, h0.out, hg, hfu]
          rw [hfu] at hfull
          have hq1 : (r.2.fls (1 + bs.length)).2.1 = true → (r.2.fls (1 + bs.length)).1 ≤ bs.length := by
            unfold St.fls
            split
            · intro h; cases h
            · split
              · intro h; cases h
              · intro _; simp only []; omega
          have hF := fun (W : World) (hW : PDL W D r.2 L) => falls_any hW hw1.out.bleft (1 + bs.length) (by omega) (by omega)
          rw [show ((1 : Int) + bs.length).toNat = 1 + bs.length by omega] at hF
          have hfl := Lib.hid (fls_files r.2 (1 + bs.length))
          have hlA : Hid (r.2.lenAt i + bs.length ≤ 2147483648) := hle
          generalize hq : r.2.fls (1 + bs.length) = q at *
          obtain ⟨q1, q2, q3⟩ := q
          simp only at hq1 hF hfin hfl
          have Hfull := Lib.hid hfull
          have HF := Lib.hid hF
          have hi := Lib.hid hi
          have Hq := Lib.hid hq
          have Hb := Lib.hid hb
          clear hfull hg hfu hp hb hle hF hq
          go_wp2_with fail
          refine Hfull.out.mono ?_
          rintro e w2 ⟨rfl, k2⟩
          have h2 := H1.out.keepNo k2
          have hab2 := HAb1.out.keep k2 fun _ _ h => h
          have HF2 := Lib.hid (HF.out w2 h2)
          have H2 := Lib.hid h2
          have K2 := Lib.hid k2
          have HAb2 := Lib.hid hab2
          clear h2 k2 hab2
          go_wp2_with fail
          refine HF2.out.mono ?_
          rintro e w3 ⟨rfl, h3, k3⟩
          obtain ⟨f, b', d, hf, hb', hd, hp, hblk, hown⟩ := h3.at (i := i) (by rw [hfl.out.1]; exact hi.out)
          rw [Hb.out] at hb'; cases hb'
          have hlen : f.data.length + bs.length ≤ 2147483648 := by
            have := hlA.out
            unfold St.lenAt at this
            rw [← hfl.out.1, hf] at this
            simp only at this
            omega
          have hab3 := HAb2.out.keep k3 fun k hk e => HS.out k hk (.inl e)
          have c0 : w3.cell? ⟨b, 0, none⟩ = some (.slice d.1 f.data.length d.2) := (cell_blk hblk 0).trans rfl
          have H3 := Lib.hid h3
          have K3 := Lib.hid (K1.out.trans' ((K2.out.mono (G := fun k => k = D) fun _ _ h => h.elim).trans' k3))
          have HAb3 := Lib.hid hab3
          have Hf := Lib.hid hf
          have Hd := Lib.hid hd
          have Hblk := Lib.hid hblk
          have Hown := Lib.hid hown
          clear h3 k3 hab3 hf hd hp hblk hown
          cases q2 with
          | true =>
            have hmle := hq1 rfl
            have hslice := fun W => run_to W A bs.length c q1 (by omega)
            have Hfin := Lib.hid hfin
            clear hfin hq1
            go_wp2_with fail
            have hcells : Hid (∀ W, Keep (fun k => bk d.1 = some k) w3 W → (W.cell? ⟨b, 0, none⟩ = some (.slice d.1 f.data.length d.2) ∧ W.frozen? ⟨b, 0, none⟩ = false)) := by
              intro W hW
              have hWb : W.heap[b]? = some (.cells (fileC f d) 100 (0, 0)) := (hW.block b (lt_blk Hblk.out) (Hown.out.ne_blk Hblk.out (by decide))).trans Hblk.out
              exact ⟨(cell_blk hWb 0).trans rfl, froz_blk hWb 0⟩
            refine wp_region_T (Keep (fun k => bk d.1 = some k) w3) [(0, true), (1, true), (2, true), (3, true), (4, true), (5, true), (6, true), (7, true), (8, false), (9, true), (10, true), (11, false)] (by kernel_rfl) (by kernel_rfl) (Keep.refl _ _).drew ?_
            iterate 8
              (apply T_read rfl (by rfl)
               (· (intro W hW; have hc := hcells.out W hW; go_simp; try with_reducible rfl))
               (simp only [Act.put, List.getElem_toArray, List.getElem_cons_succ, List.getElem_cons_zero, List.setIfInBounds_toArray, List.set_cons_zero, List.set_cons_succ]))
            refine T_do rfl (by rfl) (fun K hK => ?_)
            have hO3 : Own w3.drew 5 1 d.1 f.data.length d.2 (BV f.data) := Hown.out.keep (Keep.refl No w3).drew fun _ _ h => h
            have hA3 := HAb3.out.keep (Keep.refl No w3).drew fun _ _ h => h
            refine wp_app (.tmp 82) (.tmp 85) 43 43 rfl hO3 Try.underlying43 info5 rfl (by omega) rfl rfl (hA3.src _ hmle) (by unfold maxLen; omega) (by omega) (fun A' c' w4 hO hK4 hA => ?_)
            have hk4 : Keep (fun k => bk d.1 = some k) w3 w4 := (Keep.refl _ w3).drew.trans' (hK4.mono fun k _ e => e.symm)
            refine hK _ _ (fun _ => hk4) ?_
            (simp only [Act.put, List.getElem_toArray, List.getElem_cons_succ, List.getElem_cons_zero, List.setIfInBounds_toArray, List.set_cons_zero, List.set_cons_succ])
            iterate 2
              (apply T_read rfl (by rfl)
               (· (intro W hW; have hc := hcells.out W hW; go_simp; try with_reducible rfl))
               (simp only [Act.put, List.getElem_toArray, List.getElem_cons_succ, List.getElem_cons_zero, List.setIfInBounds_toArray, List.set_cons_zero, List.set_cons_succ]))
            have hc3 := hcells.out w4 hk4
            have hD := H3.out.appTake Hf.out Hb.out Hd.out Hblk.out hmle (Keep.refl No w3) hk4 hO hA
            have HD := Lib.hid (hD.after K3.out)
            clear hD hO hk4 hK4 hA
            refine T_do rfl (by rfl) (fun K hK => ?_)
            go_simp
            refine hK _ _ (fun h => absurd rfl h) (T_end ?_)
            go_wp2_with fail
            go_ret
            rw [Hfin.out.out]
            exact ⟨rfl, HD.out⟩
          | false =>
            have Hfin := Lib.hid hfin
            have hmle : bs.length ≤ bs.length := Nat.le_refl _
            have z0 : ∀ W, Keep (fun k => bk d.1 = some k) w3 W → W.frozen? ⟨b, 0, none⟩ = false := fun W hW => by
              have hWb : W.heap[b]? = some (.cells (fileC f d) 100 (0, 0)) := (hW.block b (lt_blk Hblk.out) (Hown.out.ne_blk Hblk.out (by decide))).trans Hblk.out
              exact froz_blk hWb 0
            have cz0 : ∀ W, Keep (fun k => bk d.1 = some k) w3 W → W.cell? ⟨b, 0, none⟩ = some (.slice d.1 f.data.length d.2) := fun W hW => by
              have hWb : W.heap[b]? = some (.cells (fileC f d) 100 (0, 0)) := (hW.block b (lt_blk Hblk.out) (Hown.out.ne_blk Hblk.out (by decide))).trans Hblk.out
              exact (cell_blk hWb 0).trans rfl
            have Z0 := Lib.hid z0
            have CZ0 := Lib.hid cz0
            clear hfin hq1 z0 cz0
            go_wp2_with (refine wpList_app (by rfl) (.tmp 93) (.tmp 94) 43 43 rfl Hown.out Try.underlying43 info5 rfl (by omega) rfl rfl (HAb3.out.src bs.length hmle) (by unfold maxLen; omega) (by omega) ?_; intro A' c' w4 hO hK4 hA; have hk4 : Keep (fun k => bk d.1 = some k) w3 w4 := hK4.mono fun k _ e => e.symm; have hz4 := Z0.out w4 hk4; have hc4 := CZ0.out w4 hk4; have HO := Lib.hid hO; have HA' := Lib.hid hA; have Hk4 := Lib.hid hk4; clear hO hK4 hA hk4)
            go_ret
            have hD := H3.out.appTake Hf.out Hb.out Hd.out Hblk.out hmle (Keep.refl No w3) Hk4.out HO.out HA'.out
            rw [List.take_length] at hD
            rw [Hfin.out.out]
            exact ⟨rfl, hD.after K3.out⟩
    · have e2 : (r.1 != 0) = true := by simp [h0]
      have hfin : Hid (s.append n bs = r) := by simp [Hid, St.append, Hr.out, h0, h31]
      -- whatever is looked up, it is not used
      obtain ⟨v, hv⟩ : ∃ v, v = lookV L.fb (get r.2.now n) := ⟨_, rfl⟩
      rw [← hv] at hlk
      clear h0 h31
      go_wp2_with fail
      go_ret
      rw [hfin.out]
      exact ⟨rfl, Did.same H1.out K1.out⟩

end Go.Dx
