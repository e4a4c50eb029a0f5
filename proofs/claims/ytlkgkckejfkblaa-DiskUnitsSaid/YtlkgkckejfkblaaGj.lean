/- Chapter 3's examples hold of the program's disk: the law's function known. No condition. Two disks beside one another, the law's pair: begin. No condition. DiskNews: the walk. No condition. -/
import Derived.Test.YtlkgkckejfkblaaGi
import Derived.Lib.SlBytesConst
namespace Go.Dx
open Go.RowKit Go.Proofs

/-- A disk that the call made itself. -/
structure Lone (w0 w : World) (D : Nat) (s : St) (L : PL) : Prop where
  d : PDL w D s L
  k : Keep No w0 w
  n : ∀ k, foot D L k → New w0 w k
section
variable {w0 w w' : World} {D : Nat} {s s' : St} {L : PL}
theorem Lone.did (h : Lone w0 w D s L) (hd : Did w D L s' w') : ∃ L', Lone w0 w' D s' L' := by
  obtain ⟨L', h1, h2, h3⟩ := hd
  have hs := h.k.size
  refine ⟨L', h1, h.k.trans h2 fun k hk e => ?_, fun k hk => ?_⟩
  · have := (h.n k e).1; omega
  · rcases h3 k hk with e | e
    · exact (h.n k e).sub h2.size
    · exact ⟨by have := e.1; omega, e.2⟩
theorem Lone.keep (h : Lone w0 w D s L) (hk : Keep No w w') : Lone w0 w' D s L := ⟨h.d.keep hk fun _ _ h => h, h.k.trans' hk, fun k hk' => (h.n k hk').sub hk.size⟩
theorem Lone.create (h : Lone w0 w D s L) (hw : Wf s) (hc : s.changes.length ≤ 1000000) (n : Nm) (hn : n.size ≤ 140737488355328) {r : Int} (hr : (s.create n).1 = r) :
    Calls Try.prog 18 #[.pointer (some ⟨D, 0, none⟩), .string n] w fun e w' => e = .returned (.int .i64 r) ∧ ∃ L', Lone w0 w' D (s.create n).2 L' :=
  (create_any h.d hw n hn hc).mono fun _ _ ⟨h1, h2⟩ => ⟨by rw [h1, hr], h.did h2⟩
theorem Lone.append (h : Lone w0 w D s L) (hw : Wf s) (n : Nm) (hn : n.size ≤ 140737488355328) (bs : List UInt8) (hb : bs.length ≤ 1000) {cs : Array Value} (hcs : cs.toList = BV bs) {r : Int} (hr : (s.append n bs).1 = r) :
    Calls Try.prog 20 #[.pointer (some ⟨D, 0, none⟩), .string n, .slice (some ⟨w.heap.size, 0, none⟩) bs.length bs.length] (w.alloc (.cells cs 5 (cs.size, cs.size + 1))) fun e w' => e = .returned (.int .i64 r) ∧ ∃ L', Lone w0 w' D (s.append n bs).2 L' := by
  have hk := h.keep ((Keep.refl No w).alloc (.cells cs 5 (cs.size, cs.size + 1)))
  refine (append_any hk.d hw n hn (S := fun k => k = w.heap.size) (A := some ⟨w.heap.size, 0, none⟩) (c := bs.length) (bs := bs) ⟨fun _ => ⟨w.heap.size, 0, rfl, rfl, ?_⟩, fun k e => by rw [e]; simp, Nat.le_refl _, by omega⟩ fun k e hf => ?_).mono fun _ _ ⟨h1, h2⟩ => ⟨by rw [h1, hr], hk.did h2⟩
  · rw [← hcs]
    exact Run.of_blk (alloc_new w _)
  · have := h.d.lt k hf; omega
theorem Lone.sync (h : Lone w0 w D s L) (hw : Wf s) (n : Nm) (hn : n.size ≤ 140737488355328) {r : Int} (hr : (s.sync n).1 = r) :
    Calls Try.prog 21 #[.pointer (some ⟨D, 0, none⟩), .string n] w fun e w' => e = .returned (.int .i64 r) ∧ ∃ L', Lone w0 w' D (s.sync n).2 L' :=
  (sync_any h.d hw n hn).mono fun _ _ ⟨h1, h2⟩ => ⟨by rw [h1, hr], h.did h2⟩
theorem Lone.delete (h : Lone w0 w D s L) (hw : Wf s) (hc : s.changes.length ≤ 1000000) (n : Nm) (hn : n.size ≤ 140737488355328) {r : Int} (hr : (s.delete n).1 = r) :
    Calls Try.prog 24 #[.pointer (some ⟨D, 0, none⟩), .string n] w fun e w' => e = .returned (.int .i64 r) ∧ ∃ L', Lone w0 w' D (s.delete n).2 L' :=
  (delete_any h.d hw hc n hn).mono fun _ _ ⟨h1, h2⟩ => ⟨by rw [h1, hr], h.did h2⟩
theorem Lone.fail (h : Lone w0 w D s L) (a b c : Int) :
    Calls Try.prog 37 #[.pointer (some ⟨D, 0, none⟩), .int .i64 a, .int .i64 b, .int .i64 c] w fun e w' => e = .returned (.tuple #[]) ∧ ∃ L', Lone w0 w' D (s.fail a b c) L' :=
  (fail_any h.d a b c).mono fun _ _ ⟨h1, h2⟩ => ⟨h1, h.did h2⟩
def OneF (w0 : World) (D : Nat) (s : St) (L : PL) (x : FT) (e : Ending) (w' : World) : Prop :=
  ∃ (g c : Nat) (d : Option Addr × Nat), e = .returned (.slice (some ⟨g, 0, none⟩) 1 c) ∧ w'.cell? ⟨g, 0, none⟩ = some (.string x.1) ∧ w'.cell? ⟨g, 1, none⟩ = some (.slice d.1 x.2.1.length d.2) ∧ w'.cell? ⟨g, 2, none⟩ = some (.int .i64 x.2.2) ∧ (convert 43 9 (.slice d.1 x.2.1.length d.2)).run Try.prog w' = .ok (.string ⟨x.2.1.toArray⟩) w' ∧ Lone w0 w' D s L
theorem OneF.of (h : Lone w0 w D s L) {l : List FT} {x : FT} (hl : l = [x]) {e : Ending} (ht : ToldR w l e w') : OneF w0 D s L x e w' := by
  subst hl
  obtain ⟨A, c, ds, h1, h2, h3, h4⟩ := ht
  obtain ⟨g, d, rfl, hd, q0, q1, q2, ho⟩ := h2.at (i := 0) (x := x) rfl
  exact ⟨g, c, d, h1, by simpa using q0, by simpa using q1, by simpa using q2, conv_rd ho.rd d.2, h.keep h3⟩
theorem Lone.files (h : Lone w0 w D s L) {n : Nat} (hg : Good s n) {x : FT} (hx : s.filesOf = [x]) : Calls Try.prog 12 #[.pointer (some ⟨D, 0, none⟩)] w (OneF w0 D s L x) :=
  (files_any h.d hg).mono fun _ _ ht => OneF.of h hx ht
theorem Lone.image0 (h : Lone w0 w D s L) {n : Nat} (hg : Good s n) (hn : n ≤ 1000000) (dir : Int) (hx : s.image dir [] = []) : Calls Try.prog 14 #[.pointer (some ⟨D, 0, none⟩), .int .i64 dir, .slice none 0 0] w fun e w' => ∃ A c, e = .returned (.slice A 0 c) ∧ Lone w0 w' D s L :=
  (image_any (S := fun _ => False) (B := none) (ks := []) (cb := 0) h.d hg hn dir (Rd.nil _ _ _) (fun _ h => h.elim) (by simp)).mono fun _ _ ht => by
    rw [hx] at ht
    obtain ⟨A, c, ds, h1, h2, h3, h4⟩ := ht
    exact ⟨A, c, h1, h.keep h3⟩
theorem Lone.image1 (h : Lone w0 w D s L) {n : Nat} (hg : Good s n) (hn : n ≤ 1000000) (dir : Int) {k : Int} {x : FT} (hx : s.image dir [k] = [x]) : Calls Try.prog 14 #[.pointer (some ⟨D, 0, none⟩), .int .i64 dir, .slice (some ⟨w.heap.size, 0, none⟩) 1 1] (w.alloc (.cells #[.int .i64 k] 3)) (OneF w0 D s L x) := by
  have hk := h.keep ((Keep.refl No w).alloc (.cells #[.int .i64 k] 3))
  refine (image_any (S := fun k => k = w.heap.size) (B := some ⟨w.heap.size, 0, none⟩) (ks := [k]) (cb := 1) hk.d hg hn dir (fun _ => ⟨w.heap.size, 0, rfl, rfl, Run.of_blk (alloc_new w _)⟩) (fun k e => by rw [e]; simp) (by simp)).mono fun _ _ ht => OneF.of hk hx ht
theorem Lone.read (h : Lone w0 w D s L) (hw : Wf s) (n : Nm) (hn : n.size ≤ 140737488355328) {b : List UInt8} {r : Int} (hr : s.read n = (b, r)) :
    Calls Try.prog 22 #[.pointer (some ⟨D, 0, none⟩), .string n] w fun e w' => ∃ A c, e = .returned (.tuple #[.slice A b.length c, .int .i64 r]) ∧ (convert 43 9 (.slice A b.length c)).run Try.prog w' = .ok (.string ⟨b.toArray⟩) w' ∧ Lone w0 w' D s L :=
  (read_any h.d hw n hn).mono fun _ _ ht => by
    obtain ⟨A, c, h1, h2, h3, _⟩ := ht
    rw [hr] at h1 h2
    exact ⟨A, c, h1, conv_rd h2.rd c, h.keep h3⟩
end
theorem lone_new (w0 w : World) (hk : Keep No w0 w) : Calls Try.prog 17 #[.int .i64 0, .slice none 0 0] w fun e w' => ∃ D L, e = .returned (.tuple #[.pointer (some ⟨D, 0, none⟩), .int .i64 0]) ∧ Lone w0 w' D k0 L :=
  (new_any (w := w) 0 (by omega) (S := fun _ => False) (A := none) (c := 0) (l := []) (fa := []) ⟨Rd.nil _ _ _, rfl, fun i x d h => by simp at h, fun _ h => h.elim, fun x h => by simp at h⟩ (by simp)).mono fun _ _ ht => by
    rcases ht with ⟨h, _⟩ | ⟨_, D, L, h1, h2, h3, h4⟩
    · exact absurd knew h
    · refine ⟨D, L, h1, h2, hk.trans' h3, fun k hk' => ?_⟩
      have := h4 k hk'
      exact ⟨Nat.le_trans hk.size this.1, this.2⟩

set_option maxRecDepth 100000 in
set_option maxHeartbeats 8000000 in
theorem known_any (w : World) : Calls Try.prog 8 #[] w fun e w' => e = .returned (.bool true) ∧ Keep No w w' := by
  have hcc := fun (w : World) (C : Array Value) (n c : Nat) => Lib.run_convert_bytes_const (P := Try.prog) w 43 5 C n c Try.underlying43 Try.underlying5
  go_enter Try.func8, Try.ntmps8
  go_wp2_with fail
  refine (lone_new w w (Keep.refl _ _)).mono ?_
  rintro e w1 ⟨D, L, rfl, hL⟩
  have c8 : w1.cell? ⟨D, 8, none⟩ = some (.bool false) := hL.d.cell 8 rfl
  have Hdn := Lib.hid (down_any c8)
  have HL := Lib.hid hL
  clear hL c8
  go_wp2_with fail
  refine Hdn.out.mono ?_
  rintro e w1 ⟨rfl, rfl⟩
  go_wp2_with fail
  refine (HL.out.create (kg0 0).wf (by decide) ⟨#[97]⟩ (by decide) kc1).mono ?_
  rintro e w2 ⟨rfl, L2, hL2⟩
  have HL2 := Lib.hid hL2
  clear hL2 HL Hdn
  go_wp2_with fail
  refine (HL2.out.append kg1.wf ⟨#[97]⟩ (by decide) [120, 121, 122] (by decide) (cs := #[.int .u8 120, .int .u8 121, .int .u8 122]) rfl kc2).mono ?_
  rintro e w3 ⟨rfl, L3, hL3⟩
  have HL3 := Lib.hid hL3
  clear hL3 HL2
  go_wp2_with fail
  refine (HL3.out.sync kg2.wf ⟨#[97]⟩ (by decide) kc3).mono ?_
  rintro e w4 ⟨rfl, L4, hL4⟩
  have HL4 := Lib.hid hL4
  clear hL4 HL3
  go_wp2_with fail
  refine (HL4.out.append kg3.wf ⟨#[97]⟩ (by decide) [117, 118] (by decide) (cs := #[.int .u8 117, .int .u8 118]) rfl kc4).mono ?_
  rintro e w5 ⟨rfl, L5, hL5⟩
  have HL5 := Lib.hid hL5
  clear hL5 HL4
  go_wp2_with fail
  refine (HL5.out.files kg4 kf4).mono ?_
  rintro e w6 ⟨g, c, d, rfl, q0, q1, q2, hcv, hL6⟩
  have HL6 := Lib.hid hL6
  clear hL6 HL5
  simp only [List.length_cons, List.length_nil, Nat.zero_add, Nat.reduceAdd] at q0 q1 q2 hcv
  go_wp2_with fail
  refine (HL6.out.image0 kg4 (by omega) 0 ki0).mono ?_
  rintro e w7 ⟨A7, c7, rfl, hL7⟩
  have HL7 := Lib.hid hL7
  clear hL7 HL6 q0 q1 q2 hcv
  go_wp2_with fail
  refine (HL7.out.image1 kg4 (by omega) 1 ki1).mono ?_
  rintro e w8 ⟨g8, c8, d8, rfl, q0, q1, q2, hcv, hL8⟩
  have HL8 := Lib.hid hL8
  clear hL8 HL7
  simp only [List.length_cons, List.length_nil, Nat.zero_add, Nat.reduceAdd] at q0 q1 q2 hcv
  go_wp2_with fail
  refine (lone_new w w8 HL8.out.k).mono ?_
  rintro e w9 ⟨E, M, rfl, hM⟩
  have HM := Lib.hid hM
  clear hM HL8 q0 q1 q2 hcv
  go_wp2_with fail
  refine (HM.out.fail 1 2 2).mono ?_
  rintro e w10 ⟨rfl, M2, hM2⟩
  have HM2 := Lib.hid hM2
  clear hM2 HM
  go_wp2_with fail
  refine (HM2.out.create kg5.wf (by decide) ⟨#[120]⟩ (by decide) kc6).mono ?_
  rintro e w11 ⟨rfl, M3, hM3⟩
  have HM3 := Lib.hid hM3
  clear hM3 HM2
  go_wp2_with fail
  refine (HM3.out.append kg6.wf ⟨#[120]⟩ (by decide) [49, 50, 51, 52, 53] (by decide) (cs := #[.int .u8 49, .int .u8 50, .int .u8 51, .int .u8 52, .int .u8 53]) rfl kc7).mono ?_
  rintro e w12 ⟨rfl, M4, hM4⟩
  have HM4 := Lib.hid hM4
  clear hM4 HM3
  go_wp2_with fail
  refine (HM4.out.delete kg7.wf (Nat.le_trans kg7.ch (by omega)) ⟨#[121]⟩ (by decide) kc8).mono ?_
  rintro e w13 ⟨rfl, M5, hM5⟩
  have HM5 := Lib.hid hM5
  clear hM5 HM4
  go_wp2_with fail
  refine (HM5.out.delete kg8.wf (Nat.le_trans kg8.ch (by omega)) ⟨#[121]⟩ (by decide) kc9).mono ?_
  rintro e w14 ⟨rfl, M6, hM6⟩
  have HM6 := Lib.hid hM6
  clear hM6 HM5
  go_wp2_with fail
  refine (HM6.out.read kg9.wf ⟨#[120]⟩ (by decide) kr9).mono ?_
  rintro e w15 ⟨A15, c15, rfl, hcv, hM7⟩
  have HM7 := Lib.hid hM7
  clear hM7 HM6
  simp only [List.length_cons, List.length_nil, Nat.zero_add, Nat.reduceAdd] at hcv
  go_wp2_with fail
  go_ret
  exact ⟨rfl, HM7.out.k⟩

end Go.Dx

namespace Go.Dx
open Go.RowKit Go.Proofs

/-- The law's pair: a block of two pointers, the program's disk, the document's. -/
structure PW (w : World) (P D E : Nat) (s t : St) (L : PL) (M : RL) : Prop where
  blk : w.heap[P]? = some (.cells #[.pointer (some ⟨D, 0, none⟩), .pointer (some ⟨E, 0, none⟩)] 32 (0, 0))
  d : PDL w D s L
  r : RDL w E t M
  far : ∀ k, foot D L k → ¬ footR E M k
  pd : ¬ foot D L P
  pr : ¬ footR E M P
def footP (P D E : Nat) (L : PL) (M : RL) : Nat → Prop := fun k => k = P ∨ foot D L k ∨ footR E M k
def DidP (w : World) (P D E : Nat) (L : PL) (M : RL) (s' t' : St) (w' : World) : Prop := ∃ L' M', PW w' P D E s' t' L' M' ∧ Keep (footP P D E L M) w w' ∧ ∀ k, footP P D E L' M' k → footP P D E L M k ∨ New w w' k
section
variable {w w' : World} {P D E : Nat} {s s' t t' : St} {L : PL} {M : RL}
theorem PW.lt (h : PW w P D E s t L M) : ∀ k, footP P D E L M k → k < w.heap.size := by
  rintro k (rfl | hk | hk)
  · exact lt_blk h.blk
  · exact h.d.lt k hk
  · exact h.r.lt k hk
theorem PW.keep (h : PW w P D E s t L M) {F : Nat → Prop} (hk : Keep F w w') (hF : ∀ k, footP P D E L M k → ¬ F k) : PW w' P D E s t L M :=
  ⟨(hk.block P (lt_blk h.blk) (hF P (.inl rfl))).trans h.blk, h.d.keep hk fun k hk => hF k (.inr (.inl hk)), h.r.keep hk fun k hk => hF k (.inr (.inr hk)), h.far, h.pd, h.pr⟩
theorem PW.keepNo (h : PW w P D E s t L M) (hk : Keep No w w') : PW w' P D E s t L M := h.keep hk fun _ _ h => h
theorem PW.stepD (h : PW w P D E s t L M) (hd : Did w D L s' w') : DidP w P D E L M s' t w' := by
  obtain ⟨L', h1, h2, h3⟩ := hd
  have key : ∀ k, foot D L' k → (k = P ∨ footR E M k) → False := fun k hk hk2 => by
    rcases h3 k hk with e | e
    · rcases hk2 with e2 | e2
      · subst e2; exact h.pd e
      · exact h.far k e e2
    · have := h.lt k (hk2.elim (fun e2 => .inl e2) fun e2 => .inr (.inr e2))
      have := e.1
      omega
  refine ⟨L', M, ⟨(h2.block P (lt_blk h.blk) h.pd).trans h.blk, h1, h.r.keep h2 fun k hk e => h.far k e hk, fun k hk hk2 => key k hk (.inr hk2), fun e => key P e (.inl rfl), h.pr⟩, h2.mono fun _ _ e => .inr (.inl e), ?_⟩
  rintro k (e | e | e)
  · exact .inl (.inl e)
  · rcases h3 k e with e | e
    · exact .inl (.inr (.inl e))
    · exact .inr e
  · exact .inl (.inr (.inr e))
theorem PW.stepR (h : PW w P D E s t L M) (hd : DidR w E M t' w') : DidP w P D E L M s t' w' := by
  obtain ⟨M', h1, h2, h3⟩ := hd
  have key : ∀ k, footR E M' k → (k = P ∨ foot D L k) → False := fun k hk hk2 => by
    rcases h3 k hk with e | e
    · rcases hk2 with e2 | e2
      · subst e2; exact h.pr e
      · exact h.far k e2 e
    · have := h.lt k (hk2.elim (fun e2 => .inl e2) fun e2 => .inr (.inl e2))
      have := e.1
      omega
  refine ⟨L, M', ⟨(h2.block P (lt_blk h.blk) h.pr).trans h.blk, h.d.keep h2 fun k hk e => h.far k hk e, h1, fun k hk hk2 => key k hk2 (.inr hk), h.pd, fun e => key P e (.inl rfl)⟩, h2.mono fun _ _ e => .inr (.inr e), ?_⟩
  rintro k (e | e | e)
  · exact .inl (.inl e)
  · exact .inl (.inr (.inl e))
  · rcases h3 k e with e | e
    · exact .inl (.inr (.inr e))
    · exact .inr e
theorem DidP.trans {w1 w2 : World} {L1 : PL} {M1 : RL} (k1 : Keep (footP P D E L M) w w1) (f1 : ∀ k, footP P D E L1 M1 k → footP P D E L M k ∨ New w w1 k) (h : DidP w1 P D E L1 M1 s' t' w2) : DidP w P D E L M s' t' w2 := by
  obtain ⟨L2, M2, h2, k2, f2⟩ := h
  have hs2 := k2.size
  have hs1 := k1.size
  refine ⟨L2, M2, h2, k1.trans k2 (fun i hi e => ?_), fun k hk => ?_⟩
  · rcases f1 i e with e | e
    · exact e
    · have := e.1; omega
  · rcases f2 k hk with e | e
    · rcases f1 k e with e | e
      · exact .inl e
      · exact .inr ⟨e.1, by have := e.2; omega⟩
    · exact .inr ⟨by have := e.1; omega, e.2⟩
theorem DidP.after {w0 : World} (hk : Keep No w0 w) (h : DidP w P D E L M s' t' w') : DidP w0 P D E L M s' t' w' := by
  obtain ⟨L', M', h1, h2, h3⟩ := h
  refine ⟨L', M', h1, (hk.mono fun _ _ e => e.elim).trans' h2, fun k hk' => ?_⟩
  rcases h3 k hk' with e | e
  · exact .inl e
  · exact .inr ⟨Nat.le_trans hk.size e.1, e.2⟩
theorem DidP.before {w2 : World} (h : DidP w P D E L M s' t' w') (hk : Keep No w' w2) : DidP w P D E L M s' t' w2 := by
  obtain ⟨L', M', h1, h2, h3⟩ := h
  refine ⟨L', M', h1.keepNo hk, h2.trans' (hk.mono fun _ _ e => e.elim), fun k hk' => ?_⟩
  rcases h3 k hk' with e | e
  · exact .inl e
  · exact .inr (e.sub hk.size)
theorem DidP.same (h : PW w' P D E s t L M) (hk : Keep No w w') : DidP w P D E L M s t w' := ⟨L, M, h, hk.mono fun _ _ e => e.elim, fun _ e => .inl e⟩
end

/-- What begin has come to. -/
def BeginR (w : World) (room : Int) (l : List FI) (e : Ending) (w' : World) : Prop :=
  (¬ newOk room l ∧ e = .returned (.tuple #[.pointer none, .bool true]) ∧ Keep No w w') ∨
  (newOk room l ∧ ∃ P D E L M, e = .returned (.tuple #[.pointer (some ⟨P, 0, none⟩), .bool true]) ∧ PW w' P D E (St.mkI room l) (St.mkI room l) L M ∧ Keep No w w' ∧ ∀ k, footP P D E L M k → New w w' k)

set_option maxRecDepth 100000 in
set_option maxHeartbeats 4000000 in
theorem beginP_any {w : World} (room : Int) (hr63 : room < 9223372036854775808) {S : Nat → Prop} {A : Option Addr} {c : Nat} {l : List FI} {fa : List (Option Addr × Nat)} (ha : ArgF w S A l fa) (hl : l.length * 48 ≤ 140737488355328) :
    Calls Try.prog 10 #[.int .i64 room, .slice A l.length c] w (BeginR w room l) := by
  have hdl : ∀ x ∈ l, x.2.1.length ≤ 140737488355328 := fun x hx => by
    obtain ⟨i, hi⟩ := List.mem_iff_getElem?.1 hx
    obtain ⟨b, o, d, _, _, hd, _, _, _, hdat⟩ := ha.at hi
    exact hdat.max
  have hl63 : l.length < 9223372036854775808 := by omega
  have Htw := Lib.hid (twinF_any (cb := c) ha hl)
  have HA := Lib.hid ha
  have Hdl := Lib.hid hdl
  have Hl := Lib.hid hl
  clear ha hl hdl
  go_enter Try.func10, Try.ntmps10
  go_wp2_with fail
  refine Htw.out.mono ?_
  rintro e w1 ⟨A1, c1, ds, rfl, hT, hk1, hn1⟩
  have hnew := new_any (c := c1) room hr63 (hT.arg HA.out.name Hdl.out) hl63
  have Hnew := Lib.hid hnew
  have K1 := Lib.hid hk1
  clear hnew hk1 hT hn1
  go_wp2_with fail
  refine Hnew.out.mono ?_
  rintro e w2 (⟨hno, rfl, hk2⟩ | ⟨hyes, D, L, rfl, hD, hk2, hn2⟩)
  · have K2 := Lib.hid (K1.out.trans' hk2)
    have Hno := Lib.hid hno
    have hr := newR_any (c := c) room hr63 (HA.out.keep K2.out fun _ _ h => h) hl63
    have Hr := Lib.hid hr
    clear hr hk2 hno
    go_wp2_with fail
    refine Hr.out.mono ?_
    rintro e w3 (⟨_, rfl, hk3⟩ | ⟨hy, _⟩)
    · have K3 := Lib.hid (K2.out.trans' hk3)
      clear hk3
      go_wp2_with fail
      go_ret2
      exact .inl ⟨Hno.out, rfl, K3.out⟩
    · exact absurd hy Hno.out
  · have K2 := Lib.hid (K1.out.trans' hk2)
    have Hyes := Lib.hid hyes
    have HD := Lib.hid hD
    have hr := newR_any (c := c) room hr63 (HA.out.keep K2.out fun _ _ h => h) hl63
    have Hr := Lib.hid hr
    have HN2 : Hid (∀ k, foot D L k → New w w2 k) := fun k hk => ⟨Nat.le_trans K1.out.size (hn2 k hk).1, (hn2 k hk).2⟩
    clear hr hk2 hyes hD hn2
    go_wp2_with fail
    refine Hr.out.mono ?_
    rintro e w3 (⟨hno, _⟩ | ⟨_, E, M, rfl, hE, hk3, hn3⟩)
    · exact absurd Hyes.out hno
    · have K3 := Lib.hid hk3
      have HE := Lib.hid hE
      have HN3 := Lib.hid hn3
      clear hk3 hE hn3
      go_wp2_with fail
      go_ret2
      have ka : Keep No w3 (w3.alloc (.cells #[.pointer (some ⟨D, 0, none⟩), .pointer (some ⟨E, 0, none⟩)] 32)) := (Keep.refl No w3).alloc _
      have hs2 := K2.out.size
      have hs3 := K3.out.size
      have hd3 := HD.out.keep K3.out fun _ _ h => h
      refine .inr ⟨Hyes.out, w3.heap.size, D, E, L, M, rfl, ⟨alloc_new w3 _, hd3.keep ka fun _ _ h => h, HE.out.keepNo ka, fun k hk hk2 => ?_, fun e => ?_, fun e => ?_⟩, (K2.out.trans' K3.out).trans' ka, ?_⟩
      · have h1 := (HN2.out k hk).2
        have h2 := (HN3.out k hk2).1
        omega
      · have := hd3.lt _ e; omega
      · have := HE.out.lt _ e; omega
      · rintro k (e | e | e)
        · subst e; exact ⟨by omega, by simp⟩
        · have := HN2.out k e
          exact ⟨this.1, by have := this.2; simp; omega⟩
        · have := HN3.out k e
          exact ⟨by have := this.1; omega, by have := this.2; simp; omega⟩

end Go.Dx

namespace Go.Dx
open Go.RowKit Go.Proofs

theorem sameTold {w : World} {l : List FT} {A B : Option Addr} {c d : Nat} {ds es : List (Option Addr × Nat)} (h1 : Told w l A c ds) (h2 : Told w l B d es) (hl : l.length ≤ 1000000000000) :
    Calls Try.prog 11 #[.slice A l.length c, .slice B l.length d] w fun e w' => e = .returned (.bool true) ∧ ∃ m, w' = w.drewN m := by
  have := sameFiles_any h1.fr h2.fr (by simpa using hl) c d
  simp only [List.length_map] at this
  exact this
theorem ArgS.nil (w : World) : ArgS w (fun _ => False) none [] := ⟨Rd.nil _ _ _, (fun x hx => by cases hx), fun _ h => h.elim⟩
theorem filesOf_len (s : St) : s.filesOf.length = s.now.length := by simp [St.filesOf, St.told]
theorem filesOf_le {s : St} (h : Wf s) : s.filesOf.length ≤ 1000000000000 := by have := h.nlen; rw [filesOf_len]; omega
theorem image_le {s : St} (h : Wf s) (dir : Int) (ks : List Int) : (s.image dir ks).length ≤ 1000000000000 := by have := rest_len h dir; rw [image_len]; omega

set_option maxRecDepth 100000 in
set_option maxHeartbeats 8000000 in
theorem diskNews_walk {w : World} (room : Int) (hr63 : room < 9223372036854775808) {S : Nat → Prop} {A : Option Addr} {c : Nat} {l : List FI} {fa : List (Option Addr × Nat)} (ha : ArgF w S A l fa) (hl : l.length * 48 ≤ 140737488355328) :
    Calls Try.prog 3 #[.int .i64 room, .slice A l.length c] w fun e w' => e = .returned (.bool true) ∧ Keep No w w' := by
  have HA := Lib.hid ha
  have Hl := Lib.hid hl
  clear ha hl
  go_enter Try.func3, Try.ntmps3
  go_wp2_with fail
  refine (known_any w).mono ?_
  rintro e w1 ⟨rfl, hk1⟩
  have K1 := Lib.hid hk1
  have hsm : Calls Try.prog 9 #[.slice A l.length c, .slice none 0 0] w1 (SmallR w1 l []) := small_any (HA.out.keep hk1 fun _ _ h => h) (ArgS.nil w1) (by have := Hl.out; omega) (by simp) c 0
  have Hsm := Lib.hid hsm
  clear hk1 hsm
  go_wp2_with fail
  refine Hsm.out.mono ?_
  rintro e w2 ⟨⟨b, rfl, _⟩, m, rfl⟩
  have K2 := Lib.hid (K1.out.drewN m)
  clear K1 Hsm
  cases b with
  | false =>
    go_wp2_with fail
    go_ret
    exact ⟨rfl, K2.out⟩
  | true =>
    have hbg := beginP_any (c := c) room hr63 (HA.out.keep K2.out fun _ _ h => h) Hl.out
    have Hbg := Lib.hid hbg
    clear hbg
    go_wp2_with fail
    refine Hbg.out.mono ?_
    rintro e w3 (⟨_, rfl, hk3⟩ | ⟨hyes, P, D, E, L, M, rfl, hP, hk3, _⟩)
    · have K3 := Lib.hid (K2.out.trans' hk3)
      clear hk3
      go_wp2_with fail
      go_ret
      exact ⟨rfl, K3.out⟩
    · have hG : Good (St.mkI room l) 0 := Good.mkI hyes hr63 0
      have K3 := Lib.hid (K2.out.trans' hk3)
      have hdn : Hid ((St.mkI room l).down = false) := rfl
      generalize St.mkI room l = s at *
      have hcells : Hid (∀ W, Keep No w3 W → (W.cell? ⟨P, 0, none⟩ = some (.pointer (some ⟨D, 0, none⟩)) ∧ W.cell? ⟨P, 1, none⟩ = some (.pointer (some ⟨E, 0, none⟩)))) := fun W hW =>
        ⟨(cell_blk (hP.keepNo hW).blk 0).trans rfl, (cell_blk (hP.keepNo hW).blk 1).trans rfl⟩
      have hf1 : Hid (∀ W, Keep No w3 W → Calls Try.prog 12 #[.pointer (some ⟨D, 0, none⟩)] W (ToldR W s.filesOf)) := fun W hW => files_any (hP.keepNo hW).d hG
      have hf2 : Hid (∀ W, Keep No w3 W → Calls Try.prog 13 #[.pointer (some ⟨E, 0, none⟩)] W (ToldR W s.filesOf)) := fun W hW => filesR_any (hP.keepNo hW).r hG.wf
      have hi1 : Hid (∀ W, Keep No w3 W → Calls Try.prog 14 #[.pointer (some ⟨D, 0, none⟩), .int .i64 0, .slice none 0 0] W (ToldR W (s.image 0 []))) := fun W hW =>
        image_any (S := fun _ => False) (B := none) (ks := []) (cb := 0) (hP.keepNo hW).d hG (by omega) 0 (Rd.nil _ _ _) (fun _ h => h.elim) (by simp)
      have hi2 : Hid (∀ W, Keep No w3 W → Calls Try.prog 15 #[.pointer (some ⟨E, 0, none⟩), .int .i64 0, .slice none 0 0] W (ToldR W (s.image 0 []))) := fun W hW =>
        imageR_any (S := fun _ => False) (B := none) (ks := []) (cb := 0) (hP.keepNo hW).r hG.wf (Nat.le_trans hG.ch (by omega)) 0 (Rd.nil _ _ _) (fun _ h => h.elim) (by simp)
      have hd : Hid (∀ W, Keep No w3 W → Calls Try.prog 16 #[.pointer (some ⟨D, 0, none⟩)] W fun e w' => e = .returned (.bool false) ∧ W = w') := fun W hW =>
        down_any (by
          have h : W.cell? ⟨D, 8, none⟩ = some (.bool s.down) := (hP.keepNo hW).d.cell 8 rfl
          rw [hdn.out] at h
          exact h)
      have HG := Lib.hid hG
      clear hk3 hP hG hyes K2 Hbg
      go_wp2_with fail
      refine wp_region_T (Keep No w3) [(0, true), (1, true), (2, true), (3, true), (5, true), (6, true), (7, true), (8, true), (4, false), (9, false), (10, false), (11, true), (12, true), (13, true), (14, true), (15, true), (17, true), (18, true), (19, true), (20, true), (16, false), (21, false), (22, false), (23, true), (24, true), (25, true), (26, true), (27, true), (28, true), (29, false), (30, true), (31, true), (32, false)] (by kernel_rfl) (by kernel_rfl) (Keep.refl _ _).drew ?_
      iterate 8
        (apply T_read rfl (by rfl)
         (· (intro W hW; have hc := hcells.out W hW; go_simp; try with_reducible rfl))
         (try simp only [Act.put, List.getElem_toArray, List.getElem_cons_succ, List.getElem_cons_zero, List.setIfInBounds_toArray, List.set_cons_zero, List.set_cons_succ]))
      refine T_do rfl (by rfl) (fun K hK => ?_)
      go_simp
      refine (hf1.out _ (Keep.refl No w3).drew).mono ?_
      rintro e w4 ⟨A4, c4, ds4, rfl, hT4, hk4, _⟩
      have k4 : Keep No w3 w4 := (Keep.refl No w3).drew.trans' hk4
      refine hK _ _ (fun _ => k4) ?_
      refine T_do rfl (by rfl) (fun K hK => ?_)
      go_simp
      refine (hf2.out _ k4).mono ?_
      rintro e w5 ⟨A5, c5, ds5, rfl, hT5, hk5, _⟩
      have k5 : Keep No w3 w5 := k4.trans' hk5
      have hT45 := hT4.keep hk5 fun _ _ h => h
      refine hK _ _ (fun _ => k5) ?_
      refine T_do rfl (by rfl) (fun K hK => ?_)
      go_simp
      refine (sameTold hT45 hT5 (filesOf_le HG.out.wf)).mono ?_
      rintro e w6 ⟨rfl, m6, rfl⟩
      have k6 : Keep No w3 (w5.drewN m6) := k5.drewN m6
      refine hK _ _ (fun _ => k6) ?_
      clear hT4 hT5 hT45 hk4 hk5 k4 k5
      generalize w5.drewN m6 = w6 at *
      iterate 9
        (apply T_read rfl (by rfl)
         (· (intro W hW; have hc := hcells.out W hW; go_simp; try with_reducible rfl))
         (try simp only [Act.put, List.getElem_toArray, List.getElem_cons_succ, List.getElem_cons_zero, List.setIfInBounds_toArray, List.set_cons_zero, List.set_cons_succ]))
      refine T_do rfl (by rfl) (fun K hK => ?_)
      go_simp
      refine (hi1.out _ k6).mono ?_
      rintro e w7 ⟨A7, c7, ds7, rfl, hT7, hk7, _⟩
      have k7 : Keep No w3 w7 := k6.trans' hk7
      refine hK _ _ (fun _ => k7) ?_
      refine T_do rfl (by rfl) (fun K hK => ?_)
      go_simp
      refine (hi2.out _ k7).mono ?_
      rintro e w8 ⟨A8, c8, ds8, rfl, hT8, hk8, _⟩
      have k8 : Keep No w3 w8 := k7.trans' hk8
      have hT78 := hT7.keep hk8 fun _ _ h => h
      refine hK _ _ (fun _ => k8) ?_
      refine T_do rfl (by rfl) (fun K hK => ?_)
      go_simp
      refine (sameTold hT78 hT8 (image_le HG.out.wf 0 [])).mono ?_
      rintro e w9 ⟨rfl, m9, rfl⟩
      have k9 : Keep No w3 (w8.drewN m9) := k8.drewN m9
      refine hK _ _ (fun _ => k9) ?_
      clear hT7 hT8 hT78 hk7 hk8 k7 k8
      generalize w8.drewN m9 = w9 at *
      iterate 6
        (apply T_read rfl (by rfl)
         (· (intro W hW; have hc := hcells.out W hW; go_simp; try with_reducible rfl))
         (try simp only [Act.put, List.getElem_toArray, List.getElem_cons_succ, List.getElem_cons_zero, List.setIfInBounds_toArray, List.set_cons_zero, List.set_cons_succ]))
      refine T_do rfl (by rfl) (fun K hK => ?_)
      go_simp
      refine (hd.out _ k9).mono ?_
      rintro e w10 ⟨rfl, rfl⟩
      refine hK _ _ (fun _ => k9) ?_
      iterate 2
        (apply T_read rfl (by rfl)
         (· (intro W hW; have hc := hcells.out W hW; go_simp; try with_reducible rfl))
         (try simp only [Act.put, List.getElem_toArray, List.getElem_cons_succ, List.getElem_cons_zero, List.setIfInBounds_toArray, List.set_cons_zero, List.set_cons_succ]))
      refine T_do rfl (by rfl) (fun K hK => ?_)
      go_simp
      refine hK _ _ (fun h => absurd rfl h) (T_end ?_)
      go_wp2_with fail
      go_ret
      exact ⟨rfl, K3.out.trans' k9⟩

end Go.Dx
