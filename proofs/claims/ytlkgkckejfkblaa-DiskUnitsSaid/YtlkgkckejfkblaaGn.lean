/- A region that draws its order, walked by a plan that may fork where two operations may come next. Over any program. No condition. DiskLooks: the walk. No condition. -/
import Derived.Test.YtlkgkckejfkblaaGa
import Derived.Test.YtlkgkckejfkblaaGm
namespace Go.Dx
open Go.RowKit

inductive Plan where
  | fin
  | rd (i : Nat) (p : Plan)
  | wr (i : Nat) (p : Plan)
  | fork (i j : Nat) (p q : Plan)
def Plan.isFin : Plan → Bool
  | .fin => true
  | _ => false
def Plan.depth : Plan → Nat
  | .fin => 0
  | .rd _ p => p.depth + 1
  | .wr _ p => p.depth + 1
  | .fork _ _ p q => max p.depth q.depth + 1

section
variable {P : Program} {ops : Array Oper} {Q : Exit → Act → World → Prop} {S : World → Prop}

def okPl (ops : Array Oper) : Plan → Array Bool → Bool
  | .fin, listed => (Region.ready .any ops listed).isEmpty
  | .rd i r, listed => (Region.ready .any ops listed).contains i && Region.free .any ops listed i && i + 1 != ops.size && okPl ops r (listed.setIfInBounds i true)
  | .wr i r, listed => (Region.ready .any ops listed == [i]) && (!r.isFin || i + 1 == ops.size) && okPl ops r (listed.setIfInBounds i true)
  | .fork i j p q, listed => (Region.ready .any ops listed == [i, j]) && !p.isFin && !q.isFin && okPl ops p (listed.setIfInBounds i true) && okPl ops q (listed.setIfInBounds j true)
def oneF (P : Program) (ops : Array Oper) (Q : Exit → Act → World → Prop) (S : World → Prop) (i : Nat) (fin : Bool) (R : Act → World → Prop) (a : Act) (w : World) : Prop :=
  ∃ o, ops[i]? = some o ∧ (if Region.wanted o (yielded ops a.tmps) then o.wp P a w (fun a' w' => (fin = false → S w') ∧ R a' w') Q else R (a.put o.dst undef) w)
def runF (P : Program) (ops : Array Oper) (Q : Exit → Act → World → Prop) (S : World → Prop) : Plan → Act → World → Prop
  | .fin, a, w => Q .normal a w
  | .rd i r, a, w => ∃ o v, ops[i]? = some o ∧ YieldsIf P ops S o v a ∧ runF P ops Q S r (a.put o.dst v) w
  | .wr i r, a, w => oneF P ops Q S i r.isFin (runF P ops Q S r) a w
  | .fork i j p q, a, w => oneF P ops Q S i p.isFin (runF P ops Q S p) a w ∧ oneF P ops Q S j q.isFin (runF P ops Q S q) a w

theorem F_one {i n : Nat} {r : Plan} {listed : Array Bool} {a : Act} {w : World} (_ : i ∈ Region.ready .any ops listed) (_ : Closed ops listed) (h4 : okPl ops r (listed.setIfInBounds i true) = true) (h5 : r.isFin = false ∨ i + 1 = ops.size)
    (hf : r.depth ≤ n) (hS : S w) (ih : ∀ a w, S w → runF P ops Q S r a w → wpT P ops Q S n (listed.setIfInBounds i true) a w) (h : oneF P ops Q S i r.isFin (runF P ops Q S r) a w) :
    wpOp P ops Q i (fun a' w' => (i + 1 ≠ ops.size → S w') ∧ wpT P ops Q S n (listed.setIfInBounds i true) a' w') a w := by
  obtain ⟨o, ho, hr⟩ := h
  unfold wpOp
  simp only [ho]
  split
  · rename_i hw
    rw [if_pos hw] at hr
    refine .inl (Oper.wp_mono (fun a' w' h' => ?_) hr)
    cases r with
    | fin =>
      refine ⟨fun hne => absurd (h5.resolve_left (by simp [Plan.isFin])) hne, ?_⟩
      simp only [okPl, List.isEmpty_iff] at h4
      cases n with
      | zero => exact ⟨h4, h'.2⟩
      | succ n => exact ⟨fun _ => h'.2, by rw [h4]; simp⟩
    | rd j p => exact ⟨fun _ => h'.1 rfl, ih _ _ (h'.1 rfl) h'.2⟩
    | wr j p => exact ⟨fun _ => h'.1 rfl, ih _ _ (h'.1 rfl) h'.2⟩
    | fork j k p q => exact ⟨fun _ => h'.1 rfl, ih _ _ (h'.1 rfl) h'.2⟩
  · rename_i hw
    rw [if_neg hw] at hr
    exact ⟨fun _ => hS, ih _ _ hS hr⟩

theorem F_of_run (hl : lastB ops = true) (hs : Region.noSelect ops = true) (hQ : ∀ c a d v w, Q (.panic c) (Act.put a d v) w → Q (.panic c) a w) :
    ∀ (l : Plan) (fuel : Nat) (listed : Array Bool) (a : Act) (w : World), Closed ops listed → okPl ops l listed = true → l.depth ≤ fuel → S w → runF P ops Q S l a w → wpT P ops Q S fuel listed a w
  | .fin, fuel, listed, a, w, _, hok, _, _, h => by
    simp only [okPl, List.isEmpty_iff] at hok
    cases fuel with
    | zero => exact ⟨hok, h⟩
    | succ n => exact ⟨fun _ => h, by rw [hok]; simp⟩
  | .rd i r, fuel, listed, a, w, hc, hok, hf, hS, h => by
    simp only [okPl, Bool.and_eq_true, bne_iff_ne, ne_eq] at hok
    obtain ⟨⟨⟨h1, h2⟩, h3⟩, h4⟩ := hok
    obtain ⟨o, v, ho, hy, hr⟩ := h
    cases fuel with
    | zero => simp [Plan.depth] at hf
    | succ n =>
      refine T_first hl ho h3 (Region.noSelect_spec hs) (fun c a w => hQ c a _ v w) n listed a w hc (Region.free_spec ho h2) (by simpa using h1) hy hS ?_
      exact F_of_run hl hs hQ r n _ _ _ (hc.set (by simpa using h1)) h4 (by simpa [Plan.depth] using hf) hS hr
  | .wr i r, fuel, listed, a, w, hc, hok, hf, hS, h => by
    simp only [okPl, Bool.and_eq_true, beq_iff_eq, Bool.or_eq_true, Bool.not_eq_true'] at hok
    obtain ⟨⟨h1, h5⟩, h4⟩ := hok
    cases fuel with
    | zero => simp [Plan.depth] at hf
    | succ n =>
      have hf' : r.depth ≤ n := by simpa [Plan.depth] using hf
      refine ⟨fun h => (by rw [h1] at h; cases h), fun j hj => ?_⟩
      have hj' := hj
      rw [h1] at hj'
      obtain rfl : j = i := by simpa using hj'
      exact F_one hj hc h4 h5 hf' hS (fun a w hS hr => F_of_run hl hs hQ r n _ _ _ (hc.set hj) h4 hf' hS hr) h
  | .fork i j p q, fuel, listed, a, w, hc, hok, hf, hS, h => by
    simp only [okPl, Bool.and_eq_true, beq_iff_eq, Bool.not_eq_true'] at hok
    obtain ⟨⟨⟨⟨h1, h5⟩, h6⟩, h4⟩, h7⟩ := hok
    cases fuel with
    | zero => simp [Plan.depth] at hf
    | succ n =>
      have hf1 : p.depth ≤ n := by simp only [Plan.depth] at hf; omega
      have hf2 : q.depth ≤ n := by simp only [Plan.depth] at hf; omega
      refine ⟨fun h => (by rw [h1] at h; cases h), fun k hk => ?_⟩
      have hk' := hk
      rw [h1] at hk'
      rcases List.mem_cons.1 hk' with e | hk'
      · subst e
        exact F_one hk hc h4 (.inl h5) hf1 hS (fun a w hS hr => F_of_run hl hs hQ p n _ _ _ (hc.set hk) h4 hf1 hS hr) h.1
      · obtain rfl : k = j := by simpa using hk'
        exact F_one hk hc h7 (.inl h6) hf2 hS (fun a w hS hr => F_of_run hl hs hQ q n _ _ _ (hc.set hk) h7 hf2 hS hr) h.2

theorem wp_region_F (S : World → Prop) (l : Plan) {id : Nat} {a : Act} {w : World} (hm : P.follows .mixedOrders = true) (hl : (lastB ops && Region.noSelect ops && okPl ops l (Array.replicate ops.size false) && decide (l.depth ≤ ops.size)) = true)
    (hS : S w.drew) (h : runF P ops (NoPanic Q) S l a w.drew) : (Code.region id ops true).wp P Q a w := by
  simp only [Bool.and_eq_true, decide_eq_true_eq] at hl
  exact wp_region_noPanic (wp_region_any hm (any_of_T _ _ _ _ (F_of_run hl.1.1.1 hl.1.1.2 (fun _ _ _ _ _ h => h) l _ _ _ _ (Closed.start _ _) hl.1.2 hl.2 hS h)))

variable {p q : Plan} {a : Act} {w : World} {o : Oper} {i : Nat}
theorem F_read {v : Value} (ho : ops[i]? = some o) (hw : Region.wanted o (yielded ops a.tmps) = true) (hv : ∀ W, S W → (execOp a.eval o).run P W = .ok (.value v) W) (h : runF P ops Q S p (a.put o.dst v) w) : runF P ops Q S (.rd i p) a w :=
  ⟨o, v, ho, .inl ⟨hw, hv⟩, h⟩
theorem F_one' {fin : Bool} {R : Act → World → Prop} (ho : ops[i]? = some o) (hw : Region.wanted o (yielded ops a.tmps) = true) (h : ∀ K : Act → World → Prop, (∀ a' w', (fin = false → S w') → R a' w' → K a' w') → o.wp P a w K Q) : oneF P ops Q S i fin R a w :=
  ⟨o, ho, by rw [if_pos hw]; exact h _ fun _ _ h1 h2 => ⟨h1, h2⟩⟩
theorem F_do (ho : ops[i]? = some o) (hw : Region.wanted o (yielded ops a.tmps) = true) (h : ∀ K : Act → World → Prop, (∀ a' w', (p.isFin = false → S w') → runF P ops Q S p a' w' → K a' w') → o.wp P a w K Q) : runF P ops Q S (.wr i p) a w :=
  F_one' ho hw h
theorem F_fork {j : Nat} {oj : Oper} (hi : ops[i]? = some o) (hwi : Region.wanted o (yielded ops a.tmps) = true) (hj : ops[j]? = some oj) (hwj : Region.wanted oj (yielded ops a.tmps) = true)
    (h1 : ∀ K : Act → World → Prop, (∀ a' w', (p.isFin = false → S w') → runF P ops Q S p a' w' → K a' w') → o.wp P a w K Q) (h2 : ∀ K : Act → World → Prop, (∀ a' w', (q.isFin = false → S w') → runF P ops Q S q a' w' → K a' w') → oj.wp P a w K Q) : runF P ops Q S (.fork i j p q) a w :=
  ⟨F_one' hi hwi h1, F_one' hj hwj h2⟩
theorem F_end (h : Q .normal a w) : runF P ops (NoPanic Q) S .fin a w := h
end
end Go.Dx

namespace Go.Dx
open Go.RowKit Go.Proofs

set_option maxRecDepth 100000 in
set_option maxHeartbeats 32000000 in
theorem diskLooks_walk {w : World} (room : Int) (hr63 : room < 9223372036854775808) {S : Nat → Prop} {A : Option Addr} {c : Nat} {l : List FI} {fa : List (Option Addr × Nat)} (ha : ArgF w S A l fa) (hl : l.length * 48 ≤ 140737488355328)
    {B : Option Addr} {co : Nat} {ops : List OpE} (ho : ArgS w (fun k => k < w.heap.size) B ops) (hol : ops.length ≤ 1000000000000000) :
    Calls Try.prog 5 #[.int .i64 room, .slice A l.length c, .slice B ops.length co] w fun e w' => e = .returned (.bool true) ∧ Keep No w w' := by
  have HA := Lib.hid ha
  have HO := Lib.hid ho
  have Hl := Lib.hid hl
  clear ha ho hl
  go_enter Try.func5, Try.ntmps5
  go_wp2_with fail
  refine (known_any w).mono ?_
  rintro e w1 ⟨rfl, hk1⟩
  have K1 := Lib.hid hk1
  have hsm := small_any (c := c) (d := co) (HA.out.keep hk1 fun _ _ h => h) (HO.out.keepF hk1 fun _ _ h => h) (by have := Hl.out; omega) hol
  have Hsm := Lib.hid hsm
  clear hk1 hsm
  go_wp2_with fail
  refine Hsm.out.mono ?_
  rintro e w2 ⟨⟨b, rfl, _⟩, m, rfl⟩
  have K2 := Lib.hid (K1.out.drewN m)
  clear K1 Hsm
  cases b with
  | false =>
    go_wp2_with fail
    go_ret
    exact ⟨rfl, K2.out⟩
  | true =>
    by_cases hlim : 80 < ops.length
    · have hlim' : (80 : Int) < ops.length := by omega
      go_wp2_with fail
      go_ret
      exact ⟨rfl, K2.out⟩
    · have hlim' : (ops.length : Int) ≤ 80 := by omega
      have hbg := beginP_any (c := c) room hr63 (HA.out.keep K2.out fun _ _ h => h) Hl.out
      have Hbg := Lib.hid hbg
      clear hbg
      go_wp2_with fail
      refine Hbg.out.mono ?_
      rintro e w3 (⟨_, rfl, hk3⟩ | ⟨hyes, P, D, E, L, M, rfl, hP, hk3, hn3⟩)
      · have K3 := Lib.hid (K2.out.trans' hk3)
        clear hk3
        go_wp2_with fail
        go_ret
        exact ⟨rfl, K3.out⟩
      · have hrun := Trip.start K2.out hyes hr63 hP hk3 hn3
        generalize St.mkI room l = s at *
        have HR0 := Lib.hid hrun
        clear hk3 hP hn3 hyes hrun Hbg
        go_wp2_with fail
        go_loopw [10] (fun i wr => ∃ (j : Nat) (s t : St) (L : PL) (M : RL), j ≤ ops.length ∧ i = .int .i64 j ∧ Hid (Trip w wr P D E s t L M j)) (fun i _ => ops.length - (RowKit.intOf i).toNat)
        case atStart => exact ⟨0, s, s, L, M, Nat.zero_le _, rfl, HR0⟩
        case round =>
          clear HR0 K2
          obtain ⟨j, s, t, L, M, hj, rfl, hR⟩ := hrel
          by_cases hlt : j < ops.length
          · have hlt' : (j : Int) < ops.length := by omega
            obtain ⟨x, hx⟩ : ∃ x, ops[j]? = some x := ⟨_, List.getElem?_eq_getElem hlt⟩
            have hOr := HO.out.keepF hR.out.k fun _ _ h => h
            obtain ⟨bo, oo, rfl, hSb, hcx⟩ := hOr.at hx
            have hax := HO.out.each x (List.mem_of_getElem? hx)
            have Hax := Lib.hid hax
            have hgs : SimG (stepP s x.1) (stepR t x.1) (j + 1) := hR.out.g.step x.1 hax.wa.2 hax.wb.2 hax.wc.2
            have Hgs := Lib.hid hgs
            have hcells : Hid (∀ W, (blkP P D E W ∧ Keep No w W) → (W.cell? ⟨P, 0, none⟩ = some (.pointer (some ⟨D, 0, none⟩)) ∧ W.cell? ⟨P, 1, none⟩ = some (.pointer (some ⟨E, 0, none⟩)) ∧ W.cell? ⟨bo, oo + j * 8, none⟩ = some (.int .i64 x.1.kind) ∧ W.cell? ⟨bo, oo + j * 8 + 1, none⟩ = some (.string x.1.name) ∧ W.cell? ⟨bo, oo + j * 8 + 2, none⟩ = some (.string x.1.to) ∧ W.cell? ⟨bo, oo + j * 8 + 3, none⟩ = some (.slice x.2.1.1 x.1.data.length x.2.1.2) ∧
                W.cell? ⟨bo, oo + j * 8 + 4, none⟩ = some (.int .i64 x.1.a) ∧ W.cell? ⟨bo, oo + j * 8 + 5, none⟩ = some (.int .i64 x.1.b) ∧ W.cell? ⟨bo, oo + j * 8 + 6, none⟩ = some (.int .i64 x.1.c) ∧ W.cell? ⟨bo, oo + j * 8 + 7, none⟩ = some (.slice x.2.2.1 x.1.keep.length x.2.2.2))) := by
              intro W hW
              obtain ⟨b2, o2, e2, _, hc2⟩ := (HO.out.keepF hW.2 fun _ _ h => h).at hx
              cases e2
              exact ⟨hW.1.c0, hW.1.c1, hc2 0 (by omega), hc2 1 (by omega), hc2 2 (by omega), hc2 3 (by omega), hc2 4 (by omega), hc2 5 (by omega), hc2 6 (by omega), hc2 7 (by omega)⟩
            have hdo : Calls Try.prog 31 #[.pointer (some ⟨P, 0, none⟩), .agg #[.int .i64 x.1.kind, .string x.1.name, .string x.1.to, .slice x.2.1.1 x.1.data.length x.2.1.2, .int .i64 x.1.a, .int .i64 x.1.b, .int .i64 x.1.c, .slice x.2.2.1 x.1.keep.length x.2.2.2]] wr.drew fun e w' => e = .returned (.bool true) ∧ ∃ L' M', Trip w w' P D E (stepP s x.1) (stepR t x.1) L' M' (j + 1) :=
              hR.out.cDoes (by omega) (Keep.refl No wr).drew hax
            have Hdo := Lib.hid hdo
            have hb0 := hR.out.blk (Keep.refl No wr).drew
            have Hb0 := Lib.hid hb0
            clear hx hOr hcx hax hgs hdo hb0
            generalize stepP s x.1 = s1 at *
            generalize stepR t x.1 = t1 at *
            go_wp2_with fail
            refine wp_region_T (fun W => blkP P D E W ∧ Keep No w W) [(0, true), (1, true), (2, true), (3, true), (4, true), (5, false), (6, true), (7, true), (8, true), (9, true), (10, true), (11, true), (13, true), (14, true), (15, true), (16, true), (12, false), (17, false), (18, false), (19, true), (20, true), (21, true), (22, true), (23, true), (24, true), (25, true), (27, true), (28, true), (29, true), (30, true), (26, false), (31, false), (32, true), (33, false)] (by kernel_rfl) (by kernel_rfl) ⟨Hb0.out, hR.out.k.drew⟩ ?_
            iterate 5
              (apply T_read rfl (by rfl)
               (· (intro W hW; have hc := hcells.out W hW; go_simp; try with_reducible rfl))
               (try simp only [Act.put, List.getElem_toArray, List.getElem_cons_succ, List.getElem_cons_zero, List.setIfInBounds_toArray, List.set_cons_zero, List.set_cons_succ]))
            refine T_do rfl (by rfl) (fun K hK => ?_)
            go_simp
            refine Hdo.out.mono ?_
            rintro e wo ⟨rfl, L1, M1, hrun⟩
            have HR1 := Lib.hid hrun
            have hS : ∀ W, Keep No wo W → (blkP P D E W ∧ Keep No w W) := fun W hW => ⟨HR1.out.blk hW, HR1.out.k.trans' hW⟩
            clear hrun Hdo hR Hb0
            refine hK _ _ (fun _ => hS _ (Keep.refl No wo)) ?_
            iterate 2
              (apply T_read rfl (by rfl)
               (· (intro W hW; have hc := hcells.out W hW; go_simp; try with_reducible rfl))
               (try simp only [Act.put, List.getElem_toArray, List.getElem_cons_succ, List.getElem_cons_zero, List.setIfInBounds_toArray, List.set_cons_zero, List.set_cons_succ]))
            iterate 8
              (apply T_read rfl (by rfl)
               (· (intro W hW; have hc := hcells.out W hW; go_simp; try with_reducible rfl))
               (try simp only [Act.put, List.getElem_toArray, List.getElem_cons_succ, List.getElem_cons_zero, List.setIfInBounds_toArray, List.set_cons_zero, List.set_cons_succ]))
            refine T_do rfl (by rfl) (fun K hK => ?_)
            go_simp
            refine (HR1.out.cFiles (Keep.refl No wo)).mono ?_
            rintro e w11 ⟨A11, c11, ds11, rfl, hT11, hk11, _⟩
            have k11 : Keep No wo w11 := (Keep.refl No wo).trans' hk11
            refine hK _ _ (fun _ => hS _ k11) ?_
            refine T_do rfl (by rfl) (fun K hK => ?_)
            go_simp
            refine (HR1.out.cFilesR (k11)).mono ?_
            rintro e w12 ⟨A12, c12, ds12, rfl, hT12, hk12, _⟩
            have k12 : Keep No wo w12 := (k11).trans' hk12
            refine hK _ _ (fun _ => hS _ k12) ?_
            refine T_do rfl (by rfl) (fun K hK => ?_)
            go_simp
            refine (sameTold (hT11.keep hk12 fun _ _ h => h) hT12 (filesOf_le HR1.out.g.gs.wf)).mono ?_
            rintro e w13 ⟨rfl, m1, rfl⟩
            have k13 : Keep No wo (w12.drewN m1) := k12.drewN m1
            refine hK _ _ (fun _ => hS _ k13) ?_
            clear hT11 hT12 hk11 hk12 k11 k12
            generalize w12.drewN m1 = w13 at *
            iterate 3
              (apply T_read rfl (by rfl)
               (· (intro W hW; have hc := hcells.out W hW; go_simp; try with_reducible rfl))
               (try simp only [Act.put, List.getElem_toArray, List.getElem_cons_succ, List.getElem_cons_zero, List.setIfInBounds_toArray, List.set_cons_zero, List.set_cons_succ]))
            iterate 8
              (apply T_read rfl (by rfl)
               (· (intro W hW; have hc := hcells.out W hW; go_simp; try with_reducible rfl))
               (try simp only [Act.put, List.getElem_toArray, List.getElem_cons_succ, List.getElem_cons_zero, List.setIfInBounds_toArray, List.set_cons_zero, List.set_cons_succ]))
            refine T_do rfl (by rfl) (fun K hK => ?_)
            go_simp
            refine (HR1.out.cDown k13).mono ?_
            rintro e w14 ⟨rfl, rfl⟩
            refine hK _ _ (fun _ => hS _ k13) ?_
            refine T_do rfl (by rfl) (fun K hK => ?_)
            go_simp
            refine (HR1.out.cFell k13).mono ?_
            rintro e w14 ⟨rfl, rfl⟩
            refine hK _ _ (fun _ => hS _ k13) ?_
            iterate 1
              (apply T_read rfl (by rfl)
               (· (intro W hW; have hc := hcells.out W hW; go_simp; try with_reducible rfl))
               (try simp only [Act.put, List.getElem_toArray, List.getElem_cons_succ, List.getElem_cons_zero, List.setIfInBounds_toArray, List.set_cons_zero, List.set_cons_succ]))
            refine T_do rfl (by rfl) (fun K hK => ?_)
            go_simp
            refine hK _ _ (fun h => absurd rfl h) (T_end ?_)
            have HRa := Lib.hid (HR1.out.keepNo k13)
            clear hS k13 HR1
            go_wp2_with fail
            obtain ⟨rj, hrj⟩ : ∃ rj : Nat, j % 3 = rj := ⟨_, rfl⟩
            have hem : (j : Int) % 3 = rj := by omega
            have htm : Int.tmod (j : Int) 3 = rj := by rw [Int.tmod_eq_emod_of_nonneg (by omega)]; omega
            have Hem := Lib.hid hem
            have Htm := Lib.hid htm
            clear hem htm
            go_loopw [11] (fun i wi => ∃ (d : Nat), d ≤ 4 ∧ i = .int .i64 d ∧ Hid (Trip w wi P D E s1 t1 L1 M1 (j + 1))) (fun i _ => 4 - (RowKit.intOf i).toNat)
            case atStart => exact ⟨0, by omega, rfl, HRa⟩
            case round =>
              clear HRa
              obtain ⟨d, hd, rfl, hI⟩ := hrel
              by_cases hdl : d < 4
              · have hdl' : (d : Int) < 4 := by omega
                have hem := Hem.out
                have htm := Htm.out
                have hka : Keep No wr (wr.alloc (.cells #[.int .i64 rj, .int .i64 d, .int .i64 1099511627776] 3)) := (Keep.refl No wr).alloc _
                have hnw : (wr.alloc (.cells #[.int .i64 rj, .int .i64 d, .int .i64 1099511627776] 3)).heap[wr.heap.size]? = some (.cells #[.int .i64 rj, .int .i64 d, .int .i64 1099511627776] 3 (0, 0)) := alloc_new wr _
                have hrk := hI.out.keepNo hka
                have Hrk := Lib.hid hrk
                have Hnw := Lib.hid hnw
                clear hka hnw hrk
                go_wp2_with fail
                generalize wr.alloc (.cells #[.int .i64 rj, .int .i64 d, .int .i64 1099511627776] 3) = wk at *
                have hrd : ∀ W, Keep No wk W → Rd W (fun k => k = wr.heap.size) (some ⟨wr.heap.size, 0, none⟩) (IV [(rj : Int), (d : Int), 1099511627776]) := fun W hW _ => ⟨wr.heap.size, 0, rfl, rfl, Run.of_blk ((hW.block _ (lt_blk Hnw.out) id).trans Hnw.out)⟩
                have hlt3 : ∀ W, Keep No wk W → ∀ k, k = wr.heap.size → k < W.heap.size := fun W hW k e => by have h1 := lt_blk Hnw.out; have h2 := hW.size; omega
                have hi1 : Hid (∀ W, Keep No wk W → Calls Try.prog 14 #[.pointer (some ⟨D, 0, none⟩), .int .i64 d, .slice (some ⟨wr.heap.size, 0, none⟩) 3 3] W (ToldR W (s1.image d [(rj : Int), (d : Int), 1099511627776]))) := fun W hW => Hrk.out.cImage (by omega) hW d 3 (hrd W hW) (hlt3 W hW) (by simp)
                have hi2 : Hid (∀ W, Keep No wk W → Calls Try.prog 15 #[.pointer (some ⟨E, 0, none⟩), .int .i64 d, .slice (some ⟨wr.heap.size, 0, none⟩) 3 3] W (ToldR W (s1.image d [(rj : Int), (d : Int), 1099511627776]))) := fun W hW => Hrk.out.cImageR (by omega) hW d 3 (hrd W hW) (hlt3 W hW) (by simp)
                have hil := Lib.hid (image_le Hrk.out.g.gs.wf d [(rj : Int), (d : Int), 1099511627776])
                generalize s1.image d [(rj : Int), (d : Int), 1099511627776] = il at *
                have hcells : Hid (∀ W, blkP P D E W → (W.cell? ⟨P, 0, none⟩ = some (.pointer (some ⟨D, 0, none⟩)) ∧ W.cell? ⟨P, 1, none⟩ = some (.pointer (some ⟨E, 0, none⟩)))) := fun W hW => ⟨hW.c0, hW.c1⟩
                have hS : ∀ W, Keep No wk W → blkP P D E W := fun W hW => Hrk.out.blk hW
                have Hrw := Lib.hid hrd
                clear hrd hlt3 Hnw Hrw
                refine wp_region_T (blkP P D E) [(0, true), (1, true), (2, true), (3, true), (4, true), (5, true), (7, true), (8, true), (9, true), (10, true), (11, true), (12, true), (6, false), (13, false), (14, false), (15, false)] (by kernel_rfl) (by kernel_rfl) (hS _ (Keep.refl No wk).drew) ?_
                iterate 12
                  (apply T_read rfl (by rfl)
                   (· (intro W hW; have hc := hcells.out W hW; go_simp; try with_reducible rfl))
                   (try simp only [Act.put, List.getElem_toArray, List.getElem_cons_succ, List.getElem_cons_zero, List.setIfInBounds_toArray, List.set_cons_zero, List.set_cons_succ]))
                refine T_do rfl (by rfl) (fun K hK => ?_)
                go_simp
                refine (hi1.out _ ((Keep.refl No wk).drew)).mono ?_
                rintro e w21 ⟨A21, c21, ds21, rfl, hT21, hk21, _⟩
                have k21 : Keep No wk w21 := ((Keep.refl No wk).drew).trans' hk21
                refine hK _ _ (fun _ => hS _ k21) ?_
                refine T_do rfl (by rfl) (fun K hK => ?_)
                go_simp
                refine (hi2.out _ (k21)).mono ?_
                rintro e w22 ⟨A22, c22, ds22, rfl, hT22, hk22, _⟩
                have k22 : Keep No wk w22 := (k21).trans' hk22
                refine hK _ _ (fun _ => hS _ k22) ?_
                refine T_do rfl (by rfl) (fun K hK => ?_)
                go_simp
                refine (sameTold (hT21.keep hk22 fun _ _ h => h) hT22 (hil.out)).mono ?_
                rintro e w23 ⟨rfl, m2, rfl⟩
                have k23 : Keep No wk (w22.drewN m2) := k22.drewN m2
                refine hK _ _ (fun _ => hS _ k23) ?_
                refine T_do rfl (by rfl) (fun K hK => ?_)
                go_simp
                refine hK _ _ (fun h => absurd rfl h) (T_end ?_)
                have HRb := Lib.hid (Hrk.out.keepNo k23)
                clear hT21 hT22 hk21 hk22 k21 k22 k23 hS Hrk
                go_wp2_with fail
                go_roundw
                case rel => exact ⟨d + 1, by omega, by go_num, HRb⟩
                case measure => simp [RowKit.intOf]; omega
              · obtain rfl : d = 4 := by omega
                go_wp2_with fail
                have hcells : Hid (∀ W, blkP P D E W → (W.cell? ⟨P, 0, none⟩ = some (.pointer (some ⟨D, 0, none⟩)) ∧ W.cell? ⟨P, 1, none⟩ = some (.pointer (some ⟨E, 0, none⟩)))) := fun W hW => ⟨hW.c0, hW.c1⟩
                have hS : ∀ W, Keep No wr W → blkP P D E W := fun W hW => hI.out.blk hW
                have hi1 : Hid (∀ W, Keep No wr W → Calls Try.prog 14 #[.pointer (some ⟨D, 0, none⟩), .int .i64 4611686018427387904, .slice none 0 0] W (ToldR W (s1.image 4611686018427387904 []))) := fun W hW => hI.out.cImage (S := fun _ => False) (by omega) hW _ 0 (Rd.nil _ _ _) (fun _ h => h.elim) (by simp)
                have hi2 : Hid (∀ W, Keep No wr W → Calls Try.prog 15 #[.pointer (some ⟨E, 0, none⟩), .int .i64 4611686018427387904, .slice none 0 0] W (ToldR W (s1.image 4611686018427387904 []))) := fun W hW => hI.out.cImageR (S := fun _ => False) (by omega) hW _ 0 (Rd.nil _ _ _) (fun _ h => h.elim) (by simp)
                have hil := Lib.hid (image_le hI.out.g.gs.wf 4611686018427387904 [])
                have hrd1 : ∀ (W0 W : World) (b : Nat), W0.heap[b]? = some (.cells #[.int .i64 (-1)] 3 (0, 0)) → Keep No W0 W → Rd W (fun k => k = b) (some ⟨b, 0, none⟩) (IV [(-1 : Int)]) := fun W0 W b h hW _ => ⟨b, 0, rfl, rfl, Run.of_blk ((hW.block _ (lt_blk h) id).trans h)⟩
                have hj1 : Hid (∀ (W0 W : World) (b : Nat), W0.heap[b]? = some (.cells #[.int .i64 (-1)] 3 (0, 0)) → Keep No W0 W → Keep No wr W → Calls Try.prog 14 #[.pointer (some ⟨D, 0, none⟩), .int .i64 (-1), .slice (some ⟨b, 0, none⟩) 1 1] W (ToldR W (s1.image (-1) [-1]))) := fun W0 W b h hW hk => hI.out.cImage (by omega) hk _ 1 (hrd1 W0 W b h hW) (fun k e => by have h1 := lt_blk h; have h2 := hW.size; omega) (by simp)
                have hj2 : Hid (∀ (W0 W : World) (b : Nat), W0.heap[b]? = some (.cells #[.int .i64 (-1)] 3 (0, 0)) → Keep No W0 W → Keep No wr W → Calls Try.prog 15 #[.pointer (some ⟨E, 0, none⟩), .int .i64 (-1), .slice (some ⟨b, 0, none⟩) 1 1] W (ToldR W (s1.image (-1) [-1]))) := fun W0 W b h hW hk => hI.out.cImageR (by omega) hk _ 1 (hrd1 W0 W b h hW) (fun k e => by have h1 := lt_blk h; have h2 := hW.size; omega) (by simp)
                have hjl := Lib.hid (image_le hI.out.g.gs.wf (-1) [-1])
                have HE : Hid (∀ W, Keep No wr W → Hid (Trip w W P D E s1 t1 L1 M1 (j + 1))) := fun W hW => hI.out.keepNo hW
                clear hrd1
                refine wp_region_F (blkP P D E) (.rd 0 (.rd 1 (.rd 2 (.rd 3 (.rd 5 (.rd 6 (.rd 7 (.rd 8 (.wr 4 (.wr 9 (.wr 10 (.rd 11 (.rd 12 (.rd 13 (.rd 14 (.rd 15 (.rd 16 (.rd 19 (.rd 20 (.rd 21 (.rd 22 (.fork 17 23 (.fork 18 23 (.wr 23 (.wr 24 (.wr 25 (.rd 26 (.wr 27 .fin))))) (.wr 18 (.wr 24 (.wr 25 (.rd 26 (.wr 27 .fin)))))) (.wr 17 (.wr 18 (.wr 24 (.wr 25 (.rd 26 (.wr 27 .fin)))))))))))))))))))))))))))) (by kernel_rfl) (by kernel_rfl) (hS _ (Keep.refl No wr).drew) ?_
                iterate 8
                  (apply F_read rfl (by rfl)
                   (· (intro W hW; have hc := hcells.out W hW; go_simp; try with_reducible rfl))
                   (try simp only [Act.put, List.getElem_toArray, List.getElem_cons_succ, List.getElem_cons_zero, List.setIfInBounds_toArray, List.set_cons_zero, List.set_cons_succ]))
                refine F_do rfl (by rfl) (fun K hK => ?_)
                go_simp
                refine (hi1.out _ ((Keep.refl No wr).drew)).mono ?_
                rintro e w31 ⟨A31, c31, ds31, rfl, hT31, hk31, _⟩
                have k31 : Keep No wr w31 := ((Keep.refl No wr).drew).trans' hk31
                refine hK _ _ (fun _ => hS _ k31) ?_
                refine F_do rfl (by rfl) (fun K hK => ?_)
                go_simp
                refine (hi2.out _ (k31)).mono ?_
                rintro e w32 ⟨A32, c32, ds32, rfl, hT32, hk32, _⟩
                have k32 : Keep No wr w32 := (k31).trans' hk32
                refine hK _ _ (fun _ => hS _ k32) ?_
                refine F_do rfl (by rfl) (fun K hK => ?_)
                go_simp
                refine (sameTold (hT31.keep hk32 fun _ _ h => h) hT32 (hil.out)).mono ?_
                rintro e w33 ⟨rfl, m3, rfl⟩
                have k33 : Keep No wr (w32.drewN m3) := k32.drewN m3
                refine hK _ _ (fun _ => hS _ k33) ?_
                clear hT31 hT32 hk31 hk32 k31 k32
                generalize w32.drewN m3 = w33 at *
                iterate 2
                  (apply F_read rfl (by rfl)
                   (· (intro W hW; have hc := hcells.out W hW; go_simp; try with_reducible rfl))
                   (try simp only [Act.put, List.getElem_toArray, List.getElem_cons_succ, List.getElem_cons_zero, List.setIfInBounds_toArray, List.set_cons_zero, List.set_cons_succ]))
                iterate 8
                  (apply F_read rfl (by rfl)
                   (· (intro W hW; have hc := hcells.out W hW; go_simp; try with_reducible rfl))
                   (try simp only [Act.put, List.getElem_toArray, List.getElem_cons_succ, List.getElem_cons_zero, List.setIfInBounds_toArray, List.set_cons_zero, List.set_cons_succ]))
                refine F_fork rfl (by rfl) rfl (by rfl) (fun K hK => ?_) (fun K hK => ?_)
                · go_simp
                  have kb : Keep No wr (w33.alloc (.cells #[.int .i64 (-1)] 3)) := k33.alloc _
                  have hb : (w33.alloc (.cells #[.int .i64 (-1)] 3)).heap[w33.heap.size]? = some (.cells #[.int .i64 (-1)] 3 (0, 0)) := alloc_new w33 _
                  refine hK _ _ (fun _ => hS _ kb) ?_
                  generalize hwb : w33.alloc (.cells #[.int .i64 (-1)] 3) = wb at *
                  clear hwb
                  refine F_fork rfl (by rfl) rfl (by rfl) (fun K hK => ?_) (fun K hK => ?_)
                  · go_simp
                    refine (hj1.out wb wb _ hb (Keep.refl No wb) kb).mono ?_
                    rintro e w41 ⟨A41, c41, ds41, rfl, hT41, hk41, _⟩
                    have k41 : Keep No wr w41 := (kb).trans' hk41
                    refine hK _ _ (fun _ => hS _ k41) ?_
                    refine F_do rfl (by rfl) (fun K hK => ?_)
                    go_simp
                    have hc : (w41.alloc (.cells #[.int .i64 (-1)] 3)).heap[w41.heap.size]? = some (.cells #[.int .i64 (-1)] 3 (0, 0)) := alloc_new w41 _
                    have kc : Keep No wr (w41.alloc (.cells #[.int .i64 (-1)] 3)) := k41.alloc _
                    have hT41 := hT41.keep ((Keep.refl No w41).alloc (.cells #[.int .i64 (-1)] 3)) fun _ _ h => h
                    refine hK _ _ (fun _ => hS _ kc) ?_
                    generalize hwc : w41.alloc (.cells #[.int .i64 (-1)] 3) = wc at *
                    clear hwc
                    refine F_do rfl (by rfl) (fun K hK => ?_)
                    go_simp
                    refine (hj2.out wc wc _ hc (Keep.refl No wc) kc).mono ?_
                    rintro e w42 ⟨A42, c42, ds42, rfl, hT42, hk42, _⟩
                    have k42 : Keep No wr w42 := (kc).trans' hk42
                    refine hK _ _ (fun _ => hS _ k42) ?_
                    refine F_do rfl (by rfl) (fun K hK => ?_)
                    go_simp
                    refine (sameTold (hT41.keep hk42 fun _ _ h => h) hT42 (hjl.out)).mono ?_
                    rintro e w43 ⟨rfl, m4, rfl⟩
                    have k43 : Keep No wr (w42.drewN m4) := k42.drewN m4
                    refine hK _ _ (fun _ => hS _ k43) ?_
                    iterate 1
                      (apply F_read rfl (by rfl)
                       (· (intro W hW; have hc := hcells.out W hW; go_simp; try with_reducible rfl))
                       (try simp only [Act.put, List.getElem_toArray, List.getElem_cons_succ, List.getElem_cons_zero, List.setIfInBounds_toArray, List.set_cons_zero, List.set_cons_succ]))
                    refine F_do rfl (by rfl) (fun K hK => ?_)
                    go_simp
                    refine hK _ _ (fun h => nomatch h) (F_end ?_)
                    have HRb := HE.out _ k43
                    clear hT41 hT42 hk41 hk42 k41 k42 k43 hS HE
                    go_wp2_with fail
                    go_roundw
                    case rel => exact ⟨j + 1, _, _, _, _, by omega, by go_num, HRb⟩
                    case measure => simp [RowKit.intOf]; omega
                  · go_simp
                    have kc : Keep No wr (wb.alloc (.cells #[.int .i64 (-1)] 3)) := kb.alloc _
                    have hc : (wb.alloc (.cells #[.int .i64 (-1)] 3)).heap[wb.heap.size]? = some (.cells #[.int .i64 (-1)] 3 (0, 0)) := alloc_new wb _
                    have kbc : Keep No wb (wb.alloc (.cells #[.int .i64 (-1)] 3)) := (Keep.refl No wb).alloc _
                    refine hK _ _ (fun _ => hS _ kc) ?_
                    generalize hwc : wb.alloc (.cells #[.int .i64 (-1)] 3) = wc at *
                    clear hwc
                    refine F_do rfl (by rfl) (fun K hK => ?_)
                    go_simp
                    refine (hj1.out wb wc _ hb kbc kc).mono ?_
                    rintro e w51 ⟨A51, c51, ds51, rfl, hT51, hk51, _⟩
                    have k51 : Keep No wr w51 := (kc).trans' hk51
                    refine hK _ _ (fun _ => hS _ k51) ?_
                    refine F_do rfl (by rfl) (fun K hK => ?_)
                    go_simp
                    refine (hj2.out wc _ _ hc hk51 k51).mono ?_
                    rintro e w52 ⟨A52, c52, ds52, rfl, hT52, hk52, _⟩
                    have k52 : Keep No wr w52 := (k51).trans' hk52
                    refine hK _ _ (fun _ => hS _ k52) ?_
                    refine F_do rfl (by rfl) (fun K hK => ?_)
                    go_simp
                    refine (sameTold (hT51.keep hk52 fun _ _ h => h) hT52 (hjl.out)).mono ?_
                    rintro e w53 ⟨rfl, m5, rfl⟩
                    have k53 : Keep No wr (w52.drewN m5) := k52.drewN m5
                    refine hK _ _ (fun _ => hS _ k53) ?_
                    iterate 1
                      (apply F_read rfl (by rfl)
                       (· (intro W hW; have hc := hcells.out W hW; go_simp; try with_reducible rfl))
                       (try simp only [Act.put, List.getElem_toArray, List.getElem_cons_succ, List.getElem_cons_zero, List.setIfInBounds_toArray, List.set_cons_zero, List.set_cons_succ]))
                    refine F_do rfl (by rfl) (fun K hK => ?_)
                    go_simp
                    refine hK _ _ (fun h => nomatch h) (F_end ?_)
                    have HRb := HE.out _ k53
                    clear hT51 hT52 hk51 hk52 k51 k52 k53 hS HE
                    go_wp2_with fail
                    go_roundw
                    case rel => exact ⟨j + 1, _, _, _, _, by omega, by go_num, HRb⟩
                    case measure => simp [RowKit.intOf]; omega
                · go_simp
                  have kb : Keep No wr (w33.alloc (.cells #[.int .i64 (-1)] 3)) := k33.alloc _
                  have hb : (w33.alloc (.cells #[.int .i64 (-1)] 3)).heap[w33.heap.size]? = some (.cells #[.int .i64 (-1)] 3 (0, 0)) := alloc_new w33 _
                  refine hK _ _ (fun _ => hS _ kb) ?_
                  generalize hwb : w33.alloc (.cells #[.int .i64 (-1)] 3) = wb at *
                  clear hwb
                  refine F_do rfl (by rfl) (fun K hK => ?_)
                  go_simp
                  have kc : Keep No wr (wb.alloc (.cells #[.int .i64 (-1)] 3)) := kb.alloc _
                  have hc : (wb.alloc (.cells #[.int .i64 (-1)] 3)).heap[wb.heap.size]? = some (.cells #[.int .i64 (-1)] 3 (0, 0)) := alloc_new wb _
                  have kbc : Keep No wb (wb.alloc (.cells #[.int .i64 (-1)] 3)) := (Keep.refl No wb).alloc _
                  refine hK _ _ (fun _ => hS _ kc) ?_
                  generalize hwc : wb.alloc (.cells #[.int .i64 (-1)] 3) = wc at *
                  clear hwc
                  refine F_do rfl (by rfl) (fun K hK => ?_)
                  go_simp
                  refine (hj1.out wc wc _ hc (Keep.refl No wc) kc).mono ?_
                  rintro e w61 ⟨A61, c61, ds61, rfl, hT61, hk61, _⟩
                  have k61 : Keep No wr w61 := (kc).trans' hk61
                  refine hK _ _ (fun _ => hS _ k61) ?_
                  refine F_do rfl (by rfl) (fun K hK => ?_)
                  go_simp
                  refine (hj2.out wb _ _ hb (kbc.trans' hk61) k61).mono ?_
                  rintro e w62 ⟨A62, c62, ds62, rfl, hT62, hk62, _⟩
                  have k62 : Keep No wr w62 := (k61).trans' hk62
                  refine hK _ _ (fun _ => hS _ k62) ?_
                  refine F_do rfl (by rfl) (fun K hK => ?_)
                  go_simp
                  refine (sameTold (hT61.keep hk62 fun _ _ h => h) hT62 (hjl.out)).mono ?_
                  rintro e w63 ⟨rfl, m6, rfl⟩
                  have k63 : Keep No wr (w62.drewN m6) := k62.drewN m6
                  refine hK _ _ (fun _ => hS _ k63) ?_
                  iterate 1
                    (apply F_read rfl (by rfl)
                     (· (intro W hW; have hc := hcells.out W hW; go_simp; try with_reducible rfl))
                     (try simp only [Act.put, List.getElem_toArray, List.getElem_cons_succ, List.getElem_cons_zero, List.setIfInBounds_toArray, List.set_cons_zero, List.set_cons_succ]))
                  refine F_do rfl (by rfl) (fun K hK => ?_)
                  go_simp
                  refine hK _ _ (fun h => nomatch h) (F_end ?_)
                  have HRb := HE.out _ k63
                  clear hT61 hT62 hk61 hk62 k61 k62 k63 hS HE
                  go_wp2_with fail
                  go_roundw
                  case rel => exact ⟨j + 1, _, _, _, _, by omega, by go_num, HRb⟩
                  case measure => simp [RowKit.intOf]; omega
          · obtain rfl : j = ops.length := by omega
            go_wp2_with fail
            go_ret
            exact ⟨rfl, hR.out.k⟩

end Go.Dx
