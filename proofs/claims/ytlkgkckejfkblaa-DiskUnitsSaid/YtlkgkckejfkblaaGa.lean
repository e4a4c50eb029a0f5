/- General words on worlds: what a call keeps, slices that are read, slices that are owned; append, over any program. No condition. The disk as plain data: names, directories, changes, and what each call does to them. No program in sight. No condition. Maps with keys of the kind string, over any program: 'MapP': block r is a map that holds just these names with these values. No condition. The disk as plain data: its state, and what each call does to it. No program in sight. No condition. The seat's own closed facts on types; bytes, files and steps as they are read; append at each type. No condition. Walks of the small functions: bytes and ints held against each other, names, rigs. No condition. How the program's disk lies in memory ('PDL'), and how it stays while others are written. No condition. A region that draws its order: what reads is taken first, under a condition S on the worlds; what writes comes up alone. The region's last operation, if it waits for all others, need not show S anew. Over any program. No condition. The program's disk: what refuses a call (begin). No condition. The program's disk: a file is written; names are looked up; Sync, Read. No condition. The program's disk: changes of the directory (lay, do), maps.Clone. No condition. The program's disk: do, Create, Delete, Rename, SyncDir. No condition. -/
import Derived.WalkKit
import Derived.WalkSpells
import Derived.WalkLawsBesides
import Derived.Deep.QuietTactic
import Derived.BigQuiet
import Derived.Deep.RegionHeld3
import Derived.Deep.AppendSrc
import Derived.Deep.Upon
import Derived.Deep.LoopGhost
import Derived.KernelRfl
import Derived.Lib.Hide
import Derived.Laws.Strings
import Derived.Laws.StructEq
import Derived.MapKept
import Derived.Laws.IdiomRangeMap
import Derived.Laws.Externs
import Derived.Test.YtlkgkckejfkblaaRows
import Derived.StillTail
import Derived.Shelf.SlMaps.Clone
namespace Go.Dx
open Go.RowKit

/-- Of what was there, all but the blocks of F is as it was; the streams are as they were. -/
structure Keep (F : Nat → Prop) (w w' : World) : Prop where
  os : w'.os = w.os
  tape : w'.tape = w.tape
  output : w'.output = w.output
  size : w.heap.size ≤ w'.heap.size
  block : ∀ k, k < w.heap.size → ¬ F k → w'.heap[k]? = w.heap[k]?

/-- What a call may have made: the blocks from the old size up to the new one. -/
def New (w w' : World) : Nat → Prop := fun k => w.heap.size ≤ k ∧ k < w'.heap.size
def Or2 (F G : Nat → Prop) : Nat → Prop := fun k => F k ∨ G k
def Grow (F : Nat → Prop) (w w' : World) : Nat → Prop := fun k => F k ∨ (w.heap.size ≤ k ∧ k < w'.heap.size)
def No : Nat → Prop := fun _ => False

section
variable {F G : Nat → Prop} {w w' w'' : World}
theorem Keep.refl (F : Nat → Prop) (w : World) : Keep F w w := ⟨rfl, rfl, rfl, Nat.le_refl _, fun _ _ _ => rfl⟩
theorem Keep.mono (h : Keep F w w') (hFG : ∀ k, k < w.heap.size → F k → G k) : Keep G w w' :=
  ⟨h.os, h.tape, h.output, h.size, fun k hk hG => h.block k hk fun hF => hG (hFG k hk hF)⟩
theorem Keep.trans (h : Keep F w w') (k : Keep G w' w'') (hG : ∀ i, i < w.heap.size → G i → F i) : Keep F w w'' :=
  ⟨k.os.trans h.os, k.tape.trans h.tape, k.output.trans h.output, Nat.le_trans h.size k.size,
   fun i hi hF => (k.block i (Nat.lt_of_lt_of_le hi h.size) fun g => hF (hG i hi g)).trans (h.block i hi hF)⟩
theorem Keep.trans' (h : Keep F w w') (k : Keep F w' w'') : Keep F w w'' := h.trans k fun _ _ h => h
/-- .. the second one over what the first has made, too. -/
theorem Keep.transG (h : Keep F w w') (k : Keep (Grow F w w') w' w'') : Keep F w w'' :=
  h.trans k fun i hi h => by
    rcases h with h | h
    · exact h
    · omega
theorem Keep.drew (h : Keep F w w') : Keep F w w'.drew := ⟨h.os, h.tape, h.output, h.size, h.block⟩
theorem Keep.drewN (h : Keep F w w') (n : Nat) : Keep F w (w'.drewN n) := ⟨h.os, h.tape, h.output, h.size, h.block⟩
theorem Keep.of_drew (h : Keep F w.drew w') : Keep F w w' := ⟨h.os, h.tape, h.output, h.size, h.block⟩
theorem Keep.of_drewN {n : Nat} (h : Keep F (w.drewN n) w') : Keep F w w' := ⟨h.os, h.tape, h.output, h.size, h.block⟩
theorem Keep.alloc (h : Keep F w w') (o : Obj) : Keep F w (w'.alloc o) :=
  h.trans' ⟨rfl, rfl, rfl, by simp, fun k hk _ => Below.heap_alloc _ _ _ hk⟩
theorem Keep.setCell (h : Keep F w w') {a : Addr} (ha : F a.block ∨ w.heap.size ≤ a.block) (v : Value) : Keep F w (w'.setCell a v) :=
  h.trans (G := fun k => k = a.block) ⟨rfl, rfl, rfl, by simp [World.setCell], fun k _ hk => Below.heap_setCell _ _ _ _ hk⟩ fun i hi e => by
    subst e
    rcases ha with ha | ha
    · exact ha
    · omega
theorem Keep.setAt (h : Keep F w w') {g : Nat} (hg : F g) (i : Nat) (v : Value) : Keep F w (w'.setCell ⟨g, i, none⟩ v) := h.setCell (a := ⟨g, i, none⟩) (.inl hg) v
theorem Keep.setNew (h : Keep F w w') {g : Nat} (hg : w.heap.size ≤ g) (i : Nat) (v : Value) : Keep F w (w'.setCell ⟨g, i, none⟩ v) := h.setCell (a := ⟨g, i, none⟩) (.inr hg) v
theorem Keep.setRow (h : Keep F w w') {g : Nat} (ha : F g ∨ w.heap.size ≤ g) (cs : Array Value) : Keep F w (w'.setRow g cs) :=
  h.trans (G := fun k => k = g) ⟨rfl, rfl, rfl, by simp [World.setRow], fun k _ hk => by
    simp only [World.setRow, Array.getElem?_modify]
    rw [if_neg (fun e => hk e.symm)]⟩ fun i hi e => by
    subst e
    rcases ha with ha | ha
    · exact ha
    · omega
theorem Keep.below (h : Keep No w w') : Below w.heap.size w w' := ⟨h.os, h.tape, h.output, h.size, fun k hk => h.block k hk id⟩
theorem Keep.of_below (h : Below w.heap.size w w') (F : Nat → Prop) : Keep F w w' := ⟨h.os, h.tape, h.output, h.size, fun k hk _ => h.block k hk⟩
theorem Keep.of_grownBy {row : Option Nat} (h : w.grownBy w' row) : Keep (fun k => some k = row) w w' := ⟨h.os, h.tape, h.output, h.size, fun k hk hn => h.block k hk hn⟩
theorem Keep.cell (h : Keep F w w') {a : Addr} (hlt : a.block < w.heap.size) (hF : ¬ F a.block) : w'.cell? a = w.cell? a := World.cell?_of_block (w := w) (h.block a.block hlt hF)
theorem Keep.frozen (h : Keep F w w') {a : Addr} (hlt : a.block < w.heap.size) (hF : ¬ F a.block) : w'.frozen? a = w.frozen? a := World.frozen?_of_block (w := w) (h.block a.block hlt hF)
end

/-- Two worlds hold the same in the blocks of S. -/
def Same (S : Nat → Prop) (w w' : World) : Prop := ∀ k, S k → w'.heap[k]? = w.heap[k]?
theorem Same.refl (S : Nat → Prop) (w : World) : Same S w w := fun _ _ => rfl
theorem Same.trans {S : Nat → Prop} {a b c : World} (h : Same S a b) (k : Same S b c) : Same S a c := fun i hi => (k i hi).trans (h i hi)
theorem Same.sub {S T : Nat → Prop} {a b : World} (h : Same S a b) (hT : ∀ k, T k → S k) : Same T a b := fun i hi => h i (hT i hi)
theorem Keep.same {F S : Nat → Prop} {w w' : World} (h : Keep F w w') (hS : ∀ k, S k → k < w.heap.size ∧ ¬ F k) : Same S w w' := fun k hk => h.block k (hS k hk).1 (hS k hk).2
theorem Same.cell {S : Nat → Prop} {w w' : World} (h : Same S w w') {a : Addr} (ha : S a.block) : w'.cell? a = w.cell? a := World.cell?_of_block (w := w) (h a.block ha)

/-! ### cells of a block -/
theorem cell_blk {w : World} {g : Nat} {cs : Array Value} {e : TypeId} {fr : Nat × Nat} (h : w.heap[g]? = some (.cells cs e fr)) (i : Nat) : w.cell? ⟨g, i, none⟩ = cs[i]? := by simp [World.cell?, h]
theorem froz_blk {w : World} {g : Nat} {cs : Array Value} {e : TypeId} (h : w.heap[g]? = some (.cells cs e (0, 0))) (i : Nat) : w.frozen? ⟨g, i, none⟩ = false := by simp [World.frozen?, h]
theorem lt_blk {w : World} {g : Nat} {o : Obj} (h : w.heap[g]? = some o) : g < w.heap.size := (Array.getElem?_eq_some_iff.1 h).1
theorem set_blk {w : World} {g : Nat} {cs : Array Value} {e : TypeId} {fr : Nat × Nat} (h : w.heap[g]? = some (.cells cs e fr)) (i : Nat) (v : Value) : (w.setCell ⟨g, i, none⟩ v).heap[g]? = some (.cells (cs.setIfInBounds i v) e fr) := by
  simp [World.setCell, Array.getElem?_modify, h]
theorem set_far {w : World} {g : Nat} {a : Addr} (h : g ≠ a.block) (v : Value) : (w.setCell a v).heap[g]? = w.heap[g]? := Below.heap_setCell _ _ _ _ h
theorem alloc_new (w : World) (o : Obj) : (w.alloc o).heap[w.heap.size]? = some o := heap_alloc_new w o
theorem alloc_old (w : World) (o : Obj) {k : Nat} (h : k < w.heap.size) : (w.alloc o).heap[k]? = w.heap[k]? := Below.heap_alloc _ _ _ h
theorem setRow_blk {w : World} {g : Nat} {cs : Array Value} {e : TypeId} {fr : Nat × Nat} (h : w.heap[g]? = some (.cells cs e fr)) (ds : Array Value) : (w.setRow g ds).heap[g]? = some (.cells ds e fr) := by
  simp [World.setRow, Array.getElem?_modify, h]

/-! ### a run of cells that is read -/
/-- The cells xs stand from b's o-th cell on. -/
def Run (w : World) (b o : Nat) (xs : List Value) : Prop := ∀ j u, xs[j]? = some u → w.cell? ⟨b, o + j, none⟩ = some u
theorem Run.same {S : Nat → Prop} {w w' : World} {b o : Nat} {xs : List Value} (h : Run w b o xs) (hs : Same S w w') (hb : S b) : Run w' b o xs := fun j u hu => by
  rw [hs.cell (a := ⟨b, o + j, none⟩) hb]; exact h j u hu
theorem Run.add {w : World} {b o : Nat} {xs : List Value} (h : Run w b o xs) : ∀ j u, xs[j]? = some u → w.cell? ((⟨b, o, none⟩ : Addr).add j) = some u := fun j u hu => by
  have hadd : (⟨b, o, none⟩ : Addr).add j = ⟨b, o + j, none⟩ := by unfold Addr.add; split <;> simp_all
  rw [hadd]; exact h j u hu
theorem Run.take {w : World} {b o : Nat} {xs : List Value} (h : Run w b o xs) (n : Nat) : Run w b o (xs.take n) := fun j u hu => by
  rw [List.getElem?_take] at hu
  split at hu
  · exact h j u hu
  · cases hu
theorem Run.of_blk {w : World} {g : Nat} {cs : Array Value} {e : TypeId} {fr : Nat × Nat} (h : w.heap[g]? = some (.cells cs e fr)) : Run w g 0 cs.toList := fun j u hu => by
  rw [cell_blk h]; simpa using hu
theorem Run.lt {w : World} {b o : Nat} {xs : List Value} (h : Run w b o xs) (hx : 0 < xs.length) : b < w.heap.size :=
  World.block_lt_of_cell? w _ (h 0 _ (List.getElem?_eq_getElem hx))

/-- What a slice's address leads to: n cells in all, nothing is asked where there are none. All that is read lies in S. -/
def Rd (w : World) (S : Nat → Prop) (A : Option Addr) (xs : List Value) : Prop := 0 < xs.length → ∃ b o, A = some ⟨b, o, none⟩ ∧ S b ∧ Run w b o xs
theorem Rd.same {S T : Nat → Prop} {w w' : World} {A : Option Addr} {xs : List Value} (h : Rd w S A xs) (hs : Same T w w') (hT : ∀ k, S k → T k) : Rd w' S A xs := fun hx => by
  obtain ⟨b, o, e, hb, hr⟩ := h hx
  exact ⟨b, o, e, hb, hr.same hs (hT b hb)⟩
theorem Rd.sub {S T : Nat → Prop} {w : World} {A : Option Addr} {xs : List Value} (h : Rd w S A xs) (hT : ∀ k, S k → T k) : Rd w T A xs := fun hx => by
  obtain ⟨b, o, e, hb, hr⟩ := h hx
  exact ⟨b, o, e, hT b hb, hr⟩
theorem Rd.nil (w : World) (S : Nat → Prop) (A : Option Addr) : Rd w S A [] := fun h => by simp at h

/-! ### a slice that is owned -/
def Own (w : World) (e : TypeId) (sz : Nat) (A : Option Addr) (n c : Nat) (xs : List Value) : Prop :=
  xs.length = n * sz ∧ ((A = none ∧ n = 0 ∧ c = 0) ∨ ∃ g cur, A = some ⟨g, 0, none⟩ ∧ w.heap[g]? = some (.cells cur e (0, 0)) ∧ n ≤ c ∧ c ≤ maxLen ∧ c * sz ≤ cur.size ∧ cur.toList.take (n * sz) = xs)
/-- The block that a slice's address leads into. -/
def bk (A : Option Addr) : Option Nat := A.map (·.block)
@[simp] theorem bk_none : bk none = none := rfl
@[simp] theorem bk_some (a : Addr) : bk (some a) = some a.block := rfl

section
variable {w w' : World} {e : TypeId} {sz : Nat} {A : Option Addr} {n c : Nat} {xs : List Value}
theorem Own.nil (w : World) (e : TypeId) (sz : Nat) : Own w e sz none 0 0 [] := ⟨by simp, .inl ⟨rfl, rfl, rfl⟩⟩
theorem Own.lt (h : Own w e sz A n c xs) {k : Nat} (hk : bk A = some k) : k < w.heap.size := by
  rcases h.2 with ⟨rfl, _⟩ | ⟨g, cur, rfl, hg, _⟩
  · simp at hk
  · simp at hk; subst hk; exact lt_blk hg
theorem Own.same (h : Own w e sz A n c xs) {S : Nat → Prop} (hs : Same S w w') (hA : ∀ k, bk A = some k → S k) : Own w' e sz A n c xs := by
  refine ⟨h.1, ?_⟩
  rcases h.2 with h0 | ⟨g, cur, rfl, hg, r⟩
  · exact .inl h0
  · exact .inr ⟨g, cur, rfl, by rw [hs g (hA g rfl)]; exact hg, r⟩
theorem Own.keep (h : Own w e sz A n c xs) {F : Nat → Prop} (hk : Keep F w w') (hA : ∀ k, bk A = some k → ¬ F k) : Own w' e sz A n c xs :=
  h.same (S := fun k => bk A = some k) (fun k hk' => hk.block k (h.lt hk') (hA k hk')) fun _ h => h
theorem Own.rd (h : Own w e sz A n c xs) : Rd w (fun k => bk A = some k) A xs := fun hx => by
  rcases h.2 with ⟨rfl, rfl, _⟩ | ⟨g, cur, rfl, hg, _, _, _, ht⟩
  · rw [h.1] at hx; simp at hx
  · exact ⟨g, 0, rfl, rfl, by rw [← ht]; exact (Run.of_blk hg).take _⟩
theorem Own.len (h : Own w e sz A n c xs) : xs.length = n * sz := h.1
theorem Own.le (h : Own w e sz A n c xs) : n ≤ c ∧ c ≤ maxLen := by
  rcases h.2 with ⟨_, rfl, rfl⟩ | ⟨g, cur, _, _, h1, h2, _⟩
  · exact ⟨Nat.le_refl _, Nat.zero_le _⟩
  · exact ⟨h1, h2⟩
/-- Owned slices of unlike element types lie in unlike blocks. -/
theorem Own.ne (h : Own w e sz A n c xs) {e' : TypeId} {sz' : Nat} {A' : Option Addr} {n' c' : Nat} {xs' : List Value} (h' : Own w e' sz' A' n' c' xs') (hne : e ≠ e') : ∀ k, bk A = some k → bk A' ≠ some k := by
  intro k hk hk'
  rcases h.2 with ⟨rfl, _⟩ | ⟨g, cur, rfl, hg, _⟩
  · simp at hk
  · rcases h'.2 with ⟨rfl, _⟩ | ⟨g', cur', rfl, hg', _⟩
    · simp at hk'
    · simp at hk hk'
      subst hk; subst hk'
      rw [hg] at hg'
      injection hg' with hg'
      injection hg' with _ he
      exact hne he
theorem Own.ne_blk (h : Own w e sz A n c xs) {g : Nat} {cs : Array Value} {e' : TypeId} {fr : Nat × Nat} (hg : w.heap[g]? = some (.cells cs e' fr)) (hne : e ≠ e') : bk A ≠ some g := by
  intro hk
  rcases h.2 with ⟨rfl, _⟩ | ⟨g', cur, rfl, hg', _⟩
  · simp at hk
  · simp at hk
    subst hk
    rw [hg] at hg'
    injection hg' with hg'
    injection hg' with _ he
    exact hne he.symm
theorem Own.ne_map (h : Own w e sz A n c xs) {g : Nat} {es : Array MapEntry} {ck : Nat} (hg : w.heap[g]? = some (.map es ck)) : bk A ≠ some g := by
  intro hk
  rcases h.2 with ⟨rfl, _⟩ | ⟨g', cur, rfl, hg', _⟩
  · simp at hk
  · simp at hk
    subst hk
    rw [hg] at hg'
    injection hg' with hg'
    cases hg'
/-- One element behind another. -/
theorem Own.take (h : Own w e sz A n c xs) (m : Nat) (hm : m ≤ n) : Own w e sz A m c (xs.take (m * sz)) := by
  refine ⟨by rw [List.length_take, h.1]; exact Nat.min_eq_left (Nat.mul_le_mul_right _ hm), ?_⟩
  rcases h.2 with ⟨rfl, rfl, rfl⟩ | ⟨g, cur, rfl, hg, h1, h2, h3, ht⟩
  · exact .inl ⟨rfl, by omega, rfl⟩
  · refine .inr ⟨g, cur, rfl, hg, by omega, h2, h3, ?_⟩
    rw [← ht, List.take_take, Nat.min_eq_left (Nat.mul_le_mul_right _ hm)]
end

/-! ### append -/
section
variable {P : Program}
theorem src_rd {w : World} {S : Nat → Prop} {A : Option Addr} {m c sz : Nat} {news : List Value} {tx e' : TypeId} (hk : P.underlying tx = some (.slice e')) (h : Rd w S A news) (hl : news.length = m * sz) (hsz : 0 < sz) (h1 : ∀ u ∈ news, u.oneCell' = true) :
    Src P sz tx (.slice A m c) m news w := by
  cases A with
  | some a =>
    by_cases hx : 0 < news.length
    · obtain ⟨b, o, e, _, hr⟩ := h hx
      cases e
      exact Src.ofSlice w hk _ m c news hl hr.add h1
    · have : news = [] := List.eq_nil_of_length_eq_zero (by omega)
      subst this
      exact Src.ofSlice w hk _ m c [] hl (fun j u hu => by simp at hu) h1
  | none =>
    have hx : ¬ 0 < news.length := fun hx => by obtain ⟨b, o, e, _⟩ := h hx; cases e
    have : news = [] := List.eq_nil_of_length_eq_zero (by omega)
    subst this
    have hm : m = 0 := by
      have : m * sz = 0 := by simpa using hl.symm
      rcases Nat.mul_eq_zero.1 this with h | h <;> omega
    subst hm
    exact ⟨.inl ⟨e', hk⟩, fun _ => rfl, by simp [Builtin.firstCells], by simp [Builtin.firstCells], by simp, fun _ h => by cases h⟩

theorem nextcap_le (need old : Nat) (h : old < need) : Builtin.nextslicecap need old ≤ 2 * need := by
  have hg : ∀ r c, c ≤ 2 * need → Builtin.growBy need r c ≤ 2 * need + need / 4 + 192 → True := fun _ _ _ _ => trivial
  unfold Builtin.nextslicecap
  split
  · omega
  · split
    · omega
    · rename_i h1 h2
      -- four rounds at most: below need each grows by a quarter
      have key : ∀ r c, 256 ≤ c → c ≤ 2 * need → Builtin.growBy need r c ≤ 2 * need := by
        intro r
        induction r with
        | zero => intro c _ hc; simpa [Builtin.growBy] using hc
        | succ r ih =>
          intro c h256 hc
          unfold Builtin.growBy
          split
          · exact hc
          · rename_i hlt
            exact ih _ (by omega) (by omega)
      exact key 4 old (by omega) (by omega)

/-- APPEND, onto nil or an owned slice, of whatever source. -/
theorem app (w : World) {e : TypeId} {sz : Nat} {A : Option Addr} {n c : Nat} {xs : List Value} (h : Own w e sz A n c xs) (t tx ty : TypeId) {z : Value} {bytes : Nat}
    (ht : P.underlying t = some (.slice e)) (hinfo : (P.info? e).map (fun i => (i.zero, i.size, i.bytes)) = some (some z, sz, bytes)) (hzs : z.cells.size = sz) (hsz : 0 < sz)
    {x : Value} {m : Nat} {news : List Value} (hs : Src P sz tx x m news w) (h63 : n + m ≤ maxLen) (hb : (n + m) * bytes ≤ 140737488355328) :
    ∃ A' c' w', (Builtin.append_ #[t, tx] ty #[.slice A n c, x]).run P w = .ok (.slice A' (n + m) c') w' ∧ Own w' e sz A' (n + m) c' (xs ++ news) ∧
      Keep (fun k => some k = bk A) w w' ∧ (A' = A ∨ (A' = some ⟨w.heap.size, 0, none⟩ ∧ w.heap.size < w'.heap.size)) := by
  obtain ⟨i, hi, hz, rfl, rfl⟩ := info_parts hinfo
  have hlen : (xs ++ news).length = (n + m) * i.size := by rw [List.length_append, h.1, hs.newsLen, Nat.add_mul]
  have h63' : ((n + m : Nat) : Int) ≤ 9223372036854775807 := by unfold maxLen at h63; omega
  by_cases hroom : n + m ≤ c
  · -- there is room
    rcases h.2 with ⟨rfl, rfl, rfl⟩ | ⟨g, cur, rfl, hg, h1, h2, h3, htk⟩
    · have hm : m = 0 := by omega
      subst hm
      have hnews : news = [] := List.eq_nil_of_length_eq_zero (by simpa using hs.newsLen)
      subst hnews
      exact ⟨none, 0, w, run_append_nothing w t tx ty e i ht hi none 0 0 (by omega) x hs, by simpa using h, Keep.refl _ _, .inl rfl⟩
    · have hfit : n * i.size + news.length ≤ cur.size := by
        rw [hs.newsLen, ← Nat.add_mul]; exact Nat.le_trans (Nat.mul_le_mul_right _ hroom) h3
      have hc : ∀ j, j < news.length → (w.cell? ⟨g, 0 + n * i.size + j, none⟩).isSome = true := fun j hj => by
        rw [cell_blk hg]; simp; omega
      have hst := run_storeCells_at P g (n * i.size) e news 0 cur w hg (by simpa using hfit) hs.one
      simp only [Nat.add_zero] at hst
      have hadd : (⟨g, 0, none⟩ : Addr).add (n * i.size) = ⟨g, n * i.size, none⟩ := by unfold Addr.add; split <;> simp_all
      refine ⟨some ⟨g, 0, none⟩, c, w.setRow g (cur.toList.take (n * i.size) ++ news ++ cur.toList.drop (n * i.size + news.length)).toArray, ?_, ?_, Keep.setRow (F := fun k => some k = bk (some ⟨g, 0, none⟩)) (Keep.refl _ _) (.inl rfl) _, .inl rfl⟩
      · rcases hs.kind with ⟨e', hk⟩ | hk <;> simp [Builtin.append_, run_underlying ht, run_underlying hk, sizeOf, typeInfo, hi, hs.len, hroom, hs.cells, hadd, hst]
      · have hl0 : (cur.toList.take (n * i.size)).length = n * i.size := by rw [htk, h.1]
        refine ⟨hlen, .inr ⟨g, _, rfl, setRow_blk hg _, hroom, h2, ?_, ?_⟩⟩
        · simp only [List.size_toArray, List.length_append, List.length_drop, hl0]
          have : cur.toList.length = cur.size := by simp
          omega
        · simp only []
          rw [List.take_append_of_le_length (by rw [List.length_append, hl0, hs.newsLen, ← Nat.add_mul]; exact Nat.le_refl _), List.take_of_length_le (by rw [List.length_append, hl0, hs.newsLen, ← Nat.add_mul]; exact Nat.le_refl _), htk]
  · -- a new row
    have hold : (Builtin.firstCells i.size n (.slice A n c)).run P w.drew = .ok xs.toArray w.drew := by
      rcases h.2 with ⟨rfl, rfl, rfl⟩ | ⟨g, cur, rfl, hg, h1, h2, h3, htk⟩
      · have : xs = [] := List.eq_nil_of_length_eq_zero (by simpa using h.1)
        subst this
        exact run_firstCells_none _ _ _ _ _
      · refine run_firstCells_some _ _ _ _ _ _ _ h.1 fun j u hu => ?_
        have := (Run.of_blk hg).take (n * i.size)
        rw [htk] at this
        simpa using this.add j u hu
    have hrun := run_append_grow_src w t tx ty e i z ht hi hz A n c xs hold x m news hs (by omega) h63' (Nat.le_trans (Nat.mul_le_mul_right _ (nextcap_le _ _ (by omega))) (by rw [Nat.mul_assoc]; omega))
    have hge := grownCap_ge w (n + m) c e
    have hcm := grownCap_le_maxLen w (n + m) c e h63
    refine ⟨_, _, _, hrun, ?_, (Keep.refl _ _).drew.alloc _, .inr ⟨rfl, by simp⟩⟩
    refine ⟨hlen, .inr ⟨w.heap.size, _, rfl, alloc_new w.drew _, hge, hcm, ?_, ?_⟩⟩
    · simp only [Array.size_append, List.size_toArray, size_zeroCells, hzs, hlen]
      rw [← Nat.add_mul]
      exact Nat.mul_le_mul_right _ (by omega)
    · rw [Array.toList_append]
      rw [List.take_append_of_le_length (Nat.le_of_eq hlen.symm)]
      exact List.take_of_length_le (Nat.le_of_eq hlen)

/-- At the operation. -/
theorem wp_app {w : World} {o : Oper} {a : Act} {K : Act → World → Prop} {Q : Exit → Act → World → Prop} (s x : Operand) (t tx : TypeId)
    (ho : o.op = .call { callee := .builtin .append, args := #[s, x], argTypes := #[t, tx] })
    {e : TypeId} {sz : Nat} {A : Option Addr} {n c : Nat} {xs : List Value} (h : Own w e sz A n c xs) {z : Value} {bytes : Nat}
    (ht : P.underlying t = some (.slice e)) (hinfo : (P.info? e).map (fun i => (i.zero, i.size, i.bytes)) = some (some z, sz, bytes)) (hzs : z.cells.size = sz) (hsz : 0 < sz)
    {xv : Value} {m : Nat} {news : List Value} (hsv : a.eval s = .slice A n c) (hxv : a.eval x = xv) (hs : Src P sz tx xv m news w) (h63 : n + m ≤ maxLen) (hb : (n + m) * bytes ≤ 140737488355328)
    (hK : ∀ A' c' w', Own w' e sz A' (n + m) c' (xs ++ news) → Keep (fun k => some k = bk A) w w' → (A' = A ∨ (A' = some ⟨w.heap.size, 0, none⟩ ∧ w.heap.size < w'.heap.size)) → K (a.put o.dst (.slice A' (n + m) c')) w') : o.wp P a w K Q := by
  obtain ⟨A', c', w', hr, h2, h3, h4⟩ := app (P := P) w h t tx o.type ht hinfo hzs hsz hs h63 hb
  unfold Oper.wp execOp
  simp only [ho, resolve, invoke, builtin, Sem.run_bind, Sem.run_pure, Result.andThen_ok, List.map_toArray, List.map_cons, List.map_nil, hsv, hxv, hr]
  exact hK A' c' w' h2 h3 h4

theorem wpList_app {w : World} {ops : Array Oper} {rest : List Oper} {o : Oper} {a : Act} {Q : Exit → Act → World → Prop} (hgd : o.guard = none) (s x : Operand) (t tx : TypeId)
    (ho : o.op = .call { callee := .builtin .append, args := #[s, x], argTypes := #[t, tx] })
    {e : TypeId} {sz : Nat} {A : Option Addr} {n c : Nat} {xs : List Value} (h : Own w e sz A n c xs) {z : Value} {bytes : Nat}
    (ht : P.underlying t = some (.slice e)) (hinfo : (P.info? e).map (fun i => (i.zero, i.size, i.bytes)) = some (some z, sz, bytes)) (hzs : z.cells.size = sz) (hsz : 0 < sz)
    {xv : Value} {m : Nat} {news : List Value} (hsv : a.eval s = .slice A n c) (hxv : a.eval x = xv) (hs : Src P sz tx xv m news w) (h63 : n + m ≤ maxLen) (hb : (n + m) * bytes ≤ 140737488355328)
    (hK : ∀ A' c' w', Own w' e sz A' (n + m) c' (xs ++ news) → Keep (fun k => some k = bk A) w w' → (A' = A ∨ (A' = some ⟨w.heap.size, 0, none⟩ ∧ w.heap.size < w'.heap.size)) → wpList P ops Q rest (a.put o.dst (.slice A' (n + m) c')) w') : wpList P ops Q (o :: rest) a w :=
  wpList_plain hgd fun _ hK' => wp_app s x t tx ho h ht hinfo hzs hsz hsv hxv hs h63 hb fun A' c' w' h2 h3 h4 => hK' _ _ (hK A' c' w' h2 h3 h4)

theorem step_app {w : World} {ops : Array Oper} {o : Oper} {a : Act} {K : Act → World → Prop} {Q : Exit → Act → World → Prop} {E : Prop} (hgd : o.guard = none) (s x : Operand) (t tx : TypeId)
    (ho : o.op = .call { callee := .builtin .append, args := #[s, x], argTypes := #[t, tx] })
    {e : TypeId} {sz : Nat} {A : Option Addr} {n c : Nat} {xs : List Value} (h : Own w e sz A n c xs) {z : Value} {bytes : Nat}
    (ht : P.underlying t = some (.slice e)) (hinfo : (P.info? e).map (fun i => (i.zero, i.size, i.bytes)) = some (some z, sz, bytes)) (hzs : z.cells.size = sz) (hsz : 0 < sz)
    {xv : Value} {m : Nat} {news : List Value} (hsv : a.eval s = .slice A n c) (hxv : a.eval x = xv) (hs : Src P sz tx xv m news w) (h63 : n + m ≤ maxLen) (hb : (n + m) * bytes ≤ 140737488355328)
    (hK : ∀ A' c' w', Own w' e sz A' (n + m) c' (xs ++ news) → Keep (fun k => some k = bk A) w w' → (A' = A ∨ (A' = some ⟨w.heap.size, 0, none⟩ ∧ w.heap.size < w'.heap.size)) → K (a.put o.dst (.slice A' (n + m) c')) w') :
    if Region.wanted o (yielded ops a.tmps) = true then Oper.wp P o a w K Q else E := by
  have hw : Region.wanted o (yielded ops a.tmps) = true := by simp [Region.wanted, hgd]
  rw [if_pos hw]
  exact wp_app s x t tx ho h ht hinfo hzs hsz hsv hxv hs h63 hb hK
end

end Go.Dx

namespace Go.Dx

abbrev Nm := ByteArray
theorem nm_inj {a b : Nm} (h : a.toList = b.toList) : a = b := by
  cases a with | mk a => cases b with | mk b =>
  rw [ByteArray.toList_eq, ByteArray.toList_eq] at h
  congr
  exact Array.toList_inj.1 h
theorem nm_beq (a b : Nm) : (a.toList == b.toList) = decide (a = b) := by
  by_cases h : a = b
  · subst h; simp
  · have : a.toList ≠ b.toList := fun e => h (nm_inj e)
    simp [h, this]

theorem less_irrefl : ∀ l : List UInt8, Op.bytesLess l l = false
  | [] => rfl
  | a :: l => by simp [Op.bytesLess, less_irrefl l]
theorem less_trans : ∀ a b c : List UInt8, Op.bytesLess a b = true → Op.bytesLess b c = true → Op.bytesLess a c = true
  | _, _, [], _, h => by simp [Op.bytesLess] at h
  | _, [], _ :: _, h, _ => by simp [Op.bytesLess] at h
  | [], _ :: _, _ :: _, _, _ => rfl
  | x :: a, y :: b, z :: c, h, k => by
    simp only [Op.bytesLess, Bool.or_eq_true, decide_eq_true_eq, Bool.and_eq_true, beq_iff_eq] at h k ⊢
    rcases h with h | ⟨rfl, h⟩ <;> rcases k with k | ⟨rfl, k⟩
    · exact .inl (UInt8.lt_trans h k)
    · exact .inl h
    · exact .inl k
    · exact .inr ⟨rfl, less_trans a b c h k⟩
theorem less_total : ∀ a b : List UInt8, Op.bytesLess a b = false → Op.bytesLess b a = false → a = b
  | [], [], _, _ => rfl
  | [], _ :: _, h, _ => by simp [Op.bytesLess] at h
  | _ :: _, [], _, h => by simp [Op.bytesLess] at h
  | x :: a, y :: b, h, k => by
    simp only [Op.bytesLess, Bool.or_eq_false_iff, decide_eq_false_iff_not, Bool.and_eq_false_iff, beq_eq_false_iff_ne] at h k
    have e : x = y := by
      have h1 := UInt8.not_lt.1 h.1
      have h2 := UInt8.not_lt.1 k.1
      exact UInt8.le_antisymm h2 h1
    subst e
    congr
    exact less_total a b (by simpa using h.2) (by simpa using k.2)

def nlt (a b : Nm) : Bool := Op.bytesLess a.toList b.toList
theorem nlt_irrefl (a : Nm) : nlt a a = false := less_irrefl _
theorem nlt_trans {a b c : Nm} (h : nlt a b = true) (k : nlt b c = true) : nlt a c = true := less_trans _ _ _ h k
theorem nlt_total {a b : Nm} (h : nlt a b = false) (k : nlt b a = false) : a = b := nm_inj (less_total _ _ h k)
theorem nlt_asymm {a b : Nm} (h : nlt a b = true) : nlt b a = false := by
  cases k : nlt b a with
  | false => rfl
  | true => have := nlt_trans h k; rw [nlt_irrefl] at this; cases this
theorem nlt_ne {a b : Nm} (h : nlt a b = true) : a ≠ b := fun e => by subst e; rw [nlt_irrefl] at h; cases h

/-! ### directories -/
section
variable {α : Type}
abbrev Dir (α : Type) := List (Nm × α)
def Sd (l : Dir α) : Prop := l.Pairwise fun a b => nlt a.1 b.1 = true
def get (l : Dir α) (n : Nm) : Option α := (l.find? fun x => decide (x.1 = n)).map (·.2)
def low (l : Dir α) (n : Nm) : Dir α := l.filter fun x => nlt x.1 n
def high (l : Dir α) (n : Nm) : Dir α := l.filter fun x => nlt n x.1
def ins (l : Dir α) (n : Nm) (i : α) : Dir α := low l n ++ (n, i) :: high l n
def rem (l : Dir α) (n : Nm) : Dir α := l.filter fun x => decide (x.1 ≠ n)
/-- Where the name stands, or would stand. -/
def pos (l : Dir α) (n : Nm) : Nat := (low l n).length

theorem get_nil (n : Nm) : get ([] : Dir α) n = none := rfl
theorem get_cons (x : Nm × α) (l : Dir α) (n : Nm) : get (x :: l) n = if x.1 = n then some x.2 else get l n := by
  unfold get
  by_cases h : x.1 = n <;> simp [h]
theorem get_mem {l : Dir α} {n : Nm} {i : α} (h : get l n = some i) : (n, i) ∈ l := by
  induction l with
  | nil => simp [get_nil] at h
  | cons x l ih =>
    rw [get_cons] at h
    split at h
    · rename_i e; cases h; subst e; exact List.mem_cons_self
    · exact List.mem_cons_of_mem _ (ih h)
theorem get_none {l : Dir α} {n : Nm} : get l n = none ↔ ∀ x ∈ l, x.1 ≠ n := by
  induction l with
  | nil => simp [get_nil]
  | cons x l ih =>
    rw [get_cons]
    split
    · rename_i e; simp [e]
    · rename_i e; rw [ih]; simp [e]
theorem Sd.cons {x : Nm × α} {l : Dir α} : Sd (x :: l) ↔ (∀ y ∈ l, nlt x.1 y.1 = true) ∧ Sd l := List.pairwise_cons
theorem Sd.getMem {l : Dir α} (h : Sd l) {n : Nm} {i : α} (hm : (n, i) ∈ l) : get l n = some i := by
  induction l with
  | nil => cases hm
  | cons x l ih =>
    rw [get_cons]
    obtain ⟨h1, h2⟩ := Sd.cons.1 h
    rcases List.mem_cons.1 hm with e | hm
    · subst e; simp
    · rw [if_neg (nlt_ne (h1 _ hm)), ih h2 hm]
theorem low_sd {l : Dir α} (h : Sd l) (n : Nm) : Sd (low l n) := h.filter _
theorem high_sd {l : Dir α} (h : Sd l) (n : Nm) : Sd (high l n) := h.filter _
theorem rem_sd {l : Dir α} (h : Sd l) (n : Nm) : Sd (rem l n) := h.filter _
theorem ins_sd {l : Dir α} (h : Sd l) (n : Nm) (i : α) : Sd (ins l n i) := by
  unfold ins Sd
  rw [List.pairwise_append]
  refine ⟨low_sd h n, Sd.cons.2 ⟨fun y hy => (List.mem_filter.1 hy).2, high_sd h n⟩, fun a ha b hb => ?_⟩
  have h1 := (List.mem_filter.1 ha).2
  rcases List.mem_cons.1 hb with e | hb
  · subst e; exact h1
  · exact nlt_trans h1 (List.mem_filter.1 hb).2
theorem mem_rem {l : Dir α} {n : Nm} {x : Nm × α} : x ∈ rem l n ↔ x ∈ l ∧ x.1 ≠ n := by simp [rem]
theorem mem_ins {l : Dir α} {n : Nm} {i : α} {x : Nm × α} : x ∈ ins l n i ↔ x = (n, i) ∨ (x ∈ l ∧ x.1 ≠ n) := by
  simp only [ins, low, high, List.mem_append, List.mem_cons, List.mem_filter]
  constructor
  · rintro (⟨h1, h2⟩ | rfl | ⟨h1, h2⟩)
    · exact .inr ⟨h1, nlt_ne h2⟩
    · exact .inl rfl
    · exact .inr ⟨h1, (nlt_ne h2).symm⟩
  · rintro (rfl | ⟨h1, h2⟩)
    · exact .inr (.inl rfl)
    · cases k : nlt x.1 n with
      | true => exact .inl ⟨h1, rfl⟩
      | false =>
        cases k' : nlt n x.1 with
        | true => exact .inr (.inr ⟨h1, rfl⟩)
        | false => exact absurd (nlt_total k k') h2
theorem get_append (l m : Dir α) (n : Nm) : get (l ++ m) n = (get l n).or (get m n) := by
  induction l with
  | nil => simp [get_nil]
  | cons x l ih =>
    rw [List.cons_append, get_cons, get_cons]
    split
    · simp
    · exact ih
theorem get_filter (l : Dir α) (p : Nm × α → Bool) (n : Nm) (hp : ∀ x ∈ l, x.1 = n → p x = true) : get (l.filter p) n = get l n := by
  induction l with
  | nil => rfl
  | cons x l ih =>
    have ih := ih fun y hy => hp y (List.mem_cons_of_mem _ hy)
    rw [List.filter_cons, get_cons]
    by_cases e : x.1 = n
    · rw [if_pos (hp x List.mem_cons_self e), get_cons, if_pos e, if_pos e]
    · rw [if_neg e]
      split
      · rw [get_cons, if_neg e, ih]
      · exact ih
theorem get_filter_none (l : Dir α) (p : Nm × α → Bool) (n : Nm) (hp : ∀ x ∈ l, x.1 = n → p x = false) : get (l.filter p) n = none := by
  rw [get_none]
  intro x hx e
  have := List.mem_filter.1 hx
  rw [hp x this.1 e] at this
  cases this.2
theorem get_ins (l : Dir α) (n : Nm) (i : α) (m : Nm) : get (ins l n i) m = if n = m then some i else get l m := by
  unfold ins
  rw [get_append, get_cons]
  by_cases e : n = m
  · subst e
    rw [if_pos rfl, if_pos rfl]
    have : get (low l n) n = none := get_filter_none _ _ _ fun x _ e => by rw [e]; exact nlt_irrefl n
    rw [this]; rfl
  · rw [if_neg e, if_neg e]
    cases k : nlt m n with
    | true =>
      have h1 : get (low l n) m = get l m := get_filter _ _ _ fun x _ e => by rw [e]; exact k
      have h2 : get (high l n) m = none := get_filter_none _ _ _ fun x _ e => by rw [e]; exact nlt_asymm k
      rw [h1, h2, Option.or_none]
    | false =>
      have h1 : get (low l n) m = none := get_filter_none _ _ _ fun x _ e => by rw [e]; exact k
      have k' : nlt n m = true := by
        cases k' : nlt n m with
        | true => rfl
        | false => exact absurd (nlt_total k' k) e
      have h2 : get (high l n) m = get l m := get_filter _ _ _ fun x _ e => by rw [e]; exact k'
      rw [h1, h2]; rfl
theorem get_rem (l : Dir α) (n m : Nm) : get (rem l n) m = if n = m then none else get l m := by
  unfold rem
  by_cases e : n = m
  · subst e
    rw [if_pos rfl]
    exact get_filter_none _ _ _ fun x _ e => by simp [e]
  · rw [if_neg e]
    exact get_filter _ _ _ fun x _ h => by simp [h, Ne.symm e]
/-- Sorted directories that answer alike are one. -/
theorem Sd.ext {l m : Dir α} (hl : Sd l) (hm : Sd m) (h : ∀ n, get l n = get m n) : l = m := by
  induction l generalizing m with
  | nil =>
    cases m with
    | nil => rfl
    | cons y m => have := h y.1; rw [get_nil, get_cons, if_pos rfl] at this; cases this
  | cons x l ih =>
    cases m with
    | nil => have := h x.1; rw [get_nil, get_cons, if_pos rfl] at this; cases this
    | cons y m =>
      obtain ⟨h1, h2⟩ := Sd.cons.1 hl
      obtain ⟨k1, k2⟩ := Sd.cons.1 hm
      have exy : x.1 = y.1 := by
        have hx : get (y :: m) x.1 = some x.2 := by rw [← h x.1, get_cons, if_pos rfl]
        have hy : get (x :: l) y.1 = some y.2 := by rw [h y.1, get_cons, if_pos rfl]
        rcases List.mem_cons.1 (get_mem hx) with e | e
        · rw [← e]
        · rcases List.mem_cons.1 (get_mem hy) with e' | e'
          · rw [← e']
          · have a1 := k1 _ e
            have a2 := h1 _ e'
            have := nlt_asymm a1
            rw [a2] at this; cases this
      have e2 : x.2 = y.2 := by
        have := h x.1
        rw [get_cons, if_pos rfl, get_cons, if_pos exy.symm] at this
        exact Option.some.inj this
      have e : x = y := Prod.ext exy e2
      subst e
      congr
      refine ih h2 k2 fun n => ?_
      have := h n
      rw [get_cons, get_cons] at this
      by_cases en : x.1 = n
      · have a1 : get l n = none := get_none.2 fun y hy e => nlt_ne (h1 y hy) (en.trans e.symm)
        have a2 : get m n = none := get_none.2 fun y hy e => nlt_ne (k1 y hy) (en.trans e.symm)
        rw [a1, a2]
      · rwa [if_neg en, if_neg en] at this
theorem rem_none {l : Dir α} {n : Nm} (h : get l n = none) : rem l n = l := by
  unfold rem
  rw [List.filter_eq_self]
  intro x hx
  simpa using get_none.1 h x hx
/-- A sorted directory, parted at a name. -/
theorem Sd.parts {l : Dir α} (h : Sd l) (n : Nm) : l = low l n ++ (match get l n with | some i => [(n, i)] | none => []) ++ high l n := by
  induction l with
  | nil => rfl
  | cons x l ih =>
    obtain ⟨h1, h2⟩ := Sd.cons.1 h
    rw [get_cons]
    by_cases e : x.1 = n
    · rw [if_pos e]
      have a1 : low (x :: l) n = [] := by
        unfold low
        rw [List.filter_eq_nil_iff]
        intro y hy
        rcases List.mem_cons.1 hy with rfl | hy
        · rw [e, nlt_irrefl]; simp
        · have := nlt_asymm (h1 y hy); rw [e] at this; rw [this]; simp
      have a2 : high (x :: l) n = l := by
        unfold high
        rw [List.filter_cons, e, nlt_irrefl, if_neg (by simp), List.filter_eq_self]
        intro y hy
        have := h1 y hy; rwa [e] at this
      rw [a1, a2, ← e]; rfl
    · rw [if_neg e]
      cases k : nlt x.1 n with
      | true =>
        have a1 : low (x :: l) n = x :: low l n := by simp [low, k]
        have a2 : high (x :: l) n = high l n := by simp [high, nlt_asymm k]
        rw [a1, a2, List.cons_append, List.cons_append, ← ih h2]
      | false =>
        have k' : nlt n x.1 = true := by
          cases k' : nlt n x.1 with
          | true => rfl
          | false => exact absurd (nlt_total k k') e
        have a0 : get l n = none := get_none.2 fun y hy e' => by
          have := h1 y hy
          rw [e'] at this
          rw [this] at k; cases k
        have a1 : low (x :: l) n = [] := by
          unfold low
          rw [List.filter_eq_nil_iff]
          intro y hy
          rcases List.mem_cons.1 hy with rfl | hy
          · rw [k]; simp
          · have := nlt_asymm (nlt_trans k' (h1 y hy)); rw [this]; simp
        have a2 : high (x :: l) n = x :: l := by
          unfold high
          rw [List.filter_eq_self]
          intro y hy
          rcases List.mem_cons.1 hy with rfl | hy
          · exact k'
          · exact nlt_trans k' (h1 y hy)
        rw [a0, a1, a2]; rfl
theorem pos_le (l : Dir α) (n : Nm) : pos l n ≤ l.length := List.length_filter_le _ _
theorem Sd.low_take {l : Dir α} (h : Sd l) (n : Nm) : low l n = l.take (pos l n) := by
  have := h.parts n
  rw [List.append_assoc] at this
  generalize (match get l n with | some i => [(n, i)] | none => []) ++ high l n = r at this
  unfold pos
  generalize low l n = a at *
  rw [this, List.take_left']
  rfl
theorem Sd.get_pos {l : Dir α} (h : Sd l) {n : Nm} {i : α} (hg : get l n = some i) : l[pos l n]? = some (n, i) := by
  have hp := h.parts n
  rw [hg] at hp
  unfold pos
  generalize low l n = a at *
  rw [hp]
  simp
theorem Sd.get_at {l : Dir α} (h : Sd l) (n : Nm) : get l n = match l[pos l n]? with | some x => if x.1 = n then some x.2 else none | none => none := by
  cases hg : get l n with
  | some i => rw [h.get_pos hg]; simp
  | none =>
    cases hx : l[pos l n]? with
    | none => rfl
    | some x => simp only []; rw [if_neg (get_none.1 hg x (List.mem_of_getElem? hx))]
theorem Sd.high_drop {l : Dir α} (h : Sd l) (n : Nm) : high l n = l.drop (pos l n + if (get l n).isSome then 1 else 0) := by
  have hp := h.parts n
  unfold pos
  cases hg : get l n with
  | some i =>
    rw [hg] at hp
    generalize low l n = a at *
    generalize high l n = b at *
    rw [hp]; simp
  | none =>
    rw [hg] at hp
    generalize low l n = a at *
    generalize high l n = b at *
    rw [hp]; simp
theorem Sd.rem_eq {l : Dir α} (h : Sd l) (n : Nm) : rem l n = low l n ++ high l n := by
  refine (rem_sd h n).ext ?_ fun m => ?_
  · unfold Sd
    rw [List.pairwise_append]
    exact ⟨low_sd h n, high_sd h n, fun a ha b hb => nlt_trans (List.mem_filter.1 ha).2 (List.mem_filter.1 hb).2⟩
  · have hp := h.parts n
    rw [get_rem]
    by_cases e : n = m
    · subst e
      rw [if_pos rfl, get_append]
      have h1 : get (low l n) n = none := get_filter_none _ _ _ fun x _ e => by rw [e]; exact nlt_irrefl n
      have h2 : get (high l n) n = none := get_filter_none _ _ _ fun x _ e => by rw [e]; exact nlt_irrefl n
      rw [h1, h2]; rfl
    · rw [if_neg e]
      have key : get l m = get (low l n ++ (match get l n with | some i => [(n, i)] | none => []) ++ high l n) m := congrArg (fun z => get z m) hp
      rw [key, get_append, get_append, get_append]
      cases get l n with
      | none => simp [get_nil]
      | some i => simp [get_cons, get_nil, e]
theorem ins_perm {l : Dir α} (h : Sd l) (n : Nm) (i : α) : (ins l n i).Perm (rem l n ++ [(n, i)]) := by
  rw [h.rem_eq]
  unfold ins
  have : ((low l n ++ high l n) ++ [(n, i)]).Perm (low l n ++ ((n, i) :: high l n)) := by
    rw [List.append_assoc]
    exact List.Perm.append_left _ (List.perm_append_singleton _ _)
  exact this.symm
theorem ins_length {l : Dir α} (h : Sd l) (n : Nm) (i : α) : (ins l n i).length = if (get l n).isSome then l.length else l.length + 1 := by
  have hp := congrArg List.length (h.parts n)
  unfold ins
  cases hg : get l n <;> rw [hg] at hp <;> simp at hp ⊢ <;> omega
theorem rem_length {l : Dir α} (h : Sd l) (n : Nm) : (rem l n).length = if (get l n).isSome then l.length - 1 else l.length := by
  have hp := congrArg List.length (h.parts n)
  rw [h.rem_eq]
  cases hg : get l n <;> rw [hg] at hp <;> simp at hp ⊢ <;> omega
end

end Go.Dx

namespace Go.Dx
open Go.RowKit

def keyS (x : MapEntry) : Nm := match x.key with | .string s => s | _ => ByteArray.empty
def kvOf (x : MapEntry) : Nm × Value := (keyS x, x.val)
/-- The entries es hold just kv. -/
structure Ents (es : Array MapEntry) (clock : Nat) (kv : Dir Value) : Prop where
  str : ∀ x ∈ es.toList, x.key = .string (keyS x)
  perm : (es.toList.map kvOf).Perm kv
  nod : (kv.map (·.1)).Nodup
  born : (es.toList.map (·.born)).Nodup
  old : ∀ x ∈ es.toList, x.born < clock
def MapP (w : World) (r : Nat) (kv : Dir Value) : Prop := ∃ es clock, w.heap[r]? = some (.map es clock) ∧ Ents es clock kv

theorem MapP.same {w w' : World} {r : Nat} {kv : Dir Value} (h : MapP w r kv) (hw : w'.heap[r]? = w.heap[r]?) : MapP w' r kv := by
  obtain ⟨es, ck, h1, h2⟩ := h
  exact ⟨es, ck, hw.trans h1, h2⟩
theorem MapP.lt {w : World} {r : Nat} {kv : Dir Value} (h : MapP w r kv) : r < w.heap.size := by
  obtain ⟨es, ck, h1, h2⟩ := h
  exact lt_blk h1
theorem Ents.perm' {es : Array MapEntry} {clock : Nat} {kv kv' : Dir Value} (h : Ents es clock kv) (hp : kv.Perm kv') : Ents es clock kv' :=
  ⟨h.str, h.perm.trans hp, (hp.map _).nodup_iff.1 h.nod, h.born, h.old⟩
theorem MapP.perm {w : World} {r : Nat} {kv kv' : Dir Value} (h : MapP w r kv) (hp : kv.Perm kv') : MapP w r kv' := by
  obtain ⟨es, ck, h1, h2⟩ := h
  exact ⟨es, ck, h1, h2.perm' hp⟩

theorem modify_mid {α : Type} (x : α) (r : List α) (f : α → α) : ∀ l : List α, (l ++ x :: r).modify l.length f = l ++ f x :: r
  | [] => rfl
  | y :: l => by simp [modify_mid x r f l]
theorem get_perm {α : Type} {l m : Dir α} (hp : l.Perm m) (hn : (l.map (·.1)).Nodup) (n : Nm) : get l n = get m n := by
  cases hg : get l n with
  | none =>
    rw [get_none] at hg
    exact (get_none.2 fun x hx => hg x (hp.mem_iff.2 hx)).symm
  | some i =>
    have hm := hp.mem_iff.1 (get_mem hg)
    have hn' := (hp.map (·.1)).nodup_iff.1 hn
    clear hp hn hg
    induction m with
    | nil => cases hm
    | cons x m ih =>
      rw [get_cons]
      simp only [List.map_cons, List.nodup_cons] at hn'
      rcases List.mem_cons.1 hm with e | hm
      · subst e; simp
      · rw [if_neg (fun e => hn'.1 (by rw [e]; exact List.mem_map.2 ⟨_, hm, rfl⟩)), ← ih hm hn'.2]

theorem sd_nodup {α : Type} {l : Dir α} (h : Sd l) : (l.map (·.1)).Nodup := by
  unfold List.Nodup
  rw [List.pairwise_map]
  exact h.imp fun h e => nlt_ne h e

/-- What 'findNow' answers over entries whose keys are strings. -/
theorem findNow_str (s : Nm) : ∀ (es : List MapEntry) (i : Nat), (∀ x ∈ es, x.key = .string (keyS x)) →
    (get (es.map kvOf) s = none ∧ Instr.findNow .string (.string s) es i = some none) ∨
    ∃ (l r : List MapEntry) (x : MapEntry), es = l ++ x :: r ∧ keyS x = s ∧ get (es.map kvOf) s = some x.val ∧ Instr.findNow .string (.string s) es i = some (some (i + l.length, x.val)) ∧ ∀ y ∈ l, keyS y ≠ s
  | [], i, _ => .inl ⟨rfl, rfl⟩
  | x :: es, i, h => by
    have hx := h x List.mem_cons_self
    have hs : Instr.sameNow .string (.string s) x.key = some (decide (s = keyS x)) := by
      rw [hx]; simp only [Instr.sameNow]; rw [Go.beq_toListBytes, nm_beq]
    by_cases e : s = keyS x
    · subst e
      right
      refine ⟨[], es, x, rfl, rfl, ?_, ?_, fun y hy => by cases hy⟩
      · simp [get_cons, kvOf]
      · simp only [decide_true] at hs
        simp [Instr.findNow, hs]
    · simp only [e, decide_false] at hs
      have hg : get ((x :: es).map kvOf) s = get (es.map kvOf) s := by
        rw [List.map_cons, get_cons, if_neg (fun h => e h.symm)]
      rcases findNow_str s es (i + 1) (fun y hy => h y (List.mem_cons_of_mem _ hy)) with ⟨h1, h2⟩ | ⟨l, r, y, rfl, h1, h2, h3, h4⟩
      · left; exact ⟨hg.trans h1, by simp only [Instr.findNow, hs]; exact h2⟩
      · right
        refine ⟨x :: l, r, y, rfl, h1, hg.trans h2, ?_, fun z hz => ?_⟩
        · simp only [Instr.findNow, hs, h3, List.length_cons]
          rw [Nat.add_assoc, Nat.add_comm 1]
        · rcases List.mem_cons.1 hz with rfl | hz
          · exact fun e' => e e'.symm
          · exact h4 z hz

section
variable {P : Program} {w : World} {t k e : TypeId} {r : Nat} {kv : Dir Value}

theorem run_checkKey_str (hk : P.underlying k = some .string) (b : Bool) (s : Nm) (W : World) : (Instr.checkKey b 10000 k (.string s)).run P W = .ok () W := by
  have h : ∀ n, (Instr.checkKey b (n + 1) k (.string s)).run P W = .ok () W := fun n => by simp [Instr.checkKey, run_underlying hk]
  exact h 9999
theorem run_findKey_str (hk : P.underlying k = some .string) {s : Nm} {es : List MapEntry} {x : Option (Nat × Value)} (h : Instr.findNow .string (.string s) es 0 = some x) (W : World) : (Instr.findKey k (.string s) es).run P W = .ok x W := by
  simp [Instr.findKey, run_underlying hk, h]

theorem run_lookup (h : MapP w r kv) (ht : P.underlying t = some (.map k e)) (hk : P.underlying k = some .string) {z : Value} (hz : ∀ W, (zeroValue e).run P W = .ok z W) (s : Nm) :
    (Instr.lookup t (.map (some r)) (.string s) false).run P w = .ok ((get kv s).getD z) w := by
  obtain ⟨es, ck, hb, E⟩ := h
  have hg : get (es.toList.map kvOf) s = get kv s := get_perm E.perm ((E.perm.map _).nodup_iff.2 E.nod) s
  rcases findNow_str s es.toList 0 E.str with ⟨h1, h2⟩ | ⟨l, r', x, _, h1, h2, h3, _⟩
  · simp [Instr.lookup, run_underlying ht, MapKept.run_getObj_map hb, run_checkKey_str hk, run_findKey_str hk h2, hz, ← hg, h1]
  · simp [Instr.lookup, run_underlying ht, MapKept.run_getObj_map hb, run_checkKey_str hk, run_findKey_str hk h3, ← hg, h2]

theorem run_len_map (h : MapP w r kv) (ht : P.underlying t = some (.map k e)) (ty : TypeId) :
    (Builtin.len_ #[t] ty #[.map (some r)]).run P w = .ok (.int .i64 kv.length) w := by
  obtain ⟨es, ck, hb, E⟩ := h
  have : es.size = kv.length := by rw [← E.perm.length_eq]; simp
  simp [Builtin.len_, run_underlying ht, MapKept.run_getObj_map hb, goInt, this]

theorem setObj_keep (w : World) (r : Nat) (o : Obj) : Keep (fun q => q = r) w { w with heap := w.heap.setIfInBounds r o } :=
  ⟨rfl, rfl, rfl, by simp, fun q _ hn => by simp only [Array.getElem?_setIfInBounds]; rw [if_neg (fun e => hn e.symm)]⟩

theorem kv_erase {l r : List MapEntry} {x : MapEntry} {kv : Dir Value} (hp : ((l ++ x :: r).map kvOf).Perm kv) (hn : (kv.map (·.1)).Nodup) : ((l ++ r).map kvOf).Perm (rem kv (keyS x)) := by
  have hp2 : (kvOf x :: (l ++ r).map kvOf).Perm kv := by
    refine List.Perm.trans ?_ hp
    rw [← List.map_cons]
    exact (List.perm_middle.symm).map kvOf
  have hf := hp2.filter fun y => decide (y.1 ≠ keyS x)
  have hn2 : ((kvOf x :: (l ++ r).map kvOf).map (·.1)).Nodup := (hp2.map (·.1)).nodup_iff.2 hn
  simp only [List.map_cons, List.nodup_cons] at hn2
  have e : (kvOf x :: (l ++ r).map kvOf).filter (fun y => decide (y.1 ≠ keyS x)) = (l ++ r).map kvOf := by
    rw [List.filter_cons, if_neg (by simp [kvOf]), List.filter_eq_self]
    intro y hy
    have : y.1 ≠ keyS x := fun e => hn2.1 (by rw [List.mem_map]; exact ⟨y, hy, e⟩)
    simpa using this
  rw [e] at hf
  exact hf

theorem run_mapUpdate (h : MapP w r kv) (ht : P.underlying t = some (.map k e)) (hk : P.underlying k = some .string) (s : Nm) (v : Value) :
    ∃ w', (Instr.mapUpdate t (.map (some r)) (.string s) v).run P w = .ok () w' ∧ MapP w' r (rem kv s ++ [(s, v)]) ∧ Keep (fun q => q = r) w w' := by
  obtain ⟨es, ck, hb, E⟩ := h
  have hr := lt_blk hb
  have hg : get (es.toList.map kvOf) s = get kv s := get_perm E.perm ((E.perm.map _).nodup_iff.2 E.nod) s
  have hnod : ((rem kv s ++ [(s, v)]).map (·.1)).Nodup := by
    rw [List.map_append]
    refine List.nodup_append.2 ⟨(List.filter_sublist.map _).nodup E.nod, by simp, ?_⟩
    intro a ha b hb' e
    simp at hb'
    obtain ⟨x, hx, rfl⟩ := List.mem_map.1 ha
    exact (mem_rem.1 hx).2 (e.trans hb')
  rcases findNow_str s es.toList 0 E.str with ⟨h1, h2⟩ | ⟨l, r', x, hes, h1, h2, h3, _⟩
  · refine ⟨_, ?_, ⟨es.push { key := .string s, val := v, born := ck }, ck + 1, ?_, ?_⟩, setObj_keep w r (.map (es.push { key := .string s, val := v, born := ck }) (ck + 1))⟩
    · simp [Instr.mapUpdate, run_underlying ht, MapKept.run_getObj_map hb, run_checkKey_str hk, run_findKey_str hk h2, MapKept.run_setObj_map _ hb]
    · simp [hr]
    · have hrem : rem kv s = kv := rem_none (hg.symm.trans h1)
      refine ⟨fun x hx => ?_, ?_, hnod, ?_, fun x hx => ?_⟩
      · simp at hx
        rcases hx with hx | rfl
        · exact E.str x (by simpa using hx)
        · rfl
      · rw [hrem, Array.toList_push, List.map_append]
        exact E.perm.append_right _
      · rw [Array.toList_push, List.map_append]
        refine List.nodup_append.2 ⟨E.born, by simp, ?_⟩
        intro a ha b hb' e
        simp at hb'
        obtain ⟨x, hx, rfl⟩ := List.mem_map.1 ha
        have := E.old x hx
        omega
      · simp at hx
        rcases hx with hx | rfl
        · have := E.old x (by simpa using hx); omega
        · simp
  · have hlen : l.length < es.size := by rw [← Array.length_toList, hes]; simp
    have hel : es[l.length]? = some x := by rw [← Array.getElem?_toList, hes]; simp
    have hxk : x.key = .string s := by rw [← h1]; exact E.str x (by rw [hes]; simp)
    have hss : (s == s) = true := by rw [Go.beq_toListBytes]; simp
    have hmod : (es.modify l.length fun y => { y with key := .string s, val := v }).toList = l ++ { x with key := .string s, val := v } :: r' := by
      rw [Array.toList_modify, hes]
      exact modify_mid _ _ _ _
    refine ⟨_, ?_, ⟨es.modify l.length fun y => { y with key := .string s, val := v }, ck, ?_, ?_⟩, setObj_keep w r (.map (es.modify l.length fun y => { y with key := .string s, val := v }) ck)⟩
    · simp [Instr.mapUpdate, run_underlying ht, MapKept.run_getObj_map hb, run_checkKey_str hk, run_findKey_str hk h3, Instr.keyThatStays, hel, hxk, Instr.sameBits, hss, MapKept.run_setObj_map _ hb]
    · simp [hr]
    · have hrm : ((l ++ r').map kvOf).Perm (rem kv s) := by
        have := kv_erase (by rw [← hes]; exact E.perm) E.nod
        rwa [h1] at this
      have hborn : (es.toList.map (·.born)).Nodup := E.born
      rw [hes] at hborn
      refine ⟨?_, ?_, hnod, ?_, ?_⟩
      · intro y hy
        rw [hmod] at hy
        rcases List.mem_append.1 hy with hy | hy
        · exact E.str y (by rw [hes]; exact List.mem_append_left _ hy)
        · rcases List.mem_cons.1 hy with rfl | hy
          · rfl
          · exact E.str y (by rw [hes]; exact List.mem_append_right _ (List.mem_cons_of_mem _ hy))
      · rw [hmod]
        have : ((l ++ { x with key := Value.string s, val := v } :: r').map kvOf).Perm ((l ++ r').map kvOf ++ [(s, v)]) := by
          rw [List.map_append, List.map_append, List.map_cons, List.append_assoc]
          refine List.Perm.append_left _ ?_
          exact (List.perm_append_singleton _ _).symm
        exact this.trans (hrm.append_right _)
      · rw [hmod]
        simpa using hborn
      · intro y hy
        rw [hmod] at hy
        rcases List.mem_append.1 hy with hy | hy
        · exact E.old y (by rw [hes]; exact List.mem_append_left _ hy)
        · rcases List.mem_cons.1 hy with rfl | hy
          · exact E.old x (by rw [hes]; simp)
          · exact E.old y (by rw [hes]; exact List.mem_append_right _ (List.mem_cons_of_mem _ hy))

theorem run_delete (h : MapP w r kv) (ht : P.underlying t = some (.map k e)) (hk : P.underlying k = some .string) (tk ty : TypeId) (s : Nm) :
    ∃ w', (Builtin.delete_ #[t, tk] ty #[.map (some r), .string s]).run P w = .ok (.tuple #[]) w' ∧ MapP w' r (rem kv s) ∧ Keep (fun q => q = r) w w' := by
  obtain ⟨es, ck, hb, E⟩ := h
  have hr := lt_blk hb
  have hg : get (es.toList.map kvOf) s = get kv s := get_perm E.perm ((E.perm.map _).nodup_iff.2 E.nod) s
  have hnod : ((rem kv s).map (·.1)).Nodup := (List.filter_sublist.map _).nodup E.nod
  rcases findNow_str s es.toList 0 E.str with ⟨h1, h2⟩ | ⟨l, r', x, hes, h1, h2, h3, _⟩
  · refine ⟨_, ?_, ⟨es, ck, ?_, ?_⟩, setObj_keep w r (.map es ck)⟩
    · simp [Builtin.delete_, run_underlying ht, MapKept.run_getObj_map hb, run_checkKey_str hk, run_findKey_str hk h2, MapKept.run_setObj_map _ hb]
    · simp [hr]
    · rw [rem_none (hg.symm.trans h1)]; exact E
  · have hlen : l.length < es.size := by rw [← Array.length_toList, hes]; simp
    have herase : (es.eraseIdxIfInBounds l.length).toList = l ++ r' := by
      rw [Array.toList_eraseIdxIfInBounds, hes]
      rw [List.eraseIdx_append_of_length_le (Nat.le_refl _)]
      simp
    refine ⟨_, ?_, ⟨es.eraseIdxIfInBounds l.length, ck, ?_, ?_⟩, setObj_keep w r (.map (es.eraseIdxIfInBounds l.length) ck)⟩
    · simp [Builtin.delete_, run_underlying ht, MapKept.run_getObj_map hb, run_checkKey_str hk, run_findKey_str hk h3, MapKept.run_setObj_map _ hb]
    · simp [hr]
    · have hborn : (es.toList.map (·.born)).Nodup := E.born
      have hrm := kv_erase (by rw [← hes]; exact E.perm) E.nod
      rw [h1] at hrm
      rw [hes] at hborn
      refine ⟨?_, ?_, hnod, ?_, ?_⟩
      · intro y hy
        rw [herase] at hy
        refine E.str y ?_
        rw [hes]
        rcases List.mem_append.1 hy with hy | hy
        · exact List.mem_append_left _ hy
        · exact List.mem_append_right _ (List.mem_cons_of_mem _ hy)
      · rw [herase]; exact hrm
      · rw [herase]
        refine List.Nodup.sublist ?_ hborn
        exact (List.Sublist.append_left (List.sublist_cons_self _ _) _).map _
      · intro y hy
        rw [herase] at hy
        refine E.old y ?_
        rw [hes]
        rcases List.mem_append.1 hy with hy | hy
        · exact List.mem_append_left _ hy
        · exact List.mem_append_right _ (List.mem_cons_of_mem _ hy)

theorem MapP.made (w : World) : MapP (w.alloc (.map #[] 0)) w.heap.size [] :=
  ⟨#[], 0, alloc_new w _, ⟨by simp, by simp, by simp, by simp, by simp⟩⟩
end

/-! ### at the operation -/
section
variable {P : Program} {w : World} {t k e : TypeId} {r : Nat} {kv : Dir Value} {o : Oper} {a : Act} {K : Act → World → Prop} {Q : Exit → Act → World → Prop} {ops : Array Oper} {rest : List Oper}

theorem wp_mapUpdate (m x v : Operand) (ho : o.op = .mapUpdate t m x v) (h : MapP w r kv) (ht : P.underlying t = some (.map k e)) (hk : P.underlying k = some .string)
    {s : Nm} {u : Value} (hm : a.eval m = .map (some r)) (hx : a.eval x = .string s) (hv : a.eval v = u)
    (hK : ∀ w', MapP w' r (rem kv s ++ [(s, u)]) → Keep (fun q => q = r) w w' → K (a.put o.dst undef) w') : o.wp P a w K Q := by
  obtain ⟨w', hr, h2, h3⟩ := run_mapUpdate h ht hk s u
  unfold Oper.wp execOp
  simp only [ho, Sem.run_bind, Sem.run_pure, Result.andThen_ok, hm, hx, hv, hr]
  exact hK w' h2 h3
theorem wpList_mapUpdate (hgd : o.guard = none) (m x v : Operand) (ho : o.op = .mapUpdate t m x v) (h : MapP w r kv) (ht : P.underlying t = some (.map k e)) (hk : P.underlying k = some .string)
    {s : Nm} {u : Value} (hm : a.eval m = .map (some r)) (hx : a.eval x = .string s) (hv : a.eval v = u)
    (hK : ∀ w', MapP w' r (rem kv s ++ [(s, u)]) → Keep (fun q => q = r) w w' → wpList P ops Q rest (a.put o.dst undef) w') : wpList P ops Q (o :: rest) a w :=
  wpList_plain hgd fun _ hK' => wp_mapUpdate m x v ho h ht hk hm hx hv fun w' h2 h3 => hK' _ _ (hK w' h2 h3)
theorem wp_delete (m x : Operand) (tk : TypeId) (ho : o.op = .call { callee := .builtin .delete, args := #[m, x], argTypes := #[t, tk] }) (h : MapP w r kv) (ht : P.underlying t = some (.map k e)) (hk : P.underlying k = some .string)
    {s : Nm} (hm : a.eval m = .map (some r)) (hx : a.eval x = .string s)
    (hK : ∀ w', MapP w' r (rem kv s) → Keep (fun q => q = r) w w' → K (a.put o.dst (.tuple #[])) w') : o.wp P a w K Q := by
  obtain ⟨w', hr, h2, h3⟩ := run_delete h ht hk tk o.type s
  unfold Oper.wp execOp
  simp only [ho, resolve, invoke, builtin, Sem.run_bind, Sem.run_pure, Result.andThen_ok, List.map_toArray, List.map_cons, List.map_nil, hm, hx, hr]
  exact hK w' h2 h3
theorem wpList_delete (hgd : o.guard = none) (m x : Operand) (tk : TypeId) (ho : o.op = .call { callee := .builtin .delete, args := #[m, x], argTypes := #[t, tk] }) (h : MapP w r kv) (ht : P.underlying t = some (.map k e)) (hk : P.underlying k = some .string)
    {s : Nm} (hm : a.eval m = .map (some r)) (hx : a.eval x = .string s)
    (hK : ∀ w', MapP w' r (rem kv s) → Keep (fun q => q = r) w w' → wpList P ops Q rest (a.put o.dst (.tuple #[])) w') : wpList P ops Q (o :: rest) a w :=
  wpList_plain hgd fun _ hK' => wp_delete m x tk ho h ht hk hm hx fun w' h2 h3 => hK' _ _ (hK w' h2 h3)
end

end Go.Dx

namespace Go.Dx

structure FV where
  data : List UInt8
  sure : Nat

inductive Ch where
  | mk (n : Nm) (i : Nat)
  | ren (a b : Nm)
  | del (n : Nm)

structure St where
  room : Nat
  files : List FV
  now : Dir Nat
  sure : Dir Nat
  changes : List Ch
  left : Nat
  well : Nat
  fails : Nat
  part : Nat
  down : Bool

def lay1 (d : Dir Nat) : Ch → Dir Nat
  | .mk n i => ins d n i
  | .ren a b => match get d a with | some i => ins (rem d a) b i | none => d
  | .del n => rem d n
def lays (d : Dir Nat) (l : List Ch) : Dir Nat := l.foldl lay1 d

def okc (c : UInt8) : Bool := (decide (97 ≤ c.toNat) && decide (c.toNat ≤ 122)) || (decide (48 ≤ c.toNat) && decide (c.toNat ≤ 57)) || decide (c.toNat = 45)
def right (n : Nm) : Bool := decide (1 ≤ n.size) && decide (n.size ≤ 24) && n.data.toList.all okc

namespace St
def lenAt (s : St) (i : Nat) : Nat := match s.files[i]? with | some f => f.data.length | none => 0
def total (s : St) : Nat := (s.now.map fun x => s.lenAt x.2).sum
/-- Place 5 of an Append of so many bytes to the i-th file. -/
def full (s : St) (i n : Nat) : Bool := decide (2147483648 < s.lenAt i + n) || (decide (s.room ≠ 0) && decide (s.room < s.total + n))
def app (s : St) (i : Nat) (b : List UInt8) : St := { s with files := s.files.modify i fun f => ⟨f.data ++ b, f.sure⟩ }
/-- What refuses a changing call ahead of place 4. -/
def bgn (s : St) (ok : Bool) : Int × St :=
  if s.down = true then (30, s) else if ok = false then (33, s) else if 0 < s.well then (0, { s with well := s.well - 1 }) else if 0 < s.fails then (31, { s with fails := s.fails - 1 }) else (0, s)
def fls (s : St) (cost : Nat) : Nat × Bool × St :=
  if s.left = 0 then (0, false, s) else if cost < s.left then (0, false, { s with left := s.left - cost }) else (s.left - 1, true, { s with left := 0, well := 0, fails := 0, part := 0, down := true })
def create (s : St) (n : Nm) : Int × St :=
  let r := s.bgn (right n)
  if r.1 ≠ 0 then r else
  if (get r.2.now n).isSome then (35, r.2) else
  if 8388608 ≤ r.2.now.length then (32, r.2) else
  let q := r.2.fls 1
  if q.2.1 then (30, q.2.2) else
  (0, { q.2.2 with files := q.2.2.files ++ [⟨[], 0⟩], now := ins q.2.2.now n q.2.2.files.length, changes := q.2.2.changes ++ [.mk n q.2.2.files.length] })
def append (s : St) (n : Nm) (b : List UInt8) : Int × St :=
  let r := s.bgn (right n)
  if r.1 = 31 then
    match get r.2.now n with
    | some i => if r.2.full i (min s.part b.length) then (31, r.2) else (31, r.2.app i (b.take (min s.part b.length)))
    | none => (31, r.2)
  else if r.1 ≠ 0 then r else
  match get r.2.now n with
  | none => (34, r.2)
  | some i =>
    if r.2.full i b.length then (32, r.2) else
    let q := r.2.fls (1 + b.length)
    if q.2.1 then (30, q.2.2.app i (b.take q.1)) else (0, q.2.2.app i b)
def sync (s : St) (n : Nm) : Int × St :=
  let r := s.bgn (right n)
  if r.1 ≠ 0 then r else
  match get r.2.now n with
  | none => (34, r.2)
  | some i =>
    let q := r.2.fls 1
    if q.2.1 then (30, q.2.2) else (0, { q.2.2 with files := q.2.2.files.modify i fun f => ⟨f.data, f.data.length⟩ })
def rename (s : St) (a b : Nm) : Int × St :=
  let r := s.bgn (right a && right b)
  if r.1 ≠ 0 then r else
  match get r.2.now a with
  | none => (34, r.2)
  | some i =>
    let q := r.2.fls 1
    if q.2.1 then (30, q.2.2) else if a = b then (0, q.2.2) else
    (0, { q.2.2 with now := ins (rem q.2.2.now a) b i, changes := q.2.2.changes ++ [.ren a b] })
def delete (s : St) (n : Nm) : Int × St :=
  let r := s.bgn (right n)
  if r.1 ≠ 0 then r else
  if (get r.2.now n).isNone then (34, r.2) else
  let q := r.2.fls 1
  if q.2.1 then (30, q.2.2) else (0, { q.2.2 with now := rem q.2.2.now n, changes := q.2.2.changes ++ [.del n] })
def syncDir (s : St) : Int × St :=
  let r := s.bgn true
  if r.1 ≠ 0 then r else
  let q := r.2.fls 1
  if q.2.1 then (30, q.2.2) else (0, { q.2.2 with sure := q.2.2.now, changes := [] })
def dataAt (s : St) (i : Nat) : List UInt8 := match s.files[i]? with | some f => f.data | none => []
def sureAt (s : St) (i : Nat) : Nat := match s.files[i]? with | some f => f.sure | none => 0
def read (s : St) (n : Nm) : List UInt8 × Int :=
  if s.down = true then ([], 30) else if right n = false then ([], 33) else
  match get s.now n with
  | none => ([], 34)
  | some i => (s.dataAt i, 0)
/-- A file as it is told: its name, its bytes, how many are sure. -/
def told (s : St) (d : Dir Nat) : List (Nm × List UInt8 × Nat) := d.map fun x => (x.1, s.dataAt x.2, s.sureAt x.2)
def filesOf (s : St) : List (Nm × List UInt8 × Nat) := s.told s.now
def rest (s : St) (dir : Int) : Dir Nat := lays s.sure (s.changes.take dir.toNat)
/-- How many bytes more than the sure ones stay of the i-th file. -/
def more (keep : List Int) (i : Nat) (len sure : Nat) : Nat := if keep.length = 0 then 0 else min (keep.getD (i % keep.length) 0).toNat (len - sure)
def cut (keep : List Int) (i : Nat) (x : Nm × List UInt8 × Nat) : Nm × List UInt8 × Nat :=
  (x.1, x.2.1.take (x.2.2 + more keep i x.2.1.length x.2.2), x.2.2 + more keep i x.2.1.length x.2.2)
def image (s : St) (dir : Int) (keep : List Int) : List (Nm × List UInt8 × Nat) := (s.told (s.rest dir)).mapIdx fun i x => cut keep i x
def fall (s : St) (dir : Int) (keep : List Int) : St :=
  let l := s.image dir keep
  { room := s.room, files := l.map fun x => ⟨x.2.1, x.2.2⟩, now := l.mapIdx fun i x => (x.1, i), sure := l.mapIdx fun i x => (x.1, i), changes := [], left := 0, well := 0, fails := 0, part := 0, down := false }
def arm (s : St) (n : Int) : St := { s with left := n.toNat }
def fail (s : St) (a b c : Int) : St := { s with well := a.toNat, fails := b.toNat, part := c.toNat }
/-- The document's disk takes no rig while it is down. -/
def armR (s : St) (n : Int) : St := if s.down then s else s.arm n
def failR (s : St) (a b c : Int) : St := if s.down then s else s.fail a b c
def mk0 (room : Nat) (l : List (Nm × List UInt8 × Nat)) : St :=
  { room, files := l.map fun x => ⟨x.2.1, x.2.2⟩, now := (l.mapIdx fun i x => (x.1, i)).foldl (fun d x => ins d x.1 x.2) [], sure := (l.mapIdx fun i x => (x.1, i)).foldl (fun d x => ins d x.1 x.2) [], changes := [], left := 0, well := 0, fails := 0, part := 0, down := false }
end St

/-- Changes that may come up from this directory on. -/
def Valid : Dir Nat → List Ch → Prop
  | _, [] => True
  | d, c :: l => (match c with | .ren a b => (get d a).isSome = true ∧ a ≠ b | _ => True) ∧ Valid (lay1 d c) l

structure Wf (s : St) : Prop where
  sdN : Sd s.now
  sdS : Sd s.sure
  idxN : ∀ x ∈ s.now, x.2 < s.files.length
  idxS : ∀ x ∈ s.sure, x.2 < s.files.length
  idxC : ∀ n i, Ch.mk n i ∈ s.changes → i < s.files.length
  fsure : ∀ f ∈ s.files, f.sure ≤ f.data.length ∧ f.data.length ≤ 2147483648
  val : Valid s.sure s.changes
  eq : lays s.sure s.changes = s.now
  nlen : s.now.length ≤ 8388608
  /-- whatever may come up is no longer than a directory may be -/
  pre : ∀ k, (lays s.sure (s.changes.take k)).length ≤ 8388608
  broom : s.room < 9223372036854775808
  bleft : s.left < 9223372036854775808
  bwell : s.well < 9223372036854775808
  bfails : s.fails < 9223372036854775808
  bpart : s.part < 9223372036854775808

theorem lay1_sd {d : Dir Nat} (h : Sd d) (c : Ch) : Sd (lay1 d c) := by
  cases c with
  | mk n i => exact ins_sd h n i
  | ren a b =>
    simp only [lay1]
    split
    · exact ins_sd (rem_sd h a) b _
    · exact h
  | del n => exact rem_sd h n
theorem lays_sd {d : Dir Nat} (h : Sd d) (l : List Ch) : Sd (lays d l) := by
  unfold lays
  induction l generalizing d with
  | nil => exact h
  | cons c l ih => exact ih (lay1_sd h c)
theorem lays_append (d : Dir Nat) (l m : List Ch) : lays d (l ++ m) = lays (lays d l) m := List.foldl_append
theorem valid_append : ∀ (l m : List Ch) (d : Dir Nat), Valid d (l ++ m) ↔ Valid d l ∧ Valid (lays d l) m
  | [], m, d => by simp [Valid, lays]
  | c :: l, m, d => by
    simp only [List.cons_append, Valid, valid_append l m, and_assoc]
    rfl
theorem valid_take {d : Dir Nat} {l : List Ch} (h : Valid d l) (n : Nat) : Valid d (l.take n) := by
  have := List.take_append_drop n l
  rw [← this, valid_append] at h
  exact h.1
/-- All indices of a directory that comes up lie among the files. -/
theorem lay1_idx {d : Dir Nat} {n : Nat} (h : ∀ x ∈ d, x.2 < n) {c : Ch} (hc : ∀ m i, c = .mk m i → i < n) : ∀ x ∈ lay1 d c, x.2 < n := by
  intro x hx
  cases c with
  | mk m i =>
    rcases mem_ins.1 hx with rfl | ⟨hx, _⟩
    · exact hc m i rfl
    · exact h x hx
  | ren a b =>
    simp only [lay1] at hx
    split at hx
    · rename_i i hi
      rcases mem_ins.1 hx with rfl | ⟨hx, _⟩
      · have := h _ (get_mem hi); exact this
      · exact h x (mem_rem.1 hx).1
    · exact h x hx
  | del m => exact h x (mem_rem.1 hx).1
theorem lays_idx {n : Nat} : ∀ (l : List Ch) (d : Dir Nat), (∀ x ∈ d, x.2 < n) → (∀ m i, Ch.mk m i ∈ l → i < n) → ∀ x ∈ lays d l, x.2 < n
  | [], d, h, _ => h
  | c :: l, d, h, hc => lays_idx l (lay1 d c) (lay1_idx h fun m i e => hc m i (by rw [e]; exact List.mem_cons_self)) fun m i hm => hc m i (List.mem_cons_of_mem _ hm)
theorem lay1_length {d : Dir Nat} (h : Sd d) (c : Ch) : (lay1 d c).length ≤ d.length + 1 := by
  cases c with
  | mk n i => simp only [lay1]; rw [ins_length h]; split <;> omega
  | ren a b =>
    simp only [lay1]
    split
    · have := ins_length (rem_sd h a) b ‹Nat›
      have := rem_length h a
      split at this <;> split at * <;> omega
    · omega
  | del n => simp only [lay1]; rw [rem_length h]; split <;> omega
theorem lays_length : ∀ (l : List Ch) (d : Dir Nat), Sd d → (lays d l).length ≤ d.length + l.length
  | [], d, _ => by simp [lays]
  | c :: l, d, h => by
    have h1 := lays_length l (lay1 d c) (lay1_sd h c)
    have h2 := lay1_length h c
    have h3 : (lays d (c :: l)).length = (lays (lay1 d c) l).length := rfl
    simp only [List.length_cons]
    omega

namespace Wf
variable {s : St}
theorem rest_sd (h : Wf s) (dir : Int) : Sd (s.rest dir) := lays_sd h.sdS _
theorem rest_idx (h : Wf s) (dir : Int) : ∀ x ∈ s.rest dir, x.2 < s.files.length :=
  lays_idx _ _ h.idxS fun m i hm => h.idxC m i (List.mem_of_mem_take hm)
theorem setLeft (h : Wf s) (n : Nat) (hn : n < 9223372036854775808) : Wf { s with left := n } :=
  { h with bleft := hn }
end Wf

theorem bgn_wf {s : St} (h : Wf s) (ok : Bool) : Wf (s.bgn ok).2 := by
  unfold St.bgn
  have hb := h.bwell
  have hf := h.bfails
  split
  · exact h
  · split
    · exact h
    · split
      · exact { h with bwell := by simp only []; omega }
      · split
        · exact { h with bfails := by simp only []; omega }
        · exact h
theorem bgn_files (s : St) (ok : Bool) : (s.bgn ok).2.files = s.files ∧ (s.bgn ok).2.now = s.now ∧ (s.bgn ok).2.sure = s.sure ∧ (s.bgn ok).2.changes = s.changes ∧ (s.bgn ok).2.down = s.down ∧ (s.bgn ok).2.room = s.room ∧ (s.bgn ok).2.left = s.left ∧ (s.bgn ok).2.part = s.part := by
  unfold St.bgn
  repeat' split
  all_goals exact ⟨rfl, rfl, rfl, rfl, rfl, rfl, rfl, rfl⟩
theorem bgn_down {s : St} {ok : Bool} (h : (s.bgn ok).1 = 0) : s.down = false := by
  unfold St.bgn at h
  split at h
  · cases h
  · rename_i hd; simpa using hd
theorem bgn_down31 {s : St} {ok : Bool} (h : (s.bgn ok).1 = 31) : s.down = false := by
  unfold St.bgn at h
  split at h
  · cases h
  · rename_i hd; simpa using hd
theorem fls_wf {s : St} (h : Wf s) (cost : Nat) : Wf (s.fls cost).2.2 := by
  unfold St.fls
  have hb := h.bleft
  split
  · exact h
  · split
    · exact { h with bleft := by simp only []; omega }
    · exact { h with bleft := by simp, bwell := by simp, bfails := by simp, bpart := by simp }
theorem fls_files (s : St) (cost : Nat) : (s.fls cost).2.2.files = s.files ∧ (s.fls cost).2.2.now = s.now ∧ (s.fls cost).2.2.sure = s.sure ∧ (s.fls cost).2.2.changes = s.changes ∧ (s.fls cost).2.2.room = s.room := by
  unfold St.fls
  repeat' split
  all_goals exact ⟨rfl, rfl, rfl, rfl, rfl⟩
theorem app_wf {s : St} (h : Wf s) (i : Nat) (b : List UInt8) (hb : s.lenAt i + b.length ≤ 2147483648) : Wf (s.app i b) :=
  { h with
    idxN := by simpa [St.app] using h.idxN
    idxS := by simpa [St.app] using h.idxS
    idxC := by simpa [St.app] using h.idxC
    fsure := by
      intro f hf
      simp only [St.app] at hf
      obtain ⟨j, hj⟩ := List.mem_iff_getElem?.1 hf
      rw [List.getElem?_modify] at hj
      cases hg : s.files[j]? with
      | none => rw [hg] at hj; simp at hj
      | some g =>
        rw [hg] at hj
        have hgm := h.fsure g (List.mem_of_getElem? hg)
        by_cases e : i = j
        · subst e
          simp only [if_pos, Option.map_eq_map, Option.map_some, Option.some.injEq] at hj
          subst hj
          simp only [St.lenAt, hg] at hb
          simp only [List.length_append]
          omega
        · simp only [if_neg e, Option.map_eq_map, Option.map_some, Option.some.injEq] at hj
          subst hj; exact hgm }

end Go.Dx

namespace Go.Dx
open Go.RowKit Go.Proofs

def BV (l : List UInt8) : List Value := l.map fun b => .int .u8 b.toNat
theorem BV_length (l : List UInt8) : (BV l).length = l.length := by simp [BV]
theorem BV_append (l m : List UInt8) : BV l ++ BV m = BV (l ++ m) := by simp [BV]
theorem BV_take (l : List UInt8) (n : Nat) : (BV l).take n = BV (l.take n) := by simp [BV]
theorem BV_one (l : List UInt8) : ∀ u ∈ BV l, u.oneCell' = true := by
  intro u hu
  obtain ⟨b, _, rfl⟩ := List.mem_map.1 hu
  rfl
theorem BV_get (l : List UInt8) (i : Nat) : (BV l)[i]? = (l[i]?).map fun b => .int .u8 b.toNat := by simp [BV]

theorem info5 : (Try.prog.info? 5).map (fun i => (i.zero, i.size, i.bytes)) = some (some (.int .u8 0), 1, 1) := by kernel_rfl
theorem info9 : (Try.prog.info? 9).map (fun i => (i.zero, i.size, i.bytes)) = some (some (.string ByteArray.empty), 1, 16) := by kernel_rfl
theorem info60 : (Try.prog.info? 60).map (fun i => (i.zero, i.size, i.bytes)) = some (some (.agg #[.string ByteArray.empty, .slice none 0 0, .int .i64 0]), 3, 48) := by kernel_rfl
theorem info94 : (Try.prog.info? 94).map (fun i => (i.zero, i.size, i.bytes)) = some (some (.agg #[.int .i64 0, .string ByteArray.empty, .string ByteArray.empty, .pointer none]), 4, 48) := by kernel_rfl
theorem info86 : (Try.prog.info? 86).map (fun i => (i.zero, i.size, i.bytes)) = some (some (.pointer none), 1, 8) := by kernel_rfl
theorem info25 : (Try.prog.info? 25).map (fun i => (i.zero, i.size, i.bytes)) = some (some (.pointer none), 1, 8) := by kernel_rfl
theorem info88 : (Try.prog.info? 88).map (fun i => (i.zero, i.size, i.bytes)) = some (some (.agg #[.string ByteArray.empty, .int .i64 0]), 2, 24) := by kernel_rfl
theorem info116 : (Try.prog.info? 116).map (fun i => (i.zero, i.size, i.bytes)) = some (some (.agg #[.int .i64 0, .string ByteArray.empty, .string ByteArray.empty, .int .i64 0]), 4, 48) := by kernel_rfl
theorem info52 : (Try.prog.info? 52).map (fun i => (i.zero, i.size, i.bytes)) = some (some (.agg #[.string ByteArray.empty, .slice none 0 0]), 2, 40) := by kernel_rfl
theorem info3 : (Try.prog.info? 3).map (fun i => (i.zero, i.size, i.bytes)) = some (some (.int .i64 0), 1, 8) := by kernel_rfl

theorem conv_rd {w : World} {S : Nat → Prop} {A : Option Addr} {l : List UInt8} (h : Rd w S A (BV l)) (c : Nat) : (convert 43 9 (.slice A l.length c)).run Try.prog w = .ok (.string ⟨l.toArray⟩) w := by
  cases A with
  | none =>
    have : l = [] := by
      cases l with
      | nil => rfl
      | cons x l => obtain ⟨b, o, e, _⟩ := h (by simp [BV]); cases e
    subst this
    rw [run_convert_bytes_string w 43 9 5 none _ _ Try.underlying43 Try.underlying5 Try.underlying9]
    rfl
  | some a =>
    refine run_convert_bytes_back w 43 9 5 a c l Try.underlying43 Try.underlying5 Try.underlying9 ?_
    intro j hj
    obtain ⟨b, o, e, _, hr⟩ := h (by rw [BV_length]; omega)
    cases e
    exact hr.add j _ (by rw [BV_get, List.getElem?_eq_getElem hj]; rfl)

end Go.Dx

namespace Go.Dx
open Go.RowKit Go.Proofs

theorem ret_bool {a b : Bool} (h : a = b) : Ending.returned (.bool a) = .returned (.bool b) := by rw [h]
theorem ret_int {k : IntKind} {a b : Int} (h : a = b) : Ending.returned (.int k a) = .returned (.int k b) := by rw [h]

set_option maxRecDepth 100000 in
set_option maxHeartbeats 400000 in
theorem sameBytes_any {w : World} {S T : Nat → Prop} {A B : Option Addr} {l m : List UInt8} (ha : Rd w S A (BV l)) (hb : Rd w T B (BV m)) (c d : Nat) :
    Calls Try.prog 40 #[.slice A l.length c, .slice B m.length d] w fun e w' => e = .returned (.bool (decide (l = m))) ∧ w = w' := by
  have h1 := conv_rd ha c
  have h2 := conv_rd hb d
  clear ha hb
  go_enter Try.func40, Try.ntmps40
  go_wp2
  go_ret
  exact ⟨ret_bool (by rw [Bool.eq_iff_iff]; simp), rfl⟩

set_option maxHeartbeats 400000 in
theorem down_any {w : World} {D : Nat} {b : Bool} (h : w.cell? ⟨D, 8, none⟩ = some (.bool b)) :
    Calls Try.prog 16 #[.pointer (some ⟨D, 0, none⟩)] w fun e w' => e = .returned (.bool b) ∧ w = w' := by
  go_enter Try.func16, Try.ntmps16
  go_wp2
  go_ret
  exact ⟨rfl, rfl⟩

def CloneR (w : World) (l : List UInt8) (e : Ending) (w' : World) : Prop :=
  ∃ A' c', e = .returned (.slice A' l.length c') ∧ Own w' 5 1 A' l.length c' (BV l) ∧ Keep No w w' ∧ (∀ k, bk A' = some k → New w w' k)

set_option maxRecDepth 100000 in
set_option maxHeartbeats 400000 in
theorem clone_any {w : World} {S : Nat → Prop} {A : Option Addr} {l : List UInt8} (ha : Rd w S A (BV l)) (hS : ∀ k, S k → k < w.heap.size) (c : Nat) (hl : l.length ≤ 140737488355328) :
    Calls Try.prog 46 #[.slice A l.length c] w (CloneR w l) := by
  cases A with
  | none =>
    have : l = [] := by
      cases l with
      | nil => rfl
      | cons x l => obtain ⟨b, o, e, _⟩ := ha (by simp [BV]); cases e
    subst this
    have hq := fun W : World => Lib.run_eql_slice_nil (P := Try.prog) W 43 5 none 0 c 0 0 Try.underlying43
    go_enter Try.func46, Try.ntmps46
    go_wp2_with fail
    go_ret
    exact ⟨none, 0, rfl, Own.nil _ _ _, Keep.refl _ _, by simp⟩
  | some a =>
    have hown : Own (w.alloc (.cells #[] 5)) 5 1 (some ⟨w.heap.size, 0, none⟩) 0 0 [] :=
      ⟨by simp, .inr ⟨w.heap.size, #[], rfl, alloc_new w _, by omega, by omega, by simp, by simp⟩⟩
    have ha' : Rd (w.alloc (.cells #[] 5)) S (some a) (BV l) := ha.same (T := S) (fun k hk => alloc_old w _ (hS k hk)) fun _ h => h
    have hq := fun W : World => Lib.run_eql_slice_nil (P := Try.prog) W 43 5 (some a) l.length c 0 0 Try.underlying43
    go_enter Try.func46, Try.ntmps46
    go_wp2_with (refine wpList_app (by rfl) (.tmp 5) (.tmp 6) 43 43 rfl hown Try.underlying43 info5 rfl (by omega) rfl rfl (src_rd (news := BV l) (m := l.length) (c := c) Try.underlying43 ha' (by simp [BV]) (by omega) (BV_one _)) (by unfold maxLen; omega) (by omega) ?_; intro A' c' w1 hO hK hA)
    go_ret
    rw [Nat.zero_add, List.nil_append] at hO
    refine ⟨A', c', rfl, hO, ?_, ?_⟩
    · refine ((Keep.refl _ w).alloc _).trans (hK.mono (G := fun k => k = w.heap.size) (fun k _ h => by simpa using h)) (fun i hi h => by omega)
    · intro k hk
      have hz := hK.size
      rw [World.size_alloc] at hz
      rcases hA with rfl | ⟨rfl, hlt⟩
      · simp at hk; exact ⟨by omega, by omega⟩
      · simp at hk hlt; exact ⟨by omega, by omega⟩


/-! ### names -/
def okTo (n : Nm) (k : Nat) : Bool := (n.data.toList.take k).all okc
theorem okTo_succ (n : Nm) (k : Nat) (h : k < n.size) : okTo n (k + 1) = (okTo n k && okc n[k]) := by
  unfold okTo
  have : n.data.toList.take (k + 1) = n.data.toList.take k ++ [n[k]] := by
    rw [List.take_succ_eq_append_getElem (by simpa using h)]; rfl
  rw [this, List.all_append]; simp
theorem okTo_all (n : Nm) : okTo n n.size = n.data.toList.all okc := by
  unfold okTo
  rw [List.take_of_length_le (by simp)]
theorem okTo_le (n : Nm) (k : Nat) (h : okTo n k = false) : n.data.toList.all okc = false := by
  rw [Bool.eq_false_iff]
  intro h'
  rw [List.all_eq_true] at h'
  have : okTo n k = true := by
    unfold okTo
    rw [List.all_eq_true]
    exact fun x hx => h' x (List.mem_of_mem_take hx)
  rw [this] at h; cases h
theorem right_of (n : Nm) (h1 : 1 ≤ n.size) (h2 : n.size ≤ 24) : right n = n.data.toList.all okc := by
  simp [right, h1, h2]
theorem right_short (n : Nm) (h : ¬ 1 ≤ n.size) : right n = false := by simp only [right, h, decide_false, Bool.false_and]
theorem right_long (n : Nm) (h : ¬ n.size ≤ 24) : right n = false := by simp only [right, h, decide_false, Bool.false_and, Bool.and_false]
theorem parts (c : Nat) : c < 45 ∨ (45 ≤ c ∧ c ≤ 45) ∨ (46 ≤ c ∧ c < 48) ∨ (48 ≤ c ∧ c ≤ 57) ∨ (58 ≤ c ∧ c ≤ 96) ∨ (97 ≤ c ∧ c ≤ 122) ∨ 123 ≤ c := by omega
theorem okc_no {c : UInt8} (h : c.toNat < 45 ∨ (46 ≤ c.toNat ∧ c.toNat < 48) ∨ (58 ≤ c.toNat ∧ c.toNat ≤ 96) ∨ 123 ≤ c.toNat) : okc c = false := by
  have h1 : ¬ c.toNat = 45 := by omega
  have h2 : ¬ (97 ≤ c.toNat ∧ c.toNat ≤ 122) := by omega
  have h3 : ¬ (48 ≤ c.toNat ∧ c.toNat ≤ 57) := by omega
  unfold okc
  simp only [← Bool.decide_and, h1, h2, h3, decide_false, Bool.or_self]
theorem okc_yes {c : UInt8} (h : (45 ≤ c.toNat ∧ c.toNat ≤ 45) ∨ (97 ≤ c.toNat ∧ c.toNat ≤ 122) ∨ (48 ≤ c.toNat ∧ c.toNat ≤ 57)) : okc c = true := by
  unfold okc
  rcases h with h | h | h
  · simp only [show c.toNat = 45 by omega]; rfl
  · simp only [h.1, h.2, decide_true, Bool.and_self, Bool.true_or]
  · simp only [h.1, h.2, decide_true, Bool.and_self, Bool.or_true, Bool.true_or]
theorem step_no {n : Nm} {k : Nat} (h : k < n.size) (hc : okc n[k] = false) : n.data.toList.all okc = false := by
  have : okTo n (k + 1) = false := by rw [okTo_succ n k h, hc, Bool.and_false]
  exact okTo_le _ _ this
theorem step_yes {n : Nm} {k : Nat} (h : k < n.size) (hk : okTo n k = true) (hc : okc n[k] = true) : okTo n (k + 1) = true := by
  rw [okTo_succ n k h, hk, hc]; rfl

set_option maxRecDepth 100000 in
set_option maxHeartbeats 1000000 in
theorem okB_any (n : Nm) (w : World) (hn : n.size ≤ 140737488355328) :
    Calls Try.prog 60 #[.string n] w fun e w' => e = .returned (.bool (right n)) ∧ w = w' := by
  by_cases h1 : 1 ≤ n.size
  · by_cases h2 : n.size ≤ 24
    · have hd1 : decide ((n.size : Int) < 1) = false := by simp; omega
      have hd2 : decide ((24 : Int) < n.size) = false := by simp; omega
      have hfin := Lib.hid (right_of n h1 h2)
      go_enter Try.func60, Try.ntmps60
      go_wp2
      go_loop [3] (fun i => ∃ k : Nat, k ≤ n.size ∧ i = .int .i64 k ∧ Hid (okTo n k = true)) (fun i => n.size - (intOf i).toNat)
      case atStart => exact ⟨0, by omega, rfl, by simp [Hid, okTo]⟩
      case round =>
        obtain ⟨k, hk, rfl, hok⟩ := hrel
        by_cases hlt : k < n.size
        · have hlt' : (k : Int) < n.size := by omega
          rcases parts n[k].toNat with hc | hc | hc | hc | hc | hc | hc
          all_goals (first | have d1 : decide ((n[k].toNat : Int) ≤ 122) = true := decide_eq_true (by omega) | have d1 : decide ((n[k].toNat : Int) ≤ 122) = false := decide_eq_false (by omega))
          all_goals (first | have d2 : decide ((n[k].toNat : Int) ≤ 57) = true := decide_eq_true (by omega) | have d2 : decide ((n[k].toNat : Int) ≤ 57) = false := decide_eq_false (by omega))
          all_goals
            first
              | (have hno : Hid (n.data.toList.all okc = false) := step_no hlt (okc_no (by omega))
                 have he : ((n[k].toNat : Int) == 45) = false := beq_eq_false_iff_ne.2 (by omega)
                 go_wp2
                 go_ret
                 exact ⟨ret_bool (by rw [hfin.out, hno.out]), rfl⟩)
              | (have hyes : Hid (okTo n (k + 1) = true) := step_yes hlt hok.out (okc_yes (by omega))
                 first
                   | (have he : ((n[k].toNat : Int) == 45) = true := beq_iff_eq.2 (by omega)
                      go_wp2
                      go_round
                      case rel => exact ⟨k + 1, by omega, by go_num, hyes⟩
                      case measure => simp [intOf]; omega)
                   | (have he : ((n[k].toNat : Int) == 45) = false := beq_eq_false_iff_ne.2 (by omega)
                      go_wp2
                      go_round
                      case rel => exact ⟨k + 1, by omega, by go_num, hyes⟩
                      case measure => simp [intOf]; omega))
        · obtain rfl : k = n.size := by omega
          have hall : Hid (n.data.toList.all okc = true) := (okTo_all n).symm.trans hok.out
          go_wp2
          go_ret
          exact ⟨ret_bool (by rw [hfin.out, hall.out]), rfl⟩
    · have hd1 : decide ((n.size : Int) < 1) = false := by simp; omega
      have hd2 : decide ((24 : Int) < n.size) = true := by simp; omega
      have hfin := Lib.hid (right_long n h2)
      go_enter Try.func60, Try.ntmps60
      go_wp2
      go_ret
      exact ⟨ret_bool hfin.out.symm, rfl⟩
  · have hd1 : decide ((n.size : Int) < 1) = true := by simp; omega
    have hfin := Lib.hid (right_short n h1)
    go_enter Try.func60, Try.ntmps60
    go_wp2
    go_ret
    exact ⟨ret_bool hfin.out.symm, rfl⟩

theorem conv_bytes (w : World) (n : Nm) : ∃ c w1, (convert 9 43 (.string n)).run Try.prog w = .ok (.slice (some ⟨w.heap.size, 0, none⟩) n.size c) w1 ∧ Keep No w w1 ∧ ∀ k (h : k < n.size), w1.cell? ⟨w.heap.size, k, none⟩ = some (.int .u8 n[k].toNat) := by
  have hr := run_bytes_of_string (P := Try.prog) w 9 43 5 n Try.underlying9 Try.underlying43 Try.underlying5
  refine ⟨_, _, hr, (Keep.refl No w).drew.alloc _, fun k h => ?_⟩
  have hb := alloc_new w.drew (.cells (bytesRow n (grownCap w n.size 0 5)) 5 ((bytesRow n (grownCap w n.size 0 5)).size, (bytesRow n (grownCap w n.size 0 5)).size + 1))
  rw [cell_blk (g := w.heap.size) hb]
  have h' : k < n.data.size := h
  simp [bytesRow, Array.getElem?_append]
  rw [if_pos h, Array.getElem?_eq_getElem h']; rfl

set_option maxRecDepth 100000 in
set_option maxHeartbeats 1000000 in
theorem okA_any (n : Nm) (w : World) (hn : n.size ≤ 140737488355328) :
    Calls Try.prog 45 #[.string n] w fun e w' => e = .returned (.bool (right n)) ∧ Keep No w w' := by
  obtain ⟨c, w1, hconv, hkeep, hcell⟩ := conv_bytes w n
  have Hk := Lib.hid hkeep
  have Hc := Lib.hid hcell
  clear hkeep hcell
  go_enter Try.func45, Try.ntmps45
  go_wp2
  go_loop [8] (fun i => ∃ k : Nat, k ≤ n.size ∧ i = .int .i64 k ∧ Hid (okTo n k = true)) (fun i => n.size - (intOf i).toNat)
  case atStart => exact ⟨0, by omega, rfl, by simp [Hid, okTo]⟩
  case round =>
    obtain ⟨k, hk, rfl, hok⟩ := hrel
    by_cases hlt : k < n.size
    · have hlt' : (k : Int) < n.size := by omega
      have hcell := Hc.out k hlt
      rcases parts n[k].toNat with hc | hc | hc | hc | hc | hc | hc
      all_goals
        first
          | (have hno : Hid (right n = false) := by
               have := step_no hlt (okc_no (by omega))
               unfold right Hid
               rw [this, Bool.and_false]
             have he : ((n[k].toNat : Int) != 45) = true := by rw [bne_iff_ne]; omega
             go_wp2
             go_ret
             exact ⟨ret_bool hno.out.symm, Hk.out⟩)
          | (have hyes : Hid (okTo n (k + 1) = true) := step_yes hlt hok.out (okc_yes (by omega))
             first
               | (have he : ((n[k].toNat : Int) != 45) = false := by rw [bne_eq_false_iff_eq]; omega
                  go_wp2
                  go_round
                  case rel => exact ⟨k + 1, by omega, by go_num, hyes⟩
                  case measure => simp [intOf]; omega)
               | (have he : ((n[k].toNat : Int) != 45) = true := by rw [bne_iff_ne]; omega
                  go_wp2
                  go_round
                  case rel => exact ⟨k + 1, by omega, by go_num, hyes⟩
                  case measure => simp [intOf]; omega))
    · obtain rfl : k = n.size := by omega
      have hall : Hid (n.data.toList.all okc = true) := (okTo_all n).symm.trans hok.out
      by_cases h1 : 1 ≤ n.size
      · have he : n.toList.isEmpty = false := by
          rw [Go.ByteArray.toList_eq]
          simp only [List.isEmpty_eq_false_iff, ne_eq]
          intro e
          have h2 : n.data.size = 0 := by rw [← Array.length_toList, e]; rfl
          have h3 : n.data.size = n.size := rfl
          omega
        have he2 : (!n.toList.isEmpty) = true := by rw [he]; rfl
        have hfin : Hid (right n = decide (n.size ≤ 24)) := by
          unfold right Hid
          rw [hall.out]
          simp [h1]
        go_wp2
        all_goals
          go_ret
          exact ⟨ret_bool (by rw [hfin.out]; simp; omega), Hk.out⟩
      · have he : n.toList.isEmpty = true := by
          rw [Go.ByteArray.toList_eq]
          have h3 : n.data.size = n.size := rfl
          have h4 : n.data.toList.length = 0 := by rw [Array.length_toList, h3]; omega
          rw [List.eq_nil_of_length_eq_zero h4]; rfl
        have he2 : (!n.toList.isEmpty) = false := by rw [he]; rfl
        have hfin := Lib.hid (right_short n h1)
        go_wp2
        go_ret
        exact ⟨ret_bool hfin.out.symm, Hk.out⟩

end Go.Dx

namespace Go.Dx
open Go.RowKit Go.Proofs

structure PL where
  m1 : Nat
  m2 : Nat
  cA : Option Addr
  cC : Nat
  fb : List Nat
  fd : List (Option Addr × Nat)

def ptrV (fb : List Nat) (i : Nat) : Value := .pointer (some ⟨fb.getD i 0, 0, none⟩)
def dirV (fb : List Nat) (d : Dir Nat) : Dir Value := d.map fun x => (x.1, ptrV fb x.2)
def chV (fb : List Nat) : Ch → List Value
  | .mk n i => [.int .i64 0, .string n, .string ByteArray.empty, ptrV fb i]
  | .ren a b => [.int .i64 1, .string a, .string b, .pointer none]
  | .del n => [.int .i64 2, .string n, .string ByteArray.empty, .pointer none]
theorem chV_len (fb : List Nat) (c : Ch) : (chV fb c).length = 4 := by cases c <;> rfl
def chsV (fb : List Nat) (l : List Ch) : List Value := l.flatMap (chV fb)
theorem chsV_len (fb : List Nat) : ∀ l : List Ch, (chsV fb l).length = l.length * 4
  | [] => rfl
  | c :: l => by
    have := chsV_len fb l
    unfold chsV at *
    rw [List.flatMap_cons, List.length_append, this, chV_len, List.length_cons]; omega
def diskC (s : St) (L : PL) : Array Value :=
  #[.int .i64 s.room, .map (some L.m1), .map (some L.m2), .slice L.cA s.changes.length L.cC, .int .i64 s.left, .int .i64 s.well, .int .i64 s.fails, .int .i64 s.part, .bool s.down]
def fileC (f : FV) (d : Option Addr × Nat) : Array Value := #[.slice d.1 f.data.length d.2, .int .i64 f.sure]

structure FilesAt (w : World) (e : TypeId) (fs : List FV) (fb : List Nat) (fd : List (Option Addr × Nat)) : Prop where
  fbl : fb.length = fs.length
  fdl : fd.length = fs.length
  file : ∀ (i : Nat) (f : FV), fs[i]? = some f → ∃ b d, fb[i]? = some b ∧ fd[i]? = some d ∧ w.heap[b]? = some (.cells (fileC f d) e (0, 0)) ∧ Own w 5 1 d.1 f.data.length d.2 (BV f.data)
  nod : fb.Nodup
  apart : ∀ (i j : Nat) (x y : Option Addr × Nat), i ≠ j → fd[i]? = some x → fd[j]? = some y → ∀ k, bk x.1 = some k → bk y.1 ≠ some k
def footF (fb : List Nat) (fd : List (Option Addr × Nat)) : Nat → Prop := fun k => k ∈ fb ∨ ∃ d ∈ fd, bk d.1 = some k

structure PDL (w : World) (D : Nat) (s : St) (L : PL) : Prop where
  disk : w.heap[D]? = some (.cells (diskC s L) 80 (0, 0))
  now : MapP w L.m1 (dirV L.fb s.now)
  sure : MapP w L.m2 (dirV L.fb s.sure)
  chs : Own w 94 4 L.cA s.changes.length L.cC (chsV L.fb s.changes)
  files : FilesAt w 100 s.files L.fb L.fd
  m12 : L.m1 ≠ L.m2

def foot (D : Nat) (L : PL) : Nat → Prop := fun k => k = D ∨ k = L.m1 ∨ k = L.m2 ∨ bk L.cA = some k ∨ footF L.fb L.fd k

section
variable {w w' : World} {D : Nat} {s : St} {L : PL}

theorem FilesAt.same {e : TypeId} {fs : List FV} {fb : List Nat} {fd : List (Option Addr × Nat)} (h : FilesAt w e fs fb fd) {S : Nat → Prop} (hs : Same S w w') (hS : ∀ k, footF fb fd k → S k) : FilesAt w' e fs fb fd := by
  refine ⟨h.fbl, h.fdl, fun i f hf => ?_, h.nod, h.apart⟩
  obtain ⟨b, d, h1, h2, h3, h4⟩ := h.file i f hf
  exact ⟨b, d, h1, h2, (hs b (hS b (.inl (List.mem_of_getElem? h1)))).trans h3, h4.same hs fun k hk => hS k (.inr ⟨d, List.mem_of_getElem? h2, hk⟩)⟩
theorem FilesAt.lt {e : TypeId} {fs : List FV} {fb : List Nat} {fd : List (Option Addr × Nat)} (h : FilesAt w e fs fb fd) : ∀ k, footF fb fd k → k < w.heap.size := by
  rintro k (hk | ⟨d, hd, hk⟩)
  · obtain ⟨i, hi⟩ := List.mem_iff_getElem?.1 hk
    have hlt := (List.getElem?_eq_some_iff.1 hi).1
    rw [h.fbl] at hlt
    obtain ⟨b, d, h1, h2, h3, h4⟩ := h.file i _ (List.getElem?_eq_getElem hlt)
    rw [hi] at h1
    cases h1
    exact lt_blk h3
  · obtain ⟨i, hi⟩ := List.mem_iff_getElem?.1 hd
    have hlt := (List.getElem?_eq_some_iff.1 hi).1
    rw [h.fdl] at hlt
    obtain ⟨b, d', h1, h2, h3, h4⟩ := h.file i _ (List.getElem?_eq_getElem hlt)
    rw [hi] at h2
    cases h2
    exact h4.lt hk
/-- What stands in a file's block, or its bytes' block. -/
theorem FilesAt.obj {e : TypeId} {fs : List FV} {fb : List Nat} {fd : List (Option Addr × Nat)} (h : FilesAt w e fs fb fd) : ∀ k, footF fb fd k → ∃ cs t, w.heap[k]? = some (.cells cs t (0, 0)) ∧ (t = e ∨ t = 5) := by
  rintro k (hk | ⟨d, hd, hk⟩)
  · obtain ⟨i, hi⟩ := List.mem_iff_getElem?.1 hk
    have hlt := (List.getElem?_eq_some_iff.1 hi).1
    rw [h.fbl] at hlt
    obtain ⟨b, d, h1, h2, h3, h4⟩ := h.file i _ (List.getElem?_eq_getElem hlt)
    rw [hi] at h1
    cases h1
    exact ⟨_, _, h3, .inl rfl⟩
  · obtain ⟨i, hi⟩ := List.mem_iff_getElem?.1 hd
    have hlt := (List.getElem?_eq_some_iff.1 hi).1
    rw [h.fdl] at hlt
    obtain ⟨b, d', h1, h2, h3, h4⟩ := h.file i _ (List.getElem?_eq_getElem hlt)
    rw [hi] at h2
    cases h2
    rcases h4.2 with ⟨h0, _⟩ | ⟨g, cur, h0, hg, _⟩
    · rw [h0] at hk; simp at hk
    · rw [h0] at hk; simp at hk; subst hk; exact ⟨_, _, hg, .inr rfl⟩

theorem PDL.same (h : PDL w D s L) {S : Nat → Prop} (hs : Same S w w') (hS : ∀ k, foot D L k → S k) : PDL w' D s L where
  disk := (hs D (hS D (.inl rfl))).trans h.disk
  now := h.now.same (hs _ (hS _ (.inr (.inl rfl))))
  sure := h.sure.same (hs _ (hS _ (.inr (.inr (.inl rfl)))))
  chs := h.chs.same hs fun k hk => hS k (.inr (.inr (.inr (.inl hk))))
  files := h.files.same hs fun k hk => hS k (.inr (.inr (.inr (.inr hk))))
  m12 := h.m12
theorem PDL.lt (h : PDL w D s L) : ∀ k, foot D L k → k < w.heap.size := by
  rintro k (rfl | rfl | rfl | hk | hk)
  · exact lt_blk h.disk
  · exact h.now.lt
  · exact h.sure.lt
  · exact h.chs.lt hk
  · exact h.files.lt k hk
theorem PDL.keep (h : PDL w D s L) {F : Nat → Prop} (hk : Keep F w w') (hF : ∀ k, foot D L k → ¬ F k) : PDL w' D s L :=
  h.same (S := foot D L) (fun k hk' => hk.block k (h.lt k hk') (hF k hk')) fun _ h => h
theorem PDL.cell (h : PDL w D s L) (i : Nat) {v : Value} (hv : (diskC s L)[i]? = some v) : w.cell? ⟨D, i, none⟩ = some v := (cell_blk h.disk i).trans hv
theorem PDL.froz (h : PDL w D s L) (i : Nat) : w.frozen? ⟨D, i, none⟩ = false := froz_blk h.disk i
theorem MapP.ne_cells {r g : Nat} {kv : Dir Value} (h : MapP w r kv) {cs : Array Value} {t : TypeId} {fr : Nat × Nat} (hg : w.heap[g]? = some (.cells cs t fr)) : r ≠ g := by
  rintro rfl
  obtain ⟨es, ck, h1, _⟩ := h
  rw [h1] at hg; cases hg
theorem ne_type {g g' : Nat} {cs cs' : Array Value} {t t' : TypeId} {fr fr' : Nat × Nat} (h : w.heap[g]? = some (.cells cs t fr)) (h' : w.heap[g']? = some (.cells cs' t' fr')) (ht : t ≠ t') : g ≠ g' := by
  rintro rfl
  rw [h] at h'
  injection h' with h'
  injection h' with _ e
  exact ht e
/-- Nothing else of a disk lies in the disk's own block. -/
theorem PDL.neD (h : PDL w D s L) : ∀ k, (k = L.m1 ∨ k = L.m2 ∨ bk L.cA = some k ∨ footF L.fb L.fd k) → k ≠ D := by
  rintro k (rfl | rfl | hk | hk)
  · exact h.now.ne_cells h.disk
  · exact h.sure.ne_cells h.disk
  · rintro rfl; exact h.chs.ne_blk h.disk (by decide) hk
  · obtain ⟨cs, t, hb, ht⟩ := h.files.obj k hk
    exact ne_type hb h.disk (by rcases ht with rfl | rfl <;> decide)
/-- The disk's own block is written: its numbers. -/
theorem PDL.reDisk (h : PDL w D s L) {s' : St} (hk : Keep (fun k => k = D) w w') (hd : w'.heap[D]? = some (.cells (diskC s' L) 80 (0, 0)))
    (e1 : s'.files = s.files) (e2 : s'.now = s.now) (e3 : s'.sure = s.sure) (e4 : s'.changes = s.changes) : PDL w' D s' L := by
  have hs : Same (fun k => k = L.m1 ∨ k = L.m2 ∨ bk L.cA = some k ∨ footF L.fb L.fd k) w w' := fun k hk' => hk.block k (h.lt k (.inr hk')) (h.neD k hk')
  exact ⟨hd, by rw [e2]; exact h.now.same (hs _ (.inl rfl)), by rw [e3]; exact h.sure.same (hs _ (.inr (.inl rfl))), by rw [e4]; exact h.chs.same hs fun k hk => .inr (.inr (.inl hk)), by rw [e1]; exact h.files.same hs fun k hk => .inr (.inr (.inr hk)), h.m12⟩
end

/-! ### the walks that touch the disk's numbers alone -/
set_option maxRecDepth 100000 in
set_option maxHeartbeats 1000000 in
theorem falls_any {w : World} {D : Nat} {s : St} {L : PL} (h : PDL w D s L) (hb : s.left < 9223372036854775808) (cost : Int) (hc : 0 ≤ cost) (hc2 : cost < 9223372036854775808) :
    Calls Try.prog 50 #[.pointer (some ⟨D, 0, none⟩), .int .i64 cost] w fun e w' =>
      e = .returned (.tuple #[.int .i64 ((s.fls cost.toNat).1 : Nat), .bool (s.fls cost.toNat).2.1]) ∧ PDL w' D (s.fls cost.toNat).2.2 L ∧ Keep (fun k => k = D) w w' := by
  have c4 : w.cell? ⟨D, 4, none⟩ = some (.int .i64 s.left) := h.cell 4 rfl
  have c5 : w.cell? ⟨D, 5, none⟩ = some (.int .i64 s.well) := h.cell 5 rfl
  have c6 : w.cell? ⟨D, 6, none⟩ = some (.int .i64 s.fails) := h.cell 6 rfl
  have c7 : w.cell? ⟨D, 7, none⟩ = some (.int .i64 s.part) := h.cell 7 rfl
  have c8 : w.cell? ⟨D, 8, none⟩ = some (.bool s.down) := h.cell 8 rfl
  have z4 := h.froz 4
  have z5 := h.froz 5
  have z6 := h.froz 6
  have z7 := h.froz 7
  have z8 := h.froz 8
  have H := Lib.hid h
  clear h
  by_cases h0 : s.left = 0
  · have hf : Hid (s.fls cost.toNat = (0, false, s)) := by simp [Hid, St.fls, h0]
    have e0 : ((s.left : Int) == 0) = true := by simp [h0]
    clear h0
    go_enter Try.func50, Try.ntmps50
    go_wp2
    go_ret2
    rw [hf.out]
    exact ⟨rfl, H.out, Keep.refl _ _⟩
  · have e0 : ((s.left : Int) == 0) = false := by simp [h0]
    by_cases h1 : cost.toNat < s.left
    · have hf : Hid (s.fls cost.toNat = (0, false, { s with left := s.left - cost.toNat })) := by simp [Hid, St.fls, h0, h1]
      have h1' : cost < s.left := by omega
      have e2 : Hid ((s.left : Int) - cost = ((s.left - cost.toNat : Nat) : Int)) := by unfold Hid; omega
      clear h0
      go_enter Try.func50, Try.ntmps50
      go_wp2
      go_ret2
      rw [hf.out, e2.out]
      have k := (Keep.refl (fun k => k = D) w).setAt rfl 4 (.int .i64 ((s.left - cost.toNat : Nat) : Int))
      exact ⟨rfl, H.out.reDisk k (set_blk H.out.disk 4 _) rfl rfl rfl rfl, k⟩
    · have hf : Hid (s.fls cost.toNat = (s.left - 1, true, { s with left := 0, well := 0, fails := 0, part := 0, down := true })) := by simp [Hid, St.fls, h0, h1]
      have h1' : (s.left : Int) ≤ cost := by omega
      have h1'' : (1 : Int) ≤ s.left := by omega
      have e2 : Hid ((s.left : Int) - 1 = ((s.left - 1 : Nat) : Int)) := by unfold Hid; omega
      clear h0
      go_enter Try.func50, Try.ntmps50
      go_wp2
      go_ret2
      rw [hf.out, e2.out]
      have k := (((((Keep.refl (fun k => k = D) w).setAt rfl 8 (.bool true)).setAt rfl 4 (.int .i64 0)).setAt rfl 5 (.int .i64 0)).setAt rfl 6 (.int .i64 0)).setAt rfl 7 (.int .i64 0)
      have b := set_blk (set_blk (set_blk (set_blk (set_blk H.out.disk 8 (.bool true)) 4 (.int .i64 0)) 5 (.int .i64 0)) 6 (.int .i64 0)) 7 (.int .i64 0)
      exact ⟨rfl, H.out.reDisk k b rfl rfl rfl rfl, k⟩

end Go.Dx

namespace Go.Dx
open Go.RowKit

section
variable {P : Program} {ops : Array Oper} {Q : Exit → Act → World → Prop} {S : World → Prop}

/-- Whatever order is picked from here on; behind all but the last operation S holds. -/
def wpT (P : Program) (ops : Array Oper) (Q : Exit → Act → World → Prop) (S : World → Prop) : Nat → Array Bool → Act → World → Prop
  | 0, listed, a, w => Region.ready .any ops listed = [] ∧ Q .normal a w
  | fuel + 1, listed, a, w =>
    (Region.ready .any ops listed = [] → Q .normal a w) ∧
    ∀ i ∈ Region.ready .any ops listed, wpOp P ops Q i (fun a' w' => (i + 1 ≠ ops.size → S w') ∧ wpT P ops Q S fuel (listed.setIfInBounds i true) a' w') a w

theorem any_of_T : ∀ (fuel : Nat) (listed : Array Bool) (a : Act) (w : World), wpT P ops Q S fuel listed a w → wpAny P .any ops Q fuel listed a w
  | 0, _, _, _, h => h
  | fuel + 1, _, _, _, h => ⟨h.1, fun i hi => wpOp_mono (fun a' w' h' => any_of_T fuel _ a' w' h'.2) (h.2 i hi)⟩

/-- Whoever waits for something that is marked's own forerunners: one sweep from the last operation down. -/
def markPreds (ops : Array Oper) (j : Nat) (m : Array Bool) : Array Bool :=
  match ops[j]? with
  | some o => o.after.toList.foldl (fun m e => if Region.binds .any e then m.setIfInBounds e.on true else m) m
  | none => m
def sweep (ops : Array Oper) (l : List Nat) (m : Array Bool) : Array Bool := l.foldl (fun m j => if m.getD j false then markPreds ops j m else m) m
/-- The last operation waits for all others, through others too. -/
def lastB (ops : Array Oper) : Bool :=
  let m := sweep ops (List.range ops.size).reverse ((Array.replicate ops.size false).setIfInBounds (ops.size - 1) true)
  (List.range (ops.size - 1)).all fun i => m.getD i false

def Closed (ops : Array Oper) (listed : Array Bool) : Prop :=
  ∀ j oj, ops[j]? = some oj → listed.getD j false = true → ∀ e ∈ oj.after, Region.binds .any e = true → listed.getD e.on false = true
theorem Closed.start (ops : Array Oper) (n : Nat) : Closed ops (Array.replicate n false) := fun j oj _ h => by rw [getD_replicate_false] at h; cases h
theorem Closed.set {listed : Array Bool} (h : Closed ops listed) {i : Nat} (hi : i ∈ Region.ready .any ops listed) : Closed ops (listed.setIfInBounds i true) := by
  obtain ⟨_, oi, hoi, hall⟩ := mem_ready.1 hi
  intro j oj hj hl e he hb
  by_cases hij : i = j
  · subst hij
    have : oj = oi := Option.some.inj (hj.symm.trans hoi)
    subst this
    exact getD_set_true (hall e he hb)
  · rw [getD_set_ne false hij] at hl
    exact getD_set_true (h j oj hj hl e he hb)

theorem getD_set_cases {m : Array Bool} {i j : Nat} (h : (m.setIfInBounds i true).getD j false = true) : j = i ∨ m.getD j false = true := by
  by_cases hij : i = j
  · exact .inl hij.symm
  · rw [getD_set_ne false hij] at h; exact .inr h
theorem markPreds_inv {A : Nat → Prop} {j : Nat} (hA : ∀ oj, ops[j]? = some oj → ∀ e ∈ oj.after, Region.binds .any e = true → A e.on) (m : Array Bool) (hm : ∀ i, m.getD i false = true → A i) : ∀ i, (markPreds ops j m).getD i false = true → A i := by
  unfold markPreds
  cases ho : ops[j]? with
  | none => exact hm
  | some o =>
    simp only []
    have hA := hA o ho
    have hl : ∀ e ∈ o.after.toList, e ∈ o.after := fun e he => by simpa using he
    generalize o.after.toList = l at *
    clear ho
    induction l generalizing m with
    | nil => exact hm
    | cons e l ih =>
      rw [List.foldl_cons]
      refine ih _ (fun i hi => ?_) fun e' he' => hl e' (List.mem_cons_of_mem _ he')
      split at hi
      · rename_i hb
        rcases getD_set_cases hi with rfl | hi
        · exact hA e (hl e List.mem_cons_self) hb
        · exact hm i hi
      · exact hm i hi
theorem sweep_inv {A : Nat → Prop} (hA : ∀ j, A j → ∀ oj, ops[j]? = some oj → ∀ e ∈ oj.after, Region.binds .any e = true → A e.on) : ∀ (l : List Nat) (m : Array Bool), (∀ i, m.getD i false = true → A i) → ∀ i, (sweep ops l m).getD i false = true → A i
  | [], _, hm => hm
  | j :: l, m, hm => by
    unfold sweep
    rw [List.foldl_cons]
    refine sweep_inv hA l _ fun i hi => ?_
    split at hi
    · rename_i hj
      exact markPreds_inv (hA j (hm j hj)) m hm i hi
    · exact hm i hi

theorem last_waits (hl : lastB ops = true) {i j : Nat} {listed : Array Bool} (hc : Closed ops listed) (hj : j ∈ Region.ready .any ops listed) (hjl : j + 1 = ops.size) (hi : i < j) (hu : listed.getD i true = false) : False := by
  obtain ⟨_, oj, hoj, hall⟩ := mem_ready.1 hj
  have h1 := List.all_eq_true.1 hl i (List.mem_range.2 (by omega))
  have h2 := sweep_inv (ops := ops) (A := fun q => q = j ∨ listed.getD q false = true) (fun q hq oq hoq e he hb => by
    right
    rcases hq with rfl | hq
    · have : oq = oj := Option.some.inj (hoq.symm.trans hoj)
      subst this
      exact hall e he hb
    · exact hc q oq hoq hq e he hb) _ _ (fun q hq => by
    left
    rcases getD_set_cases hq with rfl | hq
    · omega
    · rw [getD_replicate_false] at hq; cases hq) i h1
  rcases h2 with h2 | h2
  · omega
  · rcases Nat.lt_or_ge i listed.size with h' | h'
    · simp [h'] at hu h2; rw [hu] at h2; cases h2
    · simp [Array.getElem?_eq_none h'] at h2

theorem T_first (hl : lastB ops = true) {i : Nat} {oi : Oper} {v : Value} (hi : ops[i]? = some oi) (hil : i + 1 ≠ ops.size) (hsel : ∀ (j : Nat) (o : Oper) cs b, ops[j]? = some o → o.op ≠ .select cs b)
    (hQ : ∀ c a w, Q (.panic c) (a.put oi.dst v) w → Q (.panic c) a w) :
    ∀ (fuel : Nat) (listed : Array Bool) (a : Act) (w : World), Closed ops listed →
      (∀ j oj, ops[j]? = some oj → j ≠ i → listed.getD j true = false → (∀ e ∈ oj.after, Region.binds .any e = true → e.on ≠ i) → oi.apart ops oj = true) →
      i ∈ Region.ready .any ops listed → YieldsIf P ops S oi v a → S w →
      wpT P ops Q S fuel (listed.setIfInBounds i true) (a.put oi.dst v) w → wpT P ops Q S (fuel + 1) listed a w := by
  have hib := (Array.getElem?_eq_some_iff.1 hi).1
  intro fuel
  induction fuel with
  | zero =>
    intro listed a w _ _ hr hy hS H
    refine ⟨fun h => (by rw [h] at hr; cases hr), fun j hj => ?_⟩
    by_cases hji : j = i
    · subst hji; exact hy.wpOp hi hS ⟨fun _ => hS, H⟩
    · have := ready_mono hj hji
      rw [H.1] at this
      cases this
  | succ fuel ih =>
    intro listed a w hc hfree hr hy hS H
    refine ⟨fun h => (by rw [h] at hr; cases hr), fun j hj => ?_⟩
    by_cases hji : j = i
    · subst hji; exact hy.wpOp hi hS ⟨fun _ => hS, H⟩
    · have h1 := H.2 j (ready_mono hj hji)
      obtain ⟨hjun, oj, hoj, hall⟩ := mem_ready.1 hj
      have hnot : ∀ e ∈ oj.after, Region.binds .any e = true → e.on ≠ i := fun e he hb heq => by
        have h1 := hall e he hb
        have h0 := (mem_ready.1 hr).1
        rw [heq] at h1
        rcases Nat.lt_or_ge i listed.size with h' | h'
        · simp [h'] at h0 h1; rw [h0] at h1; cases h1
        · simp [Array.getElem?_eq_none h'] at h1
      have hjl : j + 1 ≠ ops.size := fun e => last_waits hl hc hj e (by
        have := (Array.getElem?_eq_some_iff.1 hoj).1
        omega) (mem_ready.1 hr).1
      have h2 := wpOp_putIf hoj (hfree j oj hoj hji hjun hnot) (fun cs b => hsel i oi cs b hi) (fun cs b => hsel j oj cs b hoj) hQ hy h1
      have hfree' : ∀ k ok, ops[k]? = some ok → k ≠ i → (listed.setIfInBounds j true).getD k true = false →
          (∀ e ∈ ok.after, Region.binds .any e = true → e.on ≠ i) → oi.apart ops ok = true := fun k ok hk hki hun hno => by
        refine hfree k ok hk hki ?_ hno
        by_cases hkj : j = k
        · subst hkj; exact hjun
        · rwa [getD_set_ne true hkj] at hun
      refine wpOp_mono (fun a' w' h3 => ?_) h2
      refine ⟨h3.2.1, ?_⟩
      refine ih _ _ _ (hc.set hj) hfree' (ready_mono hr (Ne.symm hji)) h3.1 (h3.2.1 hjl) ?_
      rw [Array.setIfInBounds_comm _ _ hji]
      exact h3.2.2

/-- The order in which the region is walked: each operation's number, and whether it is one that only reads (taken first). -/
def okT (ops : Array Oper) : List (Nat × Bool) → Array Bool → Bool
  | [], listed => (Region.ready .any ops listed).isEmpty
  | (i, true) :: r, listed => (Region.ready .any ops listed).contains i && Region.free .any ops listed i && i + 1 != ops.size && okT ops r (listed.setIfInBounds i true)
  | (i, false) :: r, listed => (Region.ready .any ops listed == [i]) && (!r.isEmpty || i + 1 == ops.size) && okT ops r (listed.setIfInBounds i true)

/-- The walk in that order. -/
def runT (P : Program) (ops : Array Oper) (Q : Exit → Act → World → Prop) (S : World → Prop) : List (Nat × Bool) → Act → World → Prop
  | [], a, w => Q .normal a w
  | (i, true) :: r, a, w => ∃ o v, ops[i]? = some o ∧ YieldsIf P ops S o v a ∧ runT P ops Q S r (a.put o.dst v) w
  | (i, false) :: r, a, w => ∃ o, ops[i]? = some o ∧ (if Region.wanted o (yielded ops a.tmps) then o.wp P a w (fun a' w' => (r ≠ [] → S w') ∧ runT P ops Q S r a' w') Q else runT P ops Q S r (a.put o.dst undef) w)

theorem T_of_run (hl : lastB ops = true) (hs : Region.noSelect ops = true) (hQ : ∀ c a d v w, Q (.panic c) (Act.put a d v) w → Q (.panic c) a w) :
    ∀ (l : List (Nat × Bool)) (fuel : Nat) (listed : Array Bool) (a : Act) (w : World), Closed ops listed → okT ops l listed = true → l.length ≤ fuel → S w → runT P ops Q S l a w → wpT P ops Q S fuel listed a w
  | [], fuel, listed, a, w, _, hok, _, _, h => by
    simp only [okT, List.isEmpty_iff] at hok
    cases fuel with
    | zero => exact ⟨hok, h⟩
    | succ n => exact ⟨fun _ => h, by rw [hok]; simp⟩
  | (i, true) :: r, fuel, listed, a, w, hc, hok, hf, hS, h => by
    simp only [okT, Bool.and_eq_true, bne_iff_ne, ne_eq] at hok
    obtain ⟨⟨⟨h1, h2⟩, h3⟩, h4⟩ := hok
    obtain ⟨o, v, ho, hy, hr⟩ := h
    cases fuel with
    | zero => simp at hf
    | succ n =>
      refine T_first hl ho h3 (Region.noSelect_spec hs) (fun c a w => hQ c a _ v w) n listed a w hc (Region.free_spec ho h2) (by simpa using h1) hy hS ?_
      exact T_of_run hl hs hQ r n _ _ _ (hc.set (by simpa using h1)) h4 (by simpa using hf) hS hr
  | (i, false) :: r, fuel, listed, a, w, hc, hok, hf, hS, h => by
    simp only [okT, Bool.and_eq_true, beq_iff_eq, Bool.or_eq_true, Bool.not_eq_true'] at hok
    obtain ⟨⟨h1, h5⟩, h4⟩ := hok
    obtain ⟨o, ho, hr⟩ := h
    cases fuel with
    | zero => simp at hf
    | succ n =>
      refine ⟨fun h => (by rw [h1] at h; cases h), fun j hj => ?_⟩
      rw [h1] at hj
      obtain rfl : j = i := by simpa using hj
      have hf' : r.length ≤ n := by simpa using hf
      unfold wpOp
      simp only [ho]
      split
      · rename_i hw
        rw [if_pos hw] at hr
        refine .inl (Oper.wp_mono (fun a' w' h' => ?_) hr)
        cases r with
        | nil =>
          refine ⟨fun hne => absurd (h5.resolve_left (by simp)) hne, ?_⟩
          simp only [okT, List.isEmpty_iff] at h4
          cases n with
          | zero => exact ⟨h4, h'.2⟩
          | succ n => exact ⟨fun _ => h'.2, by rw [h4]; simp⟩
        | cons x r =>
          exact ⟨fun _ => h'.1 (by simp), T_of_run hl hs hQ (x :: r) n _ _ _ (hc.set (by rw [h1]; simp)) h4 hf' (h'.1 (by simp)) h'.2⟩
      · rename_i hw
        rw [if_neg hw] at hr
        exact ⟨fun _ => hS, T_of_run hl hs hQ r n _ _ _ (hc.set (by rw [h1]; simp)) h4 hf' hS hr⟩

/-- **The beginning.** -/
theorem wp_region_T (S : World → Prop) (l : List (Nat × Bool)) {id : Nat} {a : Act} {w : World} (hm : P.follows .mixedOrders = true) (hl : (lastB ops && Region.noSelect ops && okT ops l (Array.replicate ops.size false) && decide (l.length ≤ ops.size)) = true)
    (hS : S w.drew) (h : runT P ops (NoPanic Q) S l a w.drew) : (Code.region id ops true).wp P Q a w := by
  simp only [Bool.and_eq_true, decide_eq_true_eq] at hl
  exact wp_region_noPanic (wp_region_any hm (any_of_T _ _ _ _ (T_of_run hl.1.1.1 hl.1.1.2 (fun _ _ _ _ _ h => h) l _ _ _ _ (Closed.start _ _) hl.1.2 hl.2 hS h)))

variable {l : List (Nat × Bool)} {a : Act} {w : World} {o : Oper} {i : Nat}
/-- An operation that only reads. -/
theorem T_read {v : Value} (ho : ops[i]? = some o) (hw : Region.wanted o (yielded ops a.tmps) = true) (hv : ∀ W, S W → (execOp a.eval o).run P W = .ok (.value v) W) (h : runT P ops Q S l (a.put o.dst v) w) : runT P ops Q S ((i, true) :: l) a w :=
  ⟨o, v, ho, .inl ⟨hw, hv⟩, h⟩
/-- .. whose guard says no. -/
theorem T_skip (ho : ops[i]? = some o) (hw : Region.wanted o (yielded ops a.tmps) = false) (h : runT P ops Q S l (a.put o.dst undef) w) : runT P ops Q S ((i, true) :: l) a w :=
  ⟨o, undef, ho, .inr ⟨hw, rfl⟩, h⟩
theorem T_skip' (ho : ops[i]? = some o) (hw : Region.wanted o (yielded ops a.tmps) = false) (h : runT P ops Q S l (a.put o.dst undef) w) : runT P ops Q S ((i, false) :: l) a w :=
  ⟨o, ho, by rw [hw]; exact h⟩
/-- An operation that writes, or makes. -/
theorem T_do (ho : ops[i]? = some o) (hw : Region.wanted o (yielded ops a.tmps) = true) (h : ∀ K : Act → World → Prop, (∀ a' w', (l ≠ [] → S w') → runT P ops Q S l a' w' → K a' w') → o.wp P a w K Q) : runT P ops Q S ((i, false) :: l) a w :=
  ⟨o, ho, by rw [if_pos hw]; exact h _ fun _ _ h1 h2 => ⟨h1, h2⟩⟩
theorem T_end (h : Q .normal a w) : runT P ops (NoPanic Q) S [] a w := h
end
end Go.Dx

namespace Go.Dx
open Go.RowKit Go.Proofs

def strs (ns : List Nm) : List Value := ns.map .string
theorem PDL.keepNo {w w' : World} {D : Nat} {s : St} {L : PL} (h : PDL w D s L) (hk : Keep No w w') : PDL w' D s L := h.keep hk fun _ _ h => h

theorem all_take_succ (ns : List Nm) (k : Nat) (n : Nm) (h : ns[k]? = some n) : (ns.take (k + 1)).all right = ((ns.take k).all right && right n) := by
  have : ns.take (k + 1) = ns.take k ++ [n] := by
    obtain ⟨hlt, e⟩ := List.getElem?_eq_some_iff.1 h
    rw [List.take_succ_eq_append_getElem hlt, e]
  rw [this, List.all_append]; simp
theorem all_false (ns : List Nm) (k : Nat) (n : Nm) (h : ns[k]? = some n) (hn : right n = false) : ns.all right = false := by
  rw [Bool.eq_false_iff]
  intro h'
  rw [List.all_eq_true] at h'
  rw [h' n (List.mem_of_getElem? h)] at hn; cases hn

set_option maxRecDepth 100000 in
set_option maxHeartbeats 2000000 in
theorem begin_any {w : World} {D : Nat} {s : St} {L : PL} (h : PDL w D s L) (hw : s.well < 9223372036854775808) (hf : s.fails < 9223372036854775808)
    {S : Nat → Prop} {A : Option Addr} {ns : List Nm} (hr : Rd w S A (strs ns)) (hS : ∀ k, S k → k < w.heap.size) (hn : ∀ n ∈ ns, n.size ≤ 140737488355328) (hl : ns.length ≤ 1000) (c : Nat) :
    Calls Try.prog 47 #[.pointer (some ⟨D, 0, none⟩), .slice A ns.length c] w fun e w' =>
      e = .returned (.int .i64 (s.bgn (ns.all right)).1) ∧ PDL w' D (s.bgn (ns.all right)).2 L ∧ Keep (fun k => k = D) w w' := by
  have c8 : w.cell? ⟨D, 8, none⟩ = some (.bool s.down) := h.cell 8 rfl
  have H := Lib.hid h
  clear h
  cases hd : s.down with
  | true =>
    have hfin : Hid (s.bgn (ns.all right) = (30, s)) := by simp [Hid, St.bgn, hd]
    rw [hd] at c8
    clear hd
    go_enter Try.func47, Try.ntmps47
    go_wp2_with fail
    go_ret
    rw [hfin.out]
    exact ⟨rfl, H.out, Keep.refl _ _⟩
  | false =>
    rw [hd] at c8
    have hd := Lib.hid hd
    have hr := Lib.hid hr
    have hn := Lib.hid hn
    go_enter Try.func47, Try.ntmps47
    go_wp2_with fail
    go_loopw [13] (fun i wr => ∃ k : Nat, k ≤ ns.length ∧ i = .int .i64 k ∧ Hid ((ns.take k).all right = true) ∧ Keep No w wr) (fun i _ => ns.length - (intOf i).toNat)
    case atStart => exact ⟨0, by omega, rfl, by simp [Hid], Keep.refl _ _⟩
    case round =>
      obtain ⟨k, hk, rfl, hall, hkeep⟩ := hrel
      by_cases hlt : k < ns.length
      · obtain ⟨n, hkn⟩ : ∃ n, ns[k]? = some n := ⟨_, List.getElem?_eq_getElem hlt⟩
        obtain ⟨b, o, rfl, hb, hrun⟩ := hr.out (by simp [strs]; omega)
        have hcell : wr.cell? ⟨b, o + k, none⟩ = some (.string n) := by
          rw [hkeep.cell (a := ⟨b, o + k, none⟩) (hS b hb) id]
          exact hrun k _ (by simp [strs, hkn])
        have hsz := hn.out n (List.mem_of_getElem? hkn)
        have hlt' : (k : Int) < ns.length := by omega
        have Hk := Lib.hid hkeep
        have Hkn := Lib.hid hkn
        clear hkeep hkn hrun
        cases hrt : right n with
        | true =>
          have hnext : Hid ((ns.take (k + 1)).all right = true) := by unfold Hid; rw [all_take_succ ns k n Hkn.out, hall.out, hrt]; rfl
          have hrt := Lib.hid hrt
          go_wp2_with (go_at_call 45; refine (okA_any n _ hsz).mono ?_; rintro e w1 ⟨rfl, hk1⟩; rw [hrt.out])
          go_roundw
          case rel => exact ⟨k + 1, by omega, by go_num, hnext, Hk.out.trans' hk1⟩
          case measure => simp [intOf]; omega
        | false =>
          have hfin : Hid (s.bgn (ns.all right) = (33, s)) := by simp [Hid, St.bgn, hd.out, all_false ns k n Hkn.out hrt]
          have hrt := Lib.hid hrt
          go_wp2_with (go_at_call 45; refine (okA_any n _ hsz).mono ?_; rintro e w1 ⟨rfl, hk1⟩; rw [hrt.out])
          go_ret
          rw [hfin.out]
          have hk2 := Hk.out.trans' hk1
          exact ⟨rfl, H.out.keepNo hk2, hk2.mono fun _ _ h => h.elim⟩
      · obtain rfl : k = ns.length := by omega
        rw [List.take_length] at hall
        have h1 := H.out.keepNo hkeep
        have c5 : wr.cell? ⟨D, 5, none⟩ = some (.int .i64 s.well) := h1.cell 5 rfl
        have c6 : wr.cell? ⟨D, 6, none⟩ = some (.int .i64 s.fails) := h1.cell 6 rfl
        have z5 := h1.froz 5
        have z6 := h1.froz 6
        have H1 := Lib.hid h1
        have Hk := Lib.hid hkeep
        clear h1 hkeep
        by_cases hwl : 0 < s.well
        · have hfin : Hid (s.bgn (ns.all right) = (0, { s with well := s.well - 1 })) := by simp [Hid, St.bgn, hd.out, hall.out, hwl]
          have e2 : Hid ((s.well : Int) - 1 = ((s.well - 1 : Nat) : Int)) := by unfold Hid; omega
          go_wp2_with fail
          go_ret
          rw [hfin.out, e2.out]
          have k := (Keep.refl (fun k => k = D) wr).setAt rfl 5 (.int .i64 ((s.well - 1 : Nat) : Int))
          exact ⟨rfl, H1.out.reDisk k (set_blk H1.out.disk 5 _) rfl rfl rfl rfl, (Hk.out.mono fun _ _ h => h.elim).trans' k⟩
        · have hwl' : (s.well : Int) ≤ 0 := by omega
          by_cases hfl : 0 < s.fails
          · have hfin : Hid (s.bgn (ns.all right) = (31, { s with fails := s.fails - 1 })) := by simp [Hid, St.bgn, hd.out, hall.out, hwl, hfl]
            have e2 : Hid ((s.fails : Int) - 1 = ((s.fails - 1 : Nat) : Int)) := by unfold Hid; omega
            go_wp2_with fail
            go_ret
            rw [hfin.out, e2.out]
            have k := (Keep.refl (fun k => k = D) wr).setAt rfl 6 (.int .i64 ((s.fails - 1 : Nat) : Int))
            exact ⟨rfl, H1.out.reDisk k (set_blk H1.out.disk 6 _) rfl rfl rfl rfl, (Hk.out.mono fun _ _ h => h.elim).trans' k⟩
          · have hfin : Hid (s.bgn (ns.all right) = (0, s)) := by simp [Hid, St.bgn, hd.out, hall.out, hwl, hfl]
            have hfl' : (s.fails : Int) ≤ 0 := by omega
            go_wp2_with fail
            go_ret
            rw [hfin.out]
            exact ⟨rfl, H1.out, Hk.out.mono fun _ _ h => h.elim⟩

end Go.Dx

namespace Go.Dx
open Go.RowKit Go.Proofs

theorem modify_eq_set {α : Type} (l : List α) (i : Nat) (g : α → α) (f : α) (h : l[i]? = some f) : l.modify i g = l.set i (g f) := by
  apply List.ext_getElem?
  intro j
  rw [List.getElem?_modify, List.getElem?_set]
  by_cases e : i = j
  · subst e
    have := (List.getElem?_eq_some_iff.1 h).1
    rw [h]; simp [this]
  · simp [e]

section
variable {w w' : World} {D : Nat} {s : St} {L : PL}

theorem FilesAt.upd {e : TypeId} {fs : List FV} {fb : List Nat} {fd : List (Option Addr × Nat)} (h : FilesAt w e fs fb fd) (he : e ≠ 5) {i : Nat} {f f' : FV} {b : Nat} {d d' : Option Addr × Nat}
    (hf : fs[i]? = some f) (hb : fb[i]? = some b) (hd : fd[i]? = some d) (hk : Keep (fun k => k = b ∨ bk d.1 = some k) w w') (hb' : w'.heap[b]? = some (.cells (fileC f' d') e (0, 0)))
    (ho : Own w' 5 1 d'.1 f'.data.length d'.2 (BV f'.data)) (hn : ∀ k, bk d'.1 = some k → bk d.1 = some k ∨ w.heap.size ≤ k) : FilesAt w' e (fs.set i f') fb (fd.set i d') := by
  have hil := (List.getElem?_eq_some_iff.1 hf).1
  have hdl := (List.getElem?_eq_some_iff.1 hd).1
  obtain ⟨b0, d0, g1, g2, g3, g4⟩ := h.file i f hf
  rw [hb] at g1; cases g1
  rw [hd] at g2; cases g2
  refine ⟨by simpa using h.fbl, by simpa using h.fdl, fun j g hg => ?_, h.nod, fun j j' x y hne hx hy k hk1 hk2 => ?_⟩
  · rw [List.getElem?_set] at hg
    by_cases e1 : i = j
    · subst e1
      rw [if_pos rfl, if_pos hil] at hg
      cases hg
      exact ⟨b, d', hb, by rw [List.getElem?_set]; simp [hdl], hb', ho⟩
    · rw [if_neg e1] at hg
      obtain ⟨b1, d1, h1, h2, h3, h4⟩ := h.file j g hg
      refine ⟨b1, d1, h1, by rw [List.getElem?_set, if_neg e1]; exact h2, ?_, ?_⟩
      · rw [hk.block b1 (lt_blk h3)]
        · exact h3
        · rintro (rfl | hk1)
          · have hlt1 := (List.getElem?_eq_some_iff.1 hb).1
            exact e1 ((List.getElem?_inj hlt1 h.nod).1 (hb.trans h1.symm))
          · exact g4.ne_blk h3 (Ne.symm he) hk1
      · refine h4.keep hk fun k hk1 => ?_
        rintro (rfl | hk2)
        · exact h4.ne_blk g3 (Ne.symm he) hk1
        · exact h.apart i j d d1 e1 hd h2 k hk2 hk1
  · have key : ∀ q x, q ≠ i → (fd.set i d')[q]? = some x → bk x.1 = some k → bk d'.1 ≠ some k := by
      intro q x hq hx hk1 hk2
      rw [List.getElem?_set, if_neg (Ne.symm hq)] at hx
      rcases hn k hk2 with h5 | h5
      · exact h.apart i q d x (Ne.symm hq) hd hx k h5 hk1
      · have : k < w.heap.size := h.lt k (.inr ⟨x, List.mem_of_getElem? hx, hk1⟩)
        omega
    by_cases e1 : j = i
    · subst e1
      rw [List.getElem?_set, if_pos rfl, if_pos hdl] at hx
      cases hx
      exact key j' y (Ne.symm hne) hy hk2 hk1
    · by_cases e2 : j' = i
      · subst e2
        rw [List.getElem?_set, if_pos rfl, if_pos hdl] at hy
        cases hy
        exact key j x hne hx hk1 hk2
      · rw [List.getElem?_set, if_neg (Ne.symm e1)] at hx
        rw [List.getElem?_set, if_neg (Ne.symm e2)] at hy
        exact h.apart j j' x y hne hx hy k hk1 hk2

/-- A file of the disk is written. -/
theorem PDL.updFile (h : PDL w D s L) {i : Nat} {f f' : FV} {b : Nat} {d d' : Option Addr × Nat}
    (hf : s.files[i]? = some f) (hb : L.fb[i]? = some b) (hd : L.fd[i]? = some d) (hk : Keep (fun k => k = b ∨ bk d.1 = some k) w w') (hb' : w'.heap[b]? = some (.cells (fileC f' d') 100 (0, 0)))
    (ho : Own w' 5 1 d'.1 f'.data.length d'.2 (BV f'.data)) (hn : ∀ k, bk d'.1 = some k → bk d.1 = some k ∨ w.heap.size ≤ k) : PDL w' D { s with files := s.files.set i f' } { L with fd := L.fd.set i d' } := by
  have hin : footF L.fb L.fd b := .inl (List.mem_of_getElem? hb)
  have hin2 : ∀ k, bk d.1 = some k → footF L.fb L.fd k := fun k hk => .inr ⟨d, List.mem_of_getElem? hd, hk⟩
  have hobj : ∀ k, (k = b ∨ bk d.1 = some k) → ∃ cs t, w.heap[k]? = some (.cells cs t (0, 0)) ∧ (t = 100 ∨ t = 5) := by
    rintro k (rfl | hk)
    · exact h.files.obj k hin
    · exact h.files.obj k (hin2 k hk)
  refine ⟨?_, ?_, ?_, ?_, h.files.upd (by decide) hf hb hd hk hb' ho hn, h.m12⟩
  · refine (hk.block D (lt_blk h.disk) fun h1 => ?_).trans h.disk
    obtain ⟨cs, t, h2, ht⟩ := hobj D h1
    exact ne_type h2 h.disk (by rcases ht with rfl | rfl <;> decide) rfl
  · refine h.now.same (hk.block _ h.now.lt fun h1 => ?_)
    obtain ⟨cs, t, h2, ht⟩ := hobj _ h1
    exact h.now.ne_cells h2 rfl
  · refine h.sure.same (hk.block _ h.sure.lt fun h1 => ?_)
    obtain ⟨cs, t, h2, ht⟩ := hobj _ h1
    exact h.sure.ne_cells h2 rfl
  · refine h.chs.keep hk fun k hk1 h1 => ?_
    obtain ⟨cs, t, h2, ht⟩ := hobj _ h1
    exact h.chs.ne_blk h2 (by rcases ht with rfl | rfl <;> decide) hk1

theorem get_dirV (fb : List Nat) (d : Dir Nat) (n : Nm) : get (dirV fb d) n = (get d n).map (ptrV fb) := by
  unfold dirV
  induction d with
  | nil => rfl
  | cons x d ih =>
    rw [List.map_cons, get_cons, get_cons]
    split
    · rfl
    · exact ih

def lookV (fb : List Nat) : Option Nat → Value
  | some i => ptrV fb i
  | none => .pointer none
theorem run_look {r : Nat} {fb : List Nat} {d : Dir Nat} (h : MapP w r (dirV fb d)) (n : Nm) : (Instr.lookup 75 (.map (some r)) (.string n) false).run Try.prog w = .ok (lookV fb (get d n)) w := by
  rw [run_lookup h Try.underlying75 Try.underlying9 (z := .pointer none) (fun W => by kernel_rfl) n, get_dirV]
  cases get d n <;> rfl

/-- The i-th file: its block, its bytes' slice, both cells. -/
theorem PDL.at (h : PDL w D s L) {i : Nat} (hi : i < s.files.length) : ∃ f b d, s.files[i]? = some f ∧ L.fb[i]? = some b ∧ L.fd[i]? = some d ∧ ptrV L.fb i = .pointer (some ⟨b, 0, none⟩) ∧
    w.heap[b]? = some (.cells (fileC f d) 100 (0, 0)) ∧ Own w 5 1 d.1 f.data.length d.2 (BV f.data) := by
  obtain ⟨b, d, h1, h2, h3, h4⟩ := h.files.file i _ (List.getElem?_eq_getElem hi)
  refine ⟨_, b, d, List.getElem?_eq_getElem hi, h1, h2, ?_, h3, h4⟩
  unfold ptrV
  rw [List.getD_eq_getElem?_getD, h1]; rfl
end

theorem begin1 {w : World} {D : Nat} {s : St} {L : PL} (h : PDL w D s L) (hw : Wf s) (n : Nm) (hn : n.size ≤ 140737488355328) :
    Calls Try.prog 47 #[.pointer (some ⟨D, 0, none⟩), .slice (some ⟨w.heap.size, 0, none⟩) 1 1] (w.alloc (.cells #[.string n] 9)) fun e w' =>
      e = .returned (.int .i64 (s.bgn (right n)).1) ∧ PDL w' D (s.bgn (right n)).2 L ∧ Keep (fun k => k = D) w w' := by
  have k1 := (Keep.refl No w).alloc (.cells #[.string n] 9)
  have hr : Rd (w.alloc (.cells #[.string n] 9)) (fun k => k = w.heap.size) (some ⟨w.heap.size, 0, none⟩) (strs [n]) := fun _ => ⟨_, _, rfl, rfl, Run.of_blk (alloc_new w _)⟩
  refine (begin_any (h.keepNo k1) hw.bwell hw.bfails hr (fun k hk => by rw [hk, World.size_alloc]; omega) (by simpa using hn) (by simp) 1).mono ?_
  rintro e w' ⟨rfl, h1, h2⟩
  simp only [List.all_cons, List.all_nil, Bool.and_true] at *
  exact ⟨trivial, h1, (k1.mono fun _ _ h => h.elim).trans' h2⟩
theorem begin2 {w : World} {D : Nat} {s : St} {L : PL} (h : PDL w D s L) (hw : Wf s) (a b : Nm) (ha : a.size ≤ 140737488355328) (hb : b.size ≤ 140737488355328) :
    Calls Try.prog 47 #[.pointer (some ⟨D, 0, none⟩), .slice (some ⟨w.heap.size, 0, none⟩) 2 2] (w.alloc (.cells #[.string a, .string b] 9)) fun e w' =>
      e = .returned (.int .i64 (s.bgn (right a && right b)).1) ∧ PDL w' D (s.bgn (right a && right b)).2 L ∧ Keep (fun k => k = D) w w' := by
  have k1 := (Keep.refl No w).alloc (.cells #[.string a, .string b] 9)
  have hr : Rd (w.alloc (.cells #[.string a, .string b] 9)) (fun k => k = w.heap.size) (some ⟨w.heap.size, 0, none⟩) (strs [a, b]) := fun _ => ⟨_, _, rfl, rfl, Run.of_blk (alloc_new w _)⟩
  refine (begin_any (h.keepNo k1) hw.bwell hw.bfails hr (fun k hk => by rw [hk, World.size_alloc]; omega) (by simpa using ⟨ha, hb⟩) (by simp) 2).mono ?_
  rintro e w' ⟨rfl, h1, h2⟩
  simp only [List.all_cons, List.all_nil, Bool.and_true] at *
  exact ⟨trivial, h1, (k1.mono fun _ _ h => h.elim).trans' h2⟩
theorem begin0 {w : World} {D : Nat} {s : St} {L : PL} (h : PDL w D s L) (hw : Wf s) :
    Calls Try.prog 47 #[.pointer (some ⟨D, 0, none⟩), .slice none 0 0] w fun e w' =>
      e = .returned (.int .i64 (s.bgn true).1) ∧ PDL w' D (s.bgn true).2 L ∧ Keep (fun k => k = D) w w' :=
  begin_any (ns := []) h hw.bwell hw.bfails (Rd.nil w No none) (fun k hk => hk.elim) (by simp) (by simp) 0

/-- What a call has come to: the disk is s' now. -/
def Did (w : World) (D : Nat) (L : PL) (s' : St) (w' : World) : Prop := ∃ L', PDL w' D s' L' ∧ Keep (foot D L) w w' ∧ ∀ k, foot D L' k → foot D L k ∨ New w w' k
theorem Did.same {w w' : World} {D : Nat} {L : PL} {s' : St} (h : PDL w' D s' L) (hk : Keep (fun k => k = D) w w') : Did w D L s' w' :=
  ⟨L, h, hk.mono fun _ _ e => .inl e, fun _ h => .inl h⟩

set_option maxRecDepth 100000 in
set_option maxHeartbeats 2000000 in
theorem sync_any {w : World} {D : Nat} {s : St} {L : PL} (h : PDL w D s L) (hw : Wf s) (n : Nm) (hn : n.size ≤ 140737488355328) :
    Calls Try.prog 21 #[.pointer (some ⟨D, 0, none⟩), .string n] w fun e w' => e = .returned (.int .i64 (s.sync n).1) ∧ Did w D L (s.sync n).2 w' := by
  have hB := begin1 h hw n hn
  have hw1 := Lib.hid (bgn_wf hw (right n))
  have HB := Lib.hid hB
  clear hB
  generalize hr : s.bgn (right n) = r at *
  have Hr := Lib.hid hr
  have H := Lib.hid h
  have Hw := Lib.hid hw
  clear hr h hw
  go_enter Try.func21, Try.ntmps21
  go_wp2_with fail
  refine HB.out.mono ?_
  rintro e w1 ⟨rfl, h1, k1⟩
  by_cases hne : r.1 = 0
  · have e1 : (r.1 != 0) = false := by simp [hne]
    have hne := Lib.hid hne
    have c1 : w1.cell? ⟨D, 1, none⟩ = some (.map (some L.m1)) := h1.cell 1 rfl
    have hlk := run_look h1.now n
    have H1 := Lib.hid h1
    have K1 := Lib.hid k1
    clear h1 k1
    cases hg : get r.2.now n with
    | none =>
      rw [hg] at hlk
      have hfin : Hid (s.sync n = (34, r.2)) := by simp [Hid, St.sync, Hr.out, hne.out, hg]
      simp only [lookV] at hlk
      clear hg
      go_wp2_with fail
      go_ret
      rw [hfin.out]
      exact ⟨rfl, Did.same H1.out K1.out⟩
    | some i =>
      rw [hg] at hlk
      have hi : i < r.2.files.length := hw1.out.idxN _ (get_mem hg)
      obtain ⟨f, b, d, hf, hb, hd, hp, hblk, hown⟩ := H1.out.at hi
      simp only [lookV, hp] at hlk
      have hg := Lib.hid hg
      have Hf := Lib.hid hf
      have Hb := Lib.hid hb
      have Hd := Lib.hid hd
      clear hf hb hd hp hblk hown
      have hF := falls_any H1.out hw1.out.bleft 1 (by omega) (by omega)
      have hw2 := Lib.hid (fls_wf hw1.out 1)
      have hfl := Lib.hid (fls_files r.2 1)
      simp only [Int.toNat_one] at hF
      generalize hq : r.2.fls 1 = q at *
      have Hq := Lib.hid hq
      have HF := Lib.hid hF
      clear hq hF
      go_wp2_with fail
      refine HF.out.mono ?_
      rintro e w2 ⟨rfl, h2, k2⟩
      cases hq2 : q.2.1 with
      | true =>
        have hfin : Hid (s.sync n = (30, q.2.2)) := by simp [Hid, St.sync, Hr.out, hne.out, hg.out, Hq.out, hq2]
        have H2 := Lib.hid h2
        have K2 := Lib.hid k2
        clear h2 k2
        go_wp2_with fail
        go_ret
        rw [hfin.out]
        exact ⟨rfl, Did.same H2.out (K1.out.trans' K2.out)⟩
      | false =>
        obtain ⟨f2, b2, d2, hf2, hb2, hd2, _, hblk2, hown2⟩ := h2.at (i := i) (by rw [hfl.out.1]; exact hi)
        rw [Hb.out] at hb2; cases hb2
        have c0 : w2.cell? ⟨b, 0, none⟩ = some (.slice d2.1 f2.data.length d2.2) := (cell_blk hblk2 0).trans rfl
        have cc1 : w2.cell? ⟨b, 1, none⟩ = some (.int .i64 f2.sure) := (cell_blk hblk2 1).trans rfl
        have z1 : w2.frozen? ⟨b, 1, none⟩ = false := froz_blk hblk2 1
        have hfin : Hid (s.sync n = (0, { q.2.2 with files := q.2.2.files.set i ⟨f2.data, f2.data.length⟩ })) := by
          simp [Hid, St.sync, Hr.out, hne.out, hg.out, Hq.out, hq2]
          rw [modify_eq_set _ _ _ f2 hf2]
        have Hf2 := Lib.hid hf2
        have Hd2 := Lib.hid hd2
        have Hblk2 := Lib.hid hblk2
        have Hown2 := Lib.hid hown2
        have H2 := Lib.hid h2
        have K2 := Lib.hid k2
        clear h2 k2 hf2 hd2 hblk2 hown2
        go_wp2_with fail
        go_ret
        rw [hfin.out]
        have k3 := (Keep.refl (fun k => k = b ∨ bk d2.1 = some k) w2).setAt (.inl rfl) 1 (.int .i64 f2.data.length)
        refine ⟨rfl, { L with fd := L.fd.set i d2 }, H2.out.updFile Hf2.out Hb.out Hd2.out k3 (set_blk Hblk2.out 1 _) ?_ (fun k hk => .inl hk), ?_, ?_⟩
        · exact Hown2.out.same (S := fun k => k ≠ b) (fun k hk => set_far hk _) fun k hk e => by subst e; exact Hown2.out.ne_blk Hblk2.out (by decide) hk
        · refine ((K1.out.trans' K2.out).mono fun k _ e => .inl e).trans k3 fun k _ e => ?_
          rcases e with rfl | e
          · exact .inr (.inr (.inr (.inr (.inl (List.mem_of_getElem? Hb.out)))))
          · exact .inr (.inr (.inr (.inr (.inr ⟨d2, List.mem_of_getElem? Hd2.out, e⟩))))
        · intro k hk
          left
          have : L.fd.set i d2 = L.fd := by
            apply List.ext_getElem?
            intro j
            rw [List.getElem?_set]
            split
            · rename_i e; subst e; split
              · exact Hd2.out.symm
              · rename_i h; exact absurd (List.getElem?_eq_some_iff.1 Hd2.out).1 h
            · rfl
          rw [this] at hk
          exact hk
  · have e1 : (r.1 != 0) = true := by simp [hne]
    have hfin : Hid (s.sync n = r) := by simp [Hid, St.sync, Hr.out, hne]
    have H1 := Lib.hid h1
    have K1 := Lib.hid k1
    clear hne h1 k1
    go_wp2_with fail
    go_ret
    rw [hfin.out]
    exact ⟨rfl, Did.same H1.out K1.out⟩

end Go.Dx

namespace Go.Dx
open Go.RowKit Go.Proofs

set_option maxRecDepth 100000 in
set_option maxHeartbeats 2000000 in
theorem mclone_any {w : World} {b : Nat} {es : Array MapEntry} {clock : Nat} (hb : w.heap[b]? = some (.map es clock)) :
    Calls Try.prog 42 #[.map (some b)] w fun e w' => e = .returned (.map (some w.heap.size)) ∧ w' = w.alloc (.map es clock) := by
  have hq := fun w => run_eql_map_nil_sl (P := Try.prog) w 75 _ _ (some b) Try.underlying75
  go_enter Try.func42, Try.ntmps42
  go_wp2_with fail
  rw [run_callFunc_extern Try.func68 (by kernel_rfl) (by kernel_rfl) (by kernel_rfl) (e := Extern.MapsClone.clone) (by kernel_rfl), run_maps_clone_sl w 75 hb]
  simp only [Result.andThen]
  rw [Oper.upon_value]
  go_wp2_with fail
  rw [run_typeAssert_map_sl _ 75 20 _ _ _ Try.underlying75]
  simp only [Result.andThen]
  rw [Oper.upon_value]
  go_wp2_with fail
  go_ret
  exact ⟨rfl, rfl⟩

theorem mclone {w : World} {r : Nat} {kv : Dir Value} (h : MapP w r kv) :
    Calls Try.prog 42 #[.map (some r)] w fun e w' => e = .returned (.map (some w.heap.size)) ∧ MapP w' w.heap.size kv ∧ Keep No w w' ∧ w'.heap.size = w.heap.size + 1 := by
  obtain ⟨es, ck, hb, E⟩ := h
  refine (mclone_any hb).mono ?_
  rintro e w' ⟨rfl, rfl⟩
  exact ⟨rfl, ⟨es, ck, alloc_new _ _, E⟩, (Keep.refl _ _).alloc _, by simp⟩

theorem dirV_rem (fb : List Nat) (d : Dir Nat) (n : Nm) : rem (dirV fb d) n = dirV fb (rem d n) := by
  unfold rem dirV
  rw [List.filter_map]
  rfl
theorem dirV_append (fb : List Nat) (d e : Dir Nat) : dirV fb (d ++ e) = dirV fb d ++ dirV fb e := by simp [dirV]
theorem rem_append {α : Type} (l m : Dir α) (n : Nm) : rem (l ++ m) n = rem l n ++ rem m n := List.filter_append _ _
theorem rem_comm {α : Type} (l : Dir α) (a b : Nm) : rem (rem l a) b = rem (rem l b) a := by
  unfold rem
  rw [List.filter_filter, List.filter_filter]
  congr
  funext x
  exact Bool.and_comm _ _

theorem lay_mk_perm {fb : List Nat} {d : Dir Nat} (h : Sd d) (n : Nm) (i : Nat) : (rem (dirV fb d) n ++ [(n, ptrV fb i)]).Perm (dirV fb (ins d n i)) := by
  have := (ins_perm h n i).map fun x => (x.1, ptrV fb x.2)
  rw [dirV_rem]
  rw [List.map_append] at this
  exact this.symm
theorem lay_ren_perm {fb : List Nat} {d : Dir Nat} (h : Sd d) {a b : Nm} (hab : a ≠ b) (i : Nat) : (rem (rem (dirV fb d) b ++ [(b, ptrV fb i)]) a).Perm (dirV fb (ins (rem d a) b i)) := by
  have e : rem [(b, ptrV fb i)] a = [(b, ptrV fb i)] := by simp [rem, Ne.symm hab]
  rw [rem_append, e, rem_comm, dirV_rem]
  have := lay_mk_perm (fb := fb) (rem_sd h a) b i
  exact this

def okCh (d : Dir Nat) : Ch → Prop
  | .ren a b => (get d a).isSome = true ∧ a ≠ b
  | _ => True

set_option maxRecDepth 100000 in
set_option maxHeartbeats 2000000 in
theorem lay_any {w : World} {r : Nat} {fb : List Nat} {d : Dir Nat} (h : MapP w r (dirV fb d)) (hs : Sd d) (c : Ch) (hc : okCh d c) :
    Calls Try.prog 43 #[.agg (chV fb c).toArray, .map (some r)] w fun e w' => e = .returned (.tuple #[]) ∧ MapP w' r (dirV fb (lay1 d c)) ∧ Keep (fun k => k = r) w w' := by
  have hlt := h.lt
  cases c with
  | mk n i =>
    simp only [chV, ptrV]
    have h1 : ∀ o, MapP (w.alloc o) r (dirV fb d) := fun o => h.same (alloc_old w o hlt)
    have H := Lib.hid h1
    have Hs := Lib.hid hs
    clear h h1 hs hc
    go_enter Try.func43, Try.ntmps43
    go_wp2_with (refine wpList_mapUpdate (by rfl) (.tmp 8) (.tmp 10) (.tmp 12) rfl (H.out _) Try.underlying75 Try.underlying9 rfl rfl rfl ?_; intro w1 hM hK)
    go_end0
    refine ⟨rfl, hM.perm (lay_mk_perm Hs.out n i), ?_⟩
    exact ((Keep.refl (fun k => k = r) w).alloc _).trans' hK
  | del n =>
    simp only [chV]
    have h1 : ∀ o, MapP (w.alloc o) r (dirV fb d) := fun o => h.same (alloc_old w o hlt)
    have H := Lib.hid h1
    clear h h1 hs hc
    go_enter Try.func43, Try.ntmps43
    go_wp2_with (refine wpList_delete (by rfl) (.tmp 27) (.tmp 29) 9 rfl (H.out _) Try.underlying75 Try.underlying9 rfl rfl ?_; intro w1 hM hK)
    go_end0
    refine ⟨rfl, by rw [dirV_rem] at hM; exact hM, ?_⟩
    exact ((Keep.refl (fun k => k = r) w).alloc _).trans' hK
  | ren a b =>
    obtain ⟨hg, hab⟩ := hc
    obtain ⟨i, hi⟩ := Option.isSome_iff_exists.1 hg
    simp only [chV]
    have h1 : ∀ o, MapP (w.alloc o) r (dirV fb d) := fun o => h.same (alloc_old w o hlt)
    have hlk := fun o => run_look (h1 o) a
    simp only [hi, lookV] at hlk
    have hfin : Hid (lay1 d (.ren a b) = ins (rem d a) b i) := by simp [Hid, lay1, hi]
    have H := Lib.hid h1
    have Hs := Lib.hid hs
    have hab := Lib.hid hab
    clear h h1 hs hg hi
    go_enter Try.func43, Try.ntmps43
    go_wp2_with (first
      | (refine wpList_mapUpdate (by rfl) (.tmp 15) (.tmp 17) (.tmp 21) rfl (H.out _) Try.underlying75 Try.underlying9 rfl rfl rfl ?_
         intro w1 hM hK
         have cb : w1.cell? ⟨w.heap.size, 1, none⟩ = some (.string a) := by
           rw [hK.cell (a := ⟨w.heap.size, 1, none⟩) (by rw [World.size_alloc]; exact Nat.lt_succ_self _) (Nat.ne_of_gt hlt)]
           exact (cell_blk (alloc_new w _) 1).trans rfl
         have HM := Lib.hid hM
         have HK := Lib.hid hK
         clear hM hK)
      | (refine wpList_delete (by rfl) (.tmp 22) (.tmp 24) 9 rfl HM.out Try.underlying75 Try.underlying9 rfl rfl ?_; intro w2 hM hK))
    go_end0
    refine ⟨rfl, ?_, (((Keep.refl (fun k => k = r) w).alloc _).trans' HK.out).trans' hK⟩
    rw [hfin.out]
    exact hM.perm (lay_ren_perm Hs.out hab.out i)

end Go.Dx

namespace Go.Dx
open Go.RowKit Go.Proofs

/-- A change is done to the directory. -/
def St.chg (s : St) (c : Ch) : St := { s with now := lay1 s.now c, changes := s.changes ++ [c] }
def idle : Ch → Bool
  | .ren a b => decide (a = b)
  | _ => false
def St.doit (s : St) (c : Ch) : Int × St :=
  let q := s.fls 1
  if q.2.1 then (30, q.2.2) else if idle c then (0, q.2.2) else (0, q.2.2.chg c)

theorem chsV_append (fb : List Nat) (l m : List Ch) : chsV fb (l ++ m) = chsV fb l ++ chsV fb m := by simp [chsV]

section
variable {w w' : World} {D : Nat} {s : St} {L : PL}
/-- The directory, and the changes, are written. -/
theorem PDL.reDir (h : PDL w D s L) {s' : St} {A' : Option Addr} {c' : Nat} (hk : Keep (fun k => k = D ∨ k = L.m1 ∨ bk L.cA = some k) w w')
    (hd : w'.heap[D]? = some (.cells (diskC s' { L with cA := A', cC := c' }) 80 (0, 0))) (hm : MapP w' L.m1 (dirV L.fb s'.now)) (hc : Own w' 94 4 A' s'.changes.length c' (chsV L.fb s'.changes))
    (e1 : s'.files = s.files) (e3 : s'.sure = s.sure) : PDL w' D s' { L with cA := A', cC := c' } := by
  refine ⟨hd, hm, ?_, hc, ?_, h.m12⟩
  · rw [e3]
    refine h.sure.same (hk.block _ h.sure.lt ?_)
    rintro (e | e | e)
    · exact h.sure.ne_cells h.disk e
    · exact h.m12 e.symm
    · obtain ⟨es, ck, hb, _⟩ := h.sure
      exact h.chs.ne_map hb e
  · rw [e1]
    refine h.files.same (S := footF L.fb L.fd) (fun k hk1 => hk.block k (h.files.lt k hk1) ?_) fun _ h => h
    obtain ⟨cs, t, hb, ht⟩ := h.files.obj k hk1
    rintro (e | e | e)
    · exact ne_type hb h.disk (by rcases ht with rfl | rfl <;> decide) e
    · exact h.now.ne_cells hb e.symm
    · exact h.chs.ne_blk hb (by rcases ht with rfl | rfl <;> decide) e
end

theorem is_ren (c : Ch) (fb : List Nat) : ∃ k a b p, (chV fb c) = [.int .i64 k, .string a, .string b, p] ∧ 0 ≤ k ∧ k ≤ 2 ∧ (idle c = true ↔ k = 1 ∧ a = b) := by
  cases c with
  | mk n i => exact ⟨0, n, _, _, rfl, by omega, by omega, by simp [idle]⟩
  | ren a b => exact ⟨1, a, b, _, rfl, by omega, by omega, by simp [idle]⟩
  | del n => exact ⟨2, n, _, _, rfl, by omega, by omega, by simp [idle]⟩
theorem chV_one (fb : List Nat) (c : Ch) : ∀ u ∈ chV fb c, u.oneCell' = true := by
  cases c <;> simp [chV, ptrV, Value.oneCell']

set_option maxRecDepth 100000 in
set_option maxHeartbeats 2000000 in
theorem do_any {w : World} {D : Nat} {s : St} {L : PL} (h : PDL w D s L) (hl : s.left < 9223372036854775808) (hs : Sd s.now) (hn : s.changes.length ≤ 1000000) (c : Ch) (hc : idle c = false → okCh s.now c) :
    Calls Try.prog 48 #[.pointer (some ⟨D, 0, none⟩), .agg (chV L.fb c).toArray] w fun e w' => e = .returned (.int .i64 (s.doit c).1) ∧ ∃ A' c', PDL w' D (s.doit c).2 { L with cA := A', cC := c' } ∧
      Keep (fun k => k = D ∨ k = L.m1 ∨ bk L.cA = some k) w w' ∧ ∀ k, bk A' = some k → bk L.cA = some k ∨ New w w' k := by
  have h0 := h.keepNo ((Keep.refl No w).alloc (.cells (chV L.fb c).toArray 94))
  have hF := falls_any h0 hl 1 (by omega) (by omega)
  have hlay := fun (W : World) (d : Dir Nat) (h : MapP W L.m1 (dirV L.fb d)) (hs : Sd d) (hc : okCh d c) => lay_any h hs c hc
  have hone := chV_one L.fb c
  obtain ⟨k, a, b, p, hcv, hk0, hk2, hid⟩ := is_ren c L.fb
  have hlen : (chV L.fb c).length = 1 * 4 := by rw [chV_len]
  have hchs : chsV L.fb [c] = chV L.fb c := by simp [chsV]
  rw [hcv] at h0 hF hlay hone hlen hchs
  rw [hcv]
  have hap : p.oneCell' = true := hone p (by simp)
  simp only [Int.toNat_one] at hF
  have hfl := Lib.hid (fls_files s 1)
  generalize hq : s.fls 1 = q at *
  have Hq := Lib.hid hq
  have HF := Lib.hid hF
  have Hlay := Lib.hid hlay
  have Hone := Lib.hid hone
  have Hid' := Lib.hid hid
  have Hlen := Lib.hid hlen
  have Hchs := Lib.hid hchs
  have Hcv := Lib.hid hcv
  have Hc := Lib.hid hc
  have Hs := Lib.hid hs
  have H := Lib.hid h
  have H0 := Lib.hid h0
  clear hq hF hlay hone hid h0 hlen hchs hcv hc hs h
  go_enter Try.func48, Try.ntmps48
  go_wp2_with fail
  refine HF.out.mono ?_
  rintro e w1 ⟨rfl, h1, k1⟩
  have hb1 : w1.heap[w.heap.size]? = some (.cells #[.int .i64 k, .string a, .string b, p] 94 (0, 0)) := by
    rw [k1.block _ (by rw [World.size_alloc]; omega) (fun e => by have := lt_blk H.out.disk; omega)]
    exact alloc_new w _
  have hne1 : w.heap.size ≠ D := fun e => by have := lt_blk H.out.disk; omega
  cases hq2 : q.2.1 with
  | true =>
    have hfin : Hid (s.doit c = (30, q.2.2)) := by simp [Hid, St.doit, Hq.out, hq2]
    have H1 := Lib.hid h1
    have K1 := Lib.hid k1
    clear h1 k1 hb1
    go_wp2_with fail
    go_ret
    rw [hfin.out]
    exact ⟨rfl, L.cA, L.cC, H1.out, (((Keep.refl No w).alloc _).mono fun _ _ h => h.elim).trans' (K1.out.mono fun _ _ e => .inl e), fun k hk => .inl hk⟩
  | false =>
    have ca : w1.cell? ⟨w.heap.size, 0, none⟩ = some (.int .i64 k) := (cell_blk hb1 0).trans rfl
    have cb : w1.cell? ⟨w.heap.size, 1, none⟩ = some (.string a) := (cell_blk hb1 1).trans rfl
    have cc : w1.cell? ⟨w.heap.size, 2, none⟩ = some (.string b) := (cell_blk hb1 2).trans rfl
    have cd : w1.cell? ⟨w.heap.size, 3, none⟩ = some p := (cell_blk hb1 3).trans rfl
    have c1 : w1.cell? ⟨D, 1, none⟩ = some (.map (some L.m1)) := h1.cell 1 rfl
    cases hi : idle c with
    | true =>
      have hfin : Hid (s.doit c = (0, q.2.2)) := by simp [Hid, St.doit, Hq.out, hq2, hi]
      obtain ⟨hk1, hab⟩ := Hid'.out.1 hi
      have t1 : (k == 1) = true := beq_iff_eq.2 hk1
      have t2 : (a.toList == b.toList) = true := by rw [hab]; simp
      have H1 := Lib.hid h1
      have K1 := Lib.hid k1
      clear h1 k1 hb1 hk1 hab hi
      go_wp2_with fail
      go_ret
      rw [hfin.out]
      exact ⟨rfl, L.cA, L.cC, H1.out, (((Keep.refl No w).alloc _).mono fun _ _ h => h.elim).trans' (K1.out.mono fun _ _ e => .inl e), fun k hk => .inl hk⟩
    | false =>
      have hfin : Hid (s.doit c = (0, q.2.2.chg c)) := by simp [Hid, St.doit, Hq.out, hq2, hi]
      have hidk : ¬ (k = 1 ∧ a = b) := fun e => by rw [Hid'.out.2 e] at hi; cases hi
      have hoc := Hc.out hi
      rw [← hfl.out.2.1] at hoc
      have hcall := Hlay.out w1.drew q.2.2.now h1.now (by rw [hfl.out.2.1]; exact Hs.out) hoc
      have H1 := Lib.hid h1
      have K1 := Lib.hid k1
      have Hcall := Lib.hid hcall
      have Hb1 := Lib.hid hb1
      clear h1 k1 hb1 hi hoc hcall
      have hway : (k == 1) = false ∨ ((k == 1) = true ∧ (a.toList == b.toList) = false) := by
        by_cases hk1 : k = 1
        · right
          refine ⟨beq_iff_eq.2 hk1, ?_⟩
          rw [nm_beq]
          simp only [decide_eq_false_iff_not]
          exact fun e => hidk ⟨hk1, e⟩
        · exact .inl (beq_eq_false_iff_ne.2 hk1)
      clear hidk
      have Hcell := Lib.hid (And.intro ca (And.intro cb (And.intro cc cd)))
      rcases hway with t1 | ⟨t1, t2⟩
      all_goals
        go_wp2_with fail
        have hcells : Hid (∀ W, Keep (fun k => k = L.m1) w1 W → (W.cell? ⟨w.heap.size, 0, none⟩ = some (.int .i64 k) ∧ W.cell? ⟨w.heap.size, 1, none⟩ = some (.string a) ∧ W.cell? ⟨w.heap.size, 2, none⟩ = some (.string b) ∧ W.cell? ⟨w.heap.size, 3, none⟩ = some p ∧ W.cell? ⟨D, 1, none⟩ = some (.map (some L.m1)))) := by
          intro W hW
          have hlt : w.heap.size < w1.heap.size := lt_blk Hb1.out
          have hne : w.heap.size ≠ L.m1 := (H1.out.now.ne_cells Hb1.out).symm
          refine ⟨?_, ?_, ?_, ?_, ?_⟩
          · rw [hW.cell (a := ⟨w.heap.size, 0, none⟩) hlt hne]; exact Hcell.out.1
          · rw [hW.cell (a := ⟨w.heap.size, 1, none⟩) hlt hne]; exact Hcell.out.2.1
          · rw [hW.cell (a := ⟨w.heap.size, 2, none⟩) hlt hne]; exact Hcell.out.2.2.1
          · rw [hW.cell (a := ⟨w.heap.size, 3, none⟩) hlt hne]; exact Hcell.out.2.2.2
          · rw [hW.cell (a := ⟨D, 1, none⟩) (lt_blk H1.out.disk) (fun e => H1.out.now.ne_cells H1.out.disk e.symm)]; exact H1.out.cell 1 rfl
        refine wp_region_T (Keep (fun k => k = L.m1) w1) [(0, true), (1, true), (2, true), (3, true), (4, true), (5, false)] (by kernel_rfl) (by kernel_rfl) (Keep.refl _ _).drew ?_
        iterate 5
          (apply T_read rfl (by rfl)
           (· (intro W hW; have hc := hcells.out W hW; go_simp; try with_reducible rfl))
           (simp only [Act.put, List.setIfInBounds_toArray]))
        refine T_do rfl (by rfl) (fun K hK => ?_)
        go_simp
        refine Hcall.out.mono ?_
        rintro e w2 ⟨rfl, hM, hk2⟩
        have hk2 := hk2.of_drew
        refine hK _ _ (fun h => absurd rfl h) (T_end ?_)
        have hb2 : w2.heap[w.heap.size]? = some (.cells #[.int .i64 k, .string a, .string b, p] 94 (0, 0)) := by
          rw [hk2.block _ (lt_blk Hb1.out) (H1.out.now.ne_cells Hb1.out).symm]; exact Hb1.out
        have hD2 : w2.heap[D]? = some (.cells (diskC q.2.2 L) 80 (0, 0)) := by
          rw [hk2.block _ (lt_blk H1.out.disk) fun e => H1.out.now.ne_cells H1.out.disk e.symm]; exact H1.out.disk
        have hO2 : Own w2 94 4 L.cA q.2.2.changes.length L.cC (chsV L.fb q.2.2.changes) := H1.out.chs.keep hk2 fun k hk e => by
          subst e
          obtain ⟨es, ck, hb, _⟩ := H1.out.now
          exact H1.out.chs.ne_map hb hk
        have hM2 : ∀ W, Keep (fun k => bk L.cA = some k ∨ k = D) w2 W → MapP W L.m1 (dirV L.fb (lay1 q.2.2.now c)) := fun W hW => hM.same (hW.block _ hM.lt (by
          rintro (e | e)
          · obtain ⟨es, ck, hb, _⟩ := hM
            exact hO2.ne_map hb e
          · exact hM.ne_cells hD2 e))
        have hcells2 : Hid (∀ W, Keep (fun k => bk L.cA = some k) w2 W → (W.cell? ⟨w.heap.size, 0, none⟩ = some (.int .i64 k) ∧ W.cell? ⟨w.heap.size, 1, none⟩ = some (.string a) ∧ W.cell? ⟨w.heap.size, 2, none⟩ = some (.string b) ∧ W.cell? ⟨w.heap.size, 3, none⟩ = some p ∧ W.heap[D]? = some (.cells (diskC q.2.2 L) 80 (0, 0)) ∧ W.cell? ⟨D, 3, none⟩ = some (.slice L.cA q.2.2.changes.length L.cC) ∧ W.frozen? ⟨D, 3, none⟩ = false)) := by
          intro W hW
          have hlt : w.heap.size < w2.heap.size := lt_blk hb2
          have hne : ¬ bk L.cA = some w.heap.size := fun e => Nat.lt_irrefl _ (H.out.chs.lt e)
          have hneD : ¬ bk L.cA = some D := hO2.ne_blk hD2 (by decide)
          have hWD : W.heap[D]? = some (.cells (diskC q.2.2 L) 80 (0, 0)) := (hW.block D (lt_blk hD2) hneD).trans hD2
          refine ⟨?_, ?_, ?_, ?_, hWD, (cell_blk hWD 3).trans rfl, froz_blk hWD 3⟩
          · rw [hW.cell (a := ⟨w.heap.size, 0, none⟩) hlt hne]; exact (cell_blk hb2 0).trans rfl
          · rw [hW.cell (a := ⟨w.heap.size, 1, none⟩) hlt hne]; exact (cell_blk hb2 1).trans rfl
          · rw [hW.cell (a := ⟨w.heap.size, 2, none⟩) hlt hne]; exact (cell_blk hb2 2).trans rfl
          · rw [hW.cell (a := ⟨w.heap.size, 3, none⟩) hlt hne]; exact (cell_blk hb2 3).trans rfl
        have HO2 := Lib.hid hO2
        have HM2 := Lib.hid hM2
        have HD2 := Lib.hid hD2
        have HK2 := Lib.hid hk2
        clear hO2 hM2 hD2 hk2 hb2 hM
        go_wp2_with fail
        refine wp_region_T (Keep (fun k => bk L.cA = some k) w2) [(0, true), (1, true), (2, true), (3, true), (4, true), (5, true), (6, false), (7, false), (8, true), (9, true), (10, false)] (by kernel_rfl) (by kernel_rfl) (Keep.refl _ _).drew ?_
        iterate 6
          (apply T_read rfl (by rfl)
           (· (intro W hW; have hc := hcells2.out W hW; go_simp; try with_reducible rfl))
           (simp only [Act.put, List.setIfInBounds_toArray]))
        refine T_do rfl (by rfl) (fun K hK => ?_)
        go_simp
        refine hK _ _ (fun _ => (Keep.refl _ _).drew.alloc _) ?_
        have hO3 : Own ((w2.alloc (.cells #[.int .i64 k, .string a, .string b, p] 94)).drew) 94 4 L.cA q.2.2.changes.length L.cC (chsV L.fb q.2.2.changes) := HO2.out.keep ((Keep.refl No w2).alloc _).drew fun _ _ h => h
        have hR3 : Rd ((w2.alloc (.cells #[.int .i64 k, .string a, .string b, p] 94)).drew) (fun k => k = w2.heap.size) (some ⟨w2.heap.size, 0, none⟩) [.int .i64 k, .string a, .string b, p] := fun _ => ⟨w2.heap.size, 0, rfl, rfl, Run.of_blk (alloc_new w2 _)⟩
        have hch := hfl.out.2.2.2.1
        refine T_do rfl (by rfl) (fun K hK => ?_)
        refine wp_app (.tmp 33) (.tmp 35) 76 76 rfl hO3 Try.underlying76 info94 rfl (by omega) rfl rfl (src_rd (news := [.int .i64 k, .string a, .string b, p]) (m := 1) Try.underlying76 hR3 Hlen.out (by omega) Hone.out) (by rw [hch]; unfold maxLen; omega) (by rw [hch]; omega) (fun A' c' w3 hO hK3 hA => ?_)
        have hk3 : Keep (fun k => bk L.cA = some k) w2 w3 := ((Keep.refl _ w2).alloc _).drew.trans' (hK3.mono fun k _ e => e.symm)
        refine hK _ _ (fun _ => hk3) ?_
        (simp only [Act.put, List.setIfInBounds_toArray])
        have hlen : q.2.2.changes.length + 1 = (q.2.2.chg c).changes.length := by simp [St.chg]
        rw [hlen] at hO ⊢
        iterate 2
          (apply T_read rfl (by rfl)
           (· (intro W hW; have hc := hcells2.out W hW; go_simp; try with_reducible rfl))
           (simp only [Act.put]))
        have hc3 := hcells2.out w3 hk3
        have hD3 := Lib.hid hc3.2.2.2.2.1
        have hc33 := hc3.2.2.2.2.2.1
        have hz3 := hc3.2.2.2.2.2.2
        have HO := Lib.hid hO
        have Hk3 := Lib.hid hk3
        clear hc3 hO hk3 hK3 hO3 hR3 hch hlen
        refine T_do rfl (by rfl) (fun K hK => ?_)
        go_simp
        refine hK _ _ (fun h => absurd rfl h) (T_end ?_)
        go_wp2_with fail
        go_ret
        rw [hfin.out]
        have k4 := (Keep.refl (fun k => bk L.cA = some k ∨ k = D) w3).setAt (.inr rfl) 3 (.slice A' (q.2.2.chg c).changes.length c')
        have k24 : Keep (fun k => bk L.cA = some k ∨ k = D) w2 _ := (Hk3.out.mono fun k _ e => .inl e).trans' k4
        have kall : Keep (fun k => k = D ∨ k = L.m1 ∨ bk L.cA = some k) w1 _ := (HK2.out.mono fun k _ e => .inr (.inl e)).trans' (k24.mono fun k _ e => e.elim (fun e => .inr (.inr e)) .inl)
        refine ⟨rfl, A', c', H1.out.reDir kall ?_ (HM2.out _ k24) ?_ rfl rfl, ?_, ?_⟩
        · exact set_blk hD3.out 3 _
        · rw [show chsV L.fb (q.2.2.chg c).changes = chsV L.fb q.2.2.changes ++ [.int .i64 k, .string a, .string b, p] by simp only [St.chg]; rw [chsV_append, Hchs.out]]
          exact HO.out.same (S := fun k => k ≠ D) (fun k hk => set_far hk _) fun k hk e => by subst e; exact HO.out.ne_blk hD3.out (by decide) hk
        · exact (((Keep.refl No w).alloc _).mono fun _ _ h => h.elim).trans' ((K1.out.mono fun _ _ e => .inl e).trans' kall)
        · intro k hk
          rcases hA with rfl | ⟨rfl, hlt⟩
          · exact .inl hk
          · right
            simp at hk hlt
            have h1 := K1.out.size
            have h2 := HK2.out.size
            rw [World.size_alloc] at h1
            have h4 := k4.size
            subst hk
            exact ⟨by omega, by omega⟩

end Go.Dx
