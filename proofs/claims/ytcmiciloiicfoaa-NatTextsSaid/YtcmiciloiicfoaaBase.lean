/- Words for memory of this seat's own proofs: a slice of uint32 that reads as a list of whole numbers, and how readings live on. -/
import Derived.Test.YtcmiciloiicfoaaProg
import Derived.Test.YtcmiciloiicfoaaVal
import Derived.Below
import Derived.Deep.Draws
import Derived.Deep.AppendLies
import Derived.Maps.AppendAt
import Derived.OwnWalk
import Derived.Laws.BytesArg
import Derived.Laws.MakeOwn
import Derived.Laws.OwnMore
import Derived.Deep.OwnRows
import Derived.Tactics
import Derived.Lib.ConvBytes
import Derived.Laws.Slices
import Derived.WalkKit
import Derived.KernelRfl
import Derived.RowKit3
import Derived.Deep.LoopGhost
import Derived.Deep.QuietTactic
import Derived.BigQuiet
import Derived.WideLaws
import Derived.Deep.DeepCutAuto
import Derived.Deep.CutBlock
import Derived.Deep.RegionHeld3
import Derived.Laws.Rows
import Derived.Lib.AppendStr
import Derived.ArgAppend
import Derived.Laws.IdiomCopy
import Derived.OrdersHeld
import Derived.Laws.BitsLemmas
import Derived.Outline
import Derived.Lib.Hide
import Derived.Laws.AppendOwnNone
import Derived.Maps.AppendAt
import Derived.RowKit
import Derived.Test.YtcmiciloiicfoaaWWords
namespace Go.Proofs.Ytcmiciloiicfoaa
open Go.RowKit Go.Proofs.YtcmiciloiicfoaaW.PrintWords

theorem info53 : (Try.prog.info? 53).map (fun i => (i.zero, i.size, i.bytes)) = some (some (.int .u32 0), 1, 4) := by kernel_rfl

/-- The slice's address A reads, element by element, as the list xs; its capacity is c. -/
structure Rd (w : World) (A : Option Addr) (c : Nat) (xs : List Int) : Prop where
  cap : xs.length ≤ c
  small : xs.length ≤ 4294967296
  nil0 : A = none → c = 0
  cells : 0 < xs.length → ∃ ad, A = some ad ∧ ∀ j, j < xs.length → w.cell? (ad.add j) = some (.int .u32 (gd xs j))

theorem Rd.at_ {w : World} {A : Option Addr} {c : Nat} {xs : List Int} (h : Rd w A c xs) (k : Nat) (h1 : k < xs.length) :
    ∃ ad, A = some ad ∧ w.cell? (ad.add k) = some (.int .u32 (gd xs k)) := by
  obtain ⟨ad, e, hc⟩ := h.cells (by omega)
  exact ⟨ad, e, hc _ h1⟩

theorem Rd.keep {w w1 : World} {A : Option Addr} {c : Nat} {xs : List Int} (h : Rd w A c xs) (hk : ∀ p : Addr, p.block < w.heap.size → w1.cell? p = w.cell? p) : Rd w1 A c xs :=
  ⟨h.cap, h.small, h.nil0, fun hn => by
    obtain ⟨ad, e, hc⟩ := h.cells hn
    exact ⟨ad, e, fun j hj => (hk _ (World.block_lt_of_cell? w _ (hc j hj))).trans (hc j hj)⟩⟩

theorem Rd.below {w w1 : World} {A : Option Addr} {c : Nat} {xs : List Int} (h : Rd w A c xs) (hb : Below w.heap.size w w1) : Rd w1 A c xs :=
  h.keep fun _ hp => hb.cell hp
theorem Rd.drewN {w : World} {A : Option Addr} {c : Nat} {xs : List Int} (h : Rd w A c xs) (n : Nat) : Rd (w.drewN n) A c xs := ⟨h.cap, h.small, h.nil0, h.cells⟩
theorem Rd.drew {w : World} {A : Option Addr} {c : Nat} {xs : List Int} (h : Rd w A c xs) : Rd w.drew A c xs := ⟨h.cap, h.small, h.nil0, h.cells⟩
theorem Rd.alloc {w : World} {A : Option Addr} {c : Nat} {xs : List Int} (h : Rd w A c xs) (o : Obj) : Rd (w.alloc o) A c xs :=
  h.keep fun p hp => World.cell?_alloc_lt w o p hp
theorem Rd.take {w : World} {A : Option Addr} {c : Nat} {xs : List Int} (h : Rd w A c xs) (m : Nat) (hm : m ≤ xs.length) : Rd w A c (xs.take m) := by
  have hl : (xs.take m).length = m := by rw [List.length_take]; omega
  have := h.cap
  have := h.small
  refine ⟨by omega, by omega, h.nil0, fun hn => ?_⟩
  obtain ⟨ad, e, hc⟩ := h.cells (by omega)
  refine ⟨ad, e, fun j hj => ?_⟩
  rw [hc j (by omega)]
  rw [gd_take (by omega)]

/-! A row of the call's own: from block 'base' on, written by nobody else. -/
structure Own (w : World) (base : Nat) (A : Option Addr) (c : Nat) (s : List Int) : Prop where
  own : w.ownsRow base 53 1 (.slice A s.length c) s.length (nums .u32 s)
  small : s.length ≤ 4294967296

theorem Own.nil (w : World) (base : Nat) : Own w base none 0 [] := ⟨own_nil w base 53 1, by simp⟩
theorem Own.cap {w : World} {base c : Nat} {A : Option Addr} {s : List Int} (h : Own w base A c s) : s.length ≤ c := by
  rcases h.own.2 with ⟨he, h0⟩ | ⟨g, cap, cur, he, _, _, h1, _⟩
  · omega
  · injection he with _ _ he; omega
theorem Own.cap_le {w : World} {base c : Nat} {A : Option Addr} {s : List Int} (h : Own w base A c s) : c ≤ 9223372036854775807 := by
  rcases h.own.2 with ⟨he, h0⟩ | ⟨g, cap, cur, he, _, _, h1, h2, _⟩
  · injection he with _ _ he; omega
  · injection he with _ _ he; unfold maxLen at h2; omega
theorem Own.nil0 {w : World} {base c : Nat} {A : Option Addr} {s : List Int} (h : Own w base A c s) : A = none → c = 0 := by
  rintro rfl
  rcases h.own.2 with ⟨he, h0⟩ | ⟨g, cap, cur, he, _⟩
  · injection he
  · injection he with he _ _; cases he
theorem Own.form {w : World} {base c : Nat} {A : Option Addr} {s : List Int} (h : Own w base A c s) (hn : 0 < s.length) : ∃ g, A = some ⟨g, 0, none⟩ ∧ base ≤ g ∧ g < w.heap.size := by
  obtain ⟨g, cap, he, h1, h2⟩ := h.own.form hn
  injection he with he _ _
  exact ⟨g, he, h1, h2⟩
theorem Own.cell {w : World} {base c g : Nat} {s : List Int} (h : Own w base (some ⟨g, 0, none⟩) c s) (k : Nat) (hk : k < s.length) : w.cell? ⟨g, k, none⟩ = some (.int .u32 (gd s k)) := by
  rw [h.own.cellAt k (by omega)]
  simp [nums, gd_lt hk]
theorem Own.frozen {w : World} {base c g : Nat} {s : List Int} (h : Own w base (some ⟨g, 0, none⟩) c s) (k : Nat) : w.frozen? ⟨g, k, none⟩ = false := h.own.frozenAt k
theorem Own.set {w : World} {base c g : Nat} {s : List Int} (h : Own w base (some ⟨g, 0, none⟩) c s) (k : Nat) (x : Int) : Own (w.setCell ⟨g, k, none⟩ (.int .u32 x)) base (some ⟨g, 0, none⟩) c (s.set k x) := by
  have h1 := h.own.stored k (.int .u32 x)
  refine ⟨?_, by rw [List.length_set]; exact h.small⟩
  rw [List.length_set]
  simpa [nums, List.map_set] using h1.1
theorem Own.rd {w : World} {base c : Nat} {A : Option Addr} {s : List Int} (h : Own w base A c s) : Rd w A c s := by
  refine ⟨h.cap, h.small, h.nil0, fun hn => ?_⟩
  obtain ⟨g, rfl, _, _⟩ := h.form hn
  exact ⟨_, rfl, fun j hj => by rw [add_plain]; exact h.cell j hj⟩
theorem Own.lt {w : World} {base c g : Nat} {s : List Int} (h : Own w base (some ⟨g, 0, none⟩) c s) : base ≤ g ∧ g < w.heap.size := h.own.lt g rfl
theorem Own.keep {w w1 : World} {base c : Nat} {A : Option Addr} {s : List Int} (h : Own w base A c s) (hb : ∀ g, A = some ⟨g, 0, none⟩ → w1.heap[g]? = w.heap[g]?) : Own w1 base A c s :=
  ⟨own_move h.own (fun k hk => by
    rcases h.own.2 with ⟨he, h0⟩ | ⟨g, cap, cur, he, _⟩
    · injection he with he _ _; subst he; simp [Value.ownBlock] at hk
    · injection he with he _ _; subst he
      have : g = k := by simpa [Value.ownBlock] using hk
      subst this
      exact hb g rfl), h.small⟩
theorem Own.blk_lt {w : World} {base c g : Nat} {A : Option Addr} {s : List Int} (h : Own w base A c s) (e : A = some ⟨g, 0, none⟩) : base ≤ g ∧ g < w.heap.size := by subst e; exact h.lt
theorem Own.below {w w1 : World} {base c : Nat} {A : Option Addr} {s : List Int} (h : Own w base A c s) (hb : Below w.heap.size w w1) : Own w1 base A c s :=
  h.keep fun g e => hb.block g (h.blk_lt e).2
theorem Own.drewN {w : World} {base c : Nat} {A : Option Addr} {s : List Int} (h : Own w base A c s) (n : Nat) : Own (w.drewN n) base A c s := h.keep fun _ _ => rfl
theorem Own.drew {w : World} {base c : Nat} {A : Option Addr} {s : List Int} (h : Own w base A c s) : Own w.drew base A c s := h.keep fun _ _ => rfl
theorem Own.alloc {w : World} {base c : Nat} {A : Option Addr} {s : List Int} (h : Own w base A c s) (o : Obj) : Own (w.alloc o) base A c s :=
  h.keep fun g e => heap_alloc_old w o (h.blk_lt e).2
theorem Own.mono {w : World} {base base' c : Nat} {A : Option Addr} {s : List Int} (h : Own w base A c s) (hb : base' ≤ base) : Own w base' A c s := ⟨by
  refine ⟨h.own.1, ?_⟩
  rcases h.own.2 with he | ⟨g, cap, cur, he, h1, h2⟩
  · exact .inl he
  · exact .inr ⟨g, cap, cur, he, by omega, h2⟩, h.small⟩
theorem Own.take {w : World} {base c : Nat} {A : Option Addr} {s : List Int} (h : Own w base A c s) (m : Nat) (hm : m ≤ s.length) (hA : A ≠ none) : Own w base A c (s.take m) := by
  have hl : (s.take m).length = m := by rw [List.length_take]; omega
  have hsm := h.small
  refine ⟨?_, by omega⟩
  rw [hl]
  refine ⟨by simp [nums]; omega, ?_⟩
  rcases h.own.2 with ⟨he, h0⟩ | ⟨g, cap, cur, he, h1, h2, h3, h4, h5, h6⟩
  · injection he with he _ _; exact absurd he hA
  · injection he with he hn hc
    refine .inr ⟨g, cap, cur, by rw [he, hc], h1, h2, by omega, h4, h5, ?_⟩
    rw [Nat.mul_one] at h6 ⊢
    have : cur.toList.take m = (cur.toList.take s.length).take m := by rw [List.take_take, Nat.min_eq_left hm]
    rw [this, h6]; simp [nums, List.map_take]
theorem Own.made (W : World) (base m : Nat) (hb : base ≤ W.heap.size) (hm : m ≤ 4294967296) :
    Own (W.alloc (.cells (madeCells #[.int .u32 0] m) 53)) base (some ⟨W.heap.size, 0, none⟩) m (List.replicate m 0) := by
  have h := own_made W base 53 .u32 m hb (by omega)
  exact ⟨by simpa using h, by simpa using hm⟩
/-- make([]uint32, n): laid ahead of the walk, n as the walk spells it. -/
theorem make_u32 (m : Nat) (j : Int) (hj : j = m) (hm : m ≤ 70368744177664) :
    ∀ W : World, (Instr.makeSlice 45 (.int .i64 j) (.int .i64 j)).run Try.prog W = .ok (.slice (some ⟨W.heap.size, 0, none⟩) m m) (W.alloc (.cells (madeCells #[.int .u32 0] m) 53)) := by
  subst hj
  exact print_make (P := Try.prog) 45 53 .u32 4 Try.underlying45 info53 (by decide) m (by omega)
/-- append(v, x...): v the call's own, x whatever reads; behind 'at_builtin'. -/
theorem app_law {W : World} {ops : Array Oper} {rest : List Oper} {o : Oper} {a : Act} {Q : Exit → Act → World → Prop} (base : Nat) (hgd : o.guard = none) (s x : Operand)
    (ho : o.op = .call { callee := .builtin .append, args := #[s, x], argTypes := #[45, 45] })
    (A : Option Addr) (c n : Nat) (xs : List Int) (hs : a.eval s = .slice A n c) (hn : n = xs.length) (HO : Own W base A c xs)
    (B : Option Addr) (d m : Nat) (ys : List Int) (hx : a.eval x = .slice B m d) (hm : m = ys.length) (HR : Rd W B d ys)
    (hl : xs.length + ys.length ≤ 4294967296) (hbase : base ≤ W.heap.size)
    (h : ∀ R k w', Own w' base R k (xs ++ ys) → W.grownBy w' (Value.slice A n c).ownBlock → wpList Try.prog ops Q rest (a.put o.dst (.slice R (xs ++ ys).length k)) w') :
    wpList Try.prog ops Q (o :: rest) a W := by
  subst hn hm
  obtain ⟨i0, hi, hz0, hz1, hz2⟩ := info_parts info53
  cases B with
  | none =>
    have hd := HR.nil0 rfl
    have h0 : ys = [] := by
      have := HR.cap
      exact List.length_eq_zero_iff.1 (by omega)
    subst hd h0
    refine wpList_append_own_none hgd s x 45 ho base 53 i0 1 Try.underlying45 hi _ xs.length (nums .u32 xs) hs HO.own hx ?_
    have := h A c W (by rw [List.append_nil]; exact HO) ⟨rfl, rfl, rfl, Nat.le_refl _, fun _ _ _ => rfl⟩
    rwa [List.append_nil] at this
  | some bd =>
    refine wpList_append_own _ hgd s x 45 ho base 53 i0 (.int .u32 0) 1 4 Try.underlying45 hi hz0 hz1 hz2 rfl (by decide) _ xs.length (nums .u32 xs) hs HO.own bd ys.length d (nums .u32 ys) hx (by simp [nums]) ?_ ?_ (by unfold maxLen; omega) (by omega) hbase ?_
    · intro j u hj
      have hlt : j < ys.length := by
        have := (List.getElem?_eq_some_iff.1 hj).1
        simpa [nums] using this
      obtain ⟨ad, e, hc⟩ := HR.at_ j hlt
      cases e
      rw [hc]
      simp only [nums, List.getElem?_map, gd_lt hlt, Option.map_some] at hj
      exact hj
    · intro u hu
      obtain ⟨z, _, rfl⟩ := List.mem_map.1 hu
      rfl
    · intro v' w' hown hg _
      obtain ⟨R, k, rfl⟩ := own_slice hown
      have e : xs.length + ys.length = (xs ++ ys).length := by simp
      rw [e] at hown ⊢
      exact h R k w' ⟨by rw [nums_append]; exact hown, by simpa using hl⟩ hg
theorem Own.grown {w w1 : World} {base c : Nat} {A : Option Addr} {s : List Int} {row : Option Nat} (h : Own w base A c s) (hg : w.grownBy w1 row) (hr : ∀ g, A = some ⟨g, 0, none⟩ → some g ≠ row) : Own w1 base A c s :=
  h.keep fun g e => hg.block g (h.blk_lt e).2 (hr g e)
theorem Own.row {w : World} {base c n : Nat} {A : Option Addr} {s : List Int} (h : Own w base A c s) : ∀ k, (Value.slice A n c).ownBlock = some k → base ≤ k := by
  intro k hk
  rcases h.own.2 with ⟨he, h0⟩ | ⟨g, cap, cur, he, h1, _⟩
  · injection he with he _ _; subst he; simp [Value.ownBlock] at hk
  · injection he with he _ _; subst he
    have : g = k := by simpa [Value.ownBlock] using hk
    omega
/-- What a call leaves that returns a fresh list and has changed nothing that was there. -/
def Out (w : World) (r : List Int) (e : Ending) (w' : World) : Prop := ∃ R k, e = .returned (.slice R r.length k) ∧ Own w' w.heap.size R k r ∧ Below w.heap.size w w'
theorem Out.mk' {w w' : World} {r : List Int} {R : Option Addr} {k n : Nat} (hn : n = r.length) (ho : Own w' w.heap.size R k r) (hb : Below w.heap.size w w') : Out w r (.returned (.slice R n k)) w' :=
  ⟨R, k, by rw [hn], ho, hb⟩
theorem Rd.setCell {w : World} {A : Option Addr} {c B : Nat} {xs : List Int} {p : Addr} {u : Value} (h : Rd w A c xs) (hb : Below B w (w.setCell p u)) (hB : B = w.heap.size) : Rd (w.setCell p u) A c xs := h.below (hB ▸ hb)

end Go.Proofs.Ytcmiciloiicfoaa
