/-
  Some buffers at once, the program's and the reference's: none shares memory with another.
-/
import Derived.Test.YtalhfjcopkmmlaaBfAlike
namespace Go.Proofs.Ytalhfjcopkmmlaa
open Go.RowKit
set_option linter.unusedVariables false
set_option linter.unusedSimpArgs false

/-- A buffer, the program's or the reference's: its type, its block, its entries, its slice. -/
structure Ob where
  t : TypeId
  b : Nat
  es : List Ent
  v : Value
structure Ob.In (o : Ob) (m : Int) (w : World) : Prop where
  blk : Blk w o.b o.t #[.int .i64 m, o.v]
  row : Row w o.v o.es
def Ob.Off (o p : Ob) : Prop := o.b ≠ p.b ∧ ∀ g, o.v.ownBlock = some g → p.v.ownBlock ≠ some g
theorem Ob.Off.symm {o p : Ob} (h : o.Off p) : p.Off o := ⟨fun e => h.1 e.symm, fun g hg e => h.2 g e hg⟩
structure St (W : World) (m : Int) (l : List Ob) (w : World) : Prop where
  all : ∀ o ∈ l, o.In m w ∧ o.t ≠ 27 ∧ W.heap.size ≤ o.b ∧ ∀ g, o.v.ownBlock = some g → W.heap.size ≤ g
  off : l.Pairwise Ob.Off
  bel : Below W.heap.size W w
section
variable {W w w' : World} {m : Int} {l l' : List Ob} {o o' : Ob}
theorem St.perm (h : St W m l w) (p : l'.Perm l) : St W m l' w := ⟨fun o ho => h.all o (p.mem_iff.1 ho), (List.Perm.pairwise_iff (fun hxy => Ob.Off.symm hxy) p).2 h.off, h.bel⟩
theorem St.tail (h : St W m (o :: l) w) : St W m l w := ⟨fun p hp => h.all p (List.mem_cons_of_mem _ hp), (List.pairwise_cons.1 h.off).2, h.bel⟩
theorem St.chg {S : Nat → Prop} (h : St W m l w) (k : Chg S w w') (hS : ∀ i, i < w.heap.size → S i → W.heap.size ≤ i) (hf : ∀ o ∈ l, ¬ S o.b ∧ ∀ g, o.v.ownBlock = some g → ¬ S g) : St W m l w' :=
  ⟨fun o ho => ⟨⟨(h.all o ho).1.blk.chg k (hf o ho).1, (h.all o ho).1.row.chg k (hf o ho).2⟩, (h.all o ho).2⟩, h.off, below_chg h.bel k hS h.bel.size⟩
theorem St.below (h : St W m l w) (k : Below w.heap.size w w') : St W m l w' := h.chg (Chg.of_below k) (fun _ _ h => h.elim) (fun o ho => ⟨fun h => h, fun _ _ h => h⟩)
theorem St.far {S : Nat → Prop} (h : St W m l w) (k : Chg S w w') (hS : ∀ i, i < w.heap.size → ¬ S i) : St W m l w' :=
  h.chg k (fun i hi hs => absurd hs (hS i hi)) (fun o ho => ⟨hS _ (h.all o ho).1.blk.lt, fun g hg => hS _ ((h.all o ho).1.row.lt hg)⟩)
theorem St.head (h : St W m (o :: l) w) (hi : o'.In m w') (hb : o'.b = o.b) (ht : o'.t = o.t) (k : Chg (Foot o.b o.v) w w') (hn : ∀ g, o'.v.ownBlock = some g → o.v.ownBlock = some g ∨ w.heap.size ≤ g) : St W m (o' :: l) w' := by
  obtain ⟨h1, h2⟩ := List.pairwise_cons.1 h.off
  obtain ⟨oi, ot, ob, ov⟩ := h.all o (by simp)
  have hS : ∀ i, i < w.heap.size → Foot o.b o.v i → W.heap.size ≤ i := by
    rintro i _ (rfl | e)
    · exact ob
    · exact ov i e
  have ht' : St W m l w' := h.tail.chg k hS (fun p hp => by
    obtain ⟨pi, pt, _, _⟩ := h.all p (List.mem_cons_of_mem _ hp)
    refine ⟨?_, fun g hg => ?_⟩
    · rintro (e | e)
      · exact (h1 p hp).1 e.symm
      · exact own_ne_blk oi.row pi.blk (Ne.symm pt) e
    · rintro (e | e)
      · exact own_ne_blk pi.row oi.blk (Ne.symm ot) (e ▸ hg)
      · exact (h1 p hp).2 g e hg)
  refine ⟨fun p hp => ?_, List.pairwise_cons.2 ⟨fun p hp => ?_, h2⟩, ht'.bel⟩
  · rcases List.mem_cons.1 hp with rfl | hp
    · refine ⟨hi, by rw [ht]; exact ot, by rw [hb]; exact ob, fun g hg => ?_⟩
      rcases hn g hg with h' | h'
      · exact ov g h'
      · exact Nat.le_trans h.bel.size h'
    · exact ht'.all p hp
  · refine ⟨by rw [hb]; exact (h1 p hp).1, fun g hg => ?_⟩
    rcases hn g hg with h' | h'
    · exact (h1 p hp).2 g h'
    · intro e; have := (h.all p (List.mem_cons_of_mem _ hp)).1.row.lt e; omega
theorem St.add (h : St W m l w) (k : Below w.heap.size w w') (hi : o.In m w') (ht : o.t ≠ 27) (hb : w.heap.size ≤ o.b) (hv : ∀ g, o.v.ownBlock = some g → w.heap.size ≤ g) : St W m (o :: l) w' := by
  have h' := h.below k
  refine ⟨fun p hp => ?_, List.pairwise_cons.2 ⟨fun p hp => ⟨fun e => ?_, fun g hg e => ?_⟩, h.off⟩, h'.bel⟩
  · rcases List.mem_cons.1 hp with rfl | hp
    · exact ⟨hi, ht, Nat.le_trans h.bel.size hb, fun g hg => Nat.le_trans h.bel.size (hv g hg)⟩
    · exact h'.all p hp
  · have := (h.all p hp).1.blk.lt; omega
  · have := (h.all p hp).1.row.lt e; have := hv g hg; omega
/-- The program's buffer. -/
def PO (b : Nat) (es : List Ent) (v : Value) : Ob := ⟨53, b, es, v⟩
/-- The reference's. -/
def RO (b : Nat) (es : List Ent) (v : Value) : Ob := ⟨58, b, es, v⟩
theorem PO.buf {b : Nat} {es : List Ent} {v : Value} (h : (PO b es v).In m w) : Buf w b m es v := ⟨h.blk, h.row⟩
theorem RO.ref {b : Nat} {es : List Ent} {v : Value} (h : (RO b es v).In m w) : Ref w b m es v := ⟨h.blk, h.row⟩
theorem Buf.po {b : Nat} {es : List Ent} {v : Value} (h : Buf w b m es v) : (PO b es v).In m w := ⟨h.blk, h.row⟩
theorem Ref.ro {b : Nat} {es : List Ent} {v : Value} (h : Ref w b m es v) : (RO b es v).In m w := ⟨h.blk, h.row⟩
end
/-- The four: one pair, and the one beside it. -/
structure Four (W : World) (m : Nat) (bx by_ bz bv : Nat) (ex ez : List Ent) (vx vy vz vv : Value) (w : World) : Prop where
  st : St W m [PO bx ex vx, RO by_ ex vy, PO bz ez vz, RO bv ez vv] w
  rx : Rises ex
  rz : Rises ez
section
variable {W w w' : World} {m bx by_ bz bv : Nat} {ex ez : List Ent} {vx vy vz vv : Value}
theorem Four.x (h : Four W m bx by_ bz bv ex ez vx vy vz vv w) : Buf w bx m ex vx := PO.buf (h.st.all _ (by simp)).1
theorem Four.y (h : Four W m bx by_ bz bv ex ez vx vy vz vv w) : Ref w by_ m ex vy := RO.ref (h.st.all _ (by simp)).1
theorem Four.z (h : Four W m bx by_ bz bv ex ez vx vy vz vv w) : Buf w bz m ez vz := PO.buf (h.st.all _ (by simp)).1
theorem Four.v (h : Four W m bx by_ bz bv ex ez vx vy vz vv w) : Ref w bv m ez vv := RO.ref (h.st.all _ (by simp)).1
theorem Four.swap (h : Four W m bx by_ bz bv ex ez vx vy vz vv w) : Four W m bz bv bx by_ ez ex vz vv vx vy w :=
  ⟨h.st.perm (List.perm_append_comm (l₁ := [PO bz ez vz, RO bv ez vv]) (l₂ := [PO bx ex vx, RO by_ ex vy])), h.rz, h.rx⟩
theorem Four.below (h : Four W m bx by_ bz bv ex ez vx vy vz vv w) (k : Below w.heap.size w w') : Four W m bx by_ bz bv ex ez vx vy vz vv w' := ⟨h.st.below k, h.rx, h.rz⟩
end
end Go.Proofs.Ytalhfjcopkmmlaa
