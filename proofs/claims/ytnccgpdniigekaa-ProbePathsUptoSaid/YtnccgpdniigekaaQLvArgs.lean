/-
  An argument that is a slice of slices of segments, opened.
-/
import Derived.Test.YtnccgpdniigekaaQG19
import Derived.Test.YtnccgpdniigekaaQG29
import Derived.Test.YtnccgpdniigekaaQG24
namespace Go.Proofs.Ytnccgpdniigekaa
open Go.ChangeShapes Go.WideShapes Go.RowKit Go.Deep
set_option linter.unusedVariables false
set_option linter.unusedSimpArgs false

instance : Inhabited Sg := ⟨zS⟩
section
variable {H : Type} {enc : TypeId × Value → H} {w : World} {base : Nat} {spare : Nat → Bool} {held : Bool}
theorem trod_float0 {P : Program} {t : TypeId} {k : FloatKind} {fuel : Nat} {cs : List Value} {x : DataW H × List MemPlace} (ht : P.underlying t = some (.float k)) (h : DataW.trod enc P w base spare held fuel t cs = some x) : ∃ b, cs = [.float k b] ∧ (Lit.float k b).wf = true := by
  cases fuel with
  | zero => simp [DataW.trod] at h
  | succ n =>
    unfold DataW.trod at h
    rw [ht] at h
    split at h <;> simp_all
theorem trod_float {P : Program} {t : TypeId} {fuel : Nat} {cs : List Value} {x : DataW H × List MemPlace} (ht : P.underlying t = some (.float .f64)) (h : DataW.trod enc P w base spare held fuel t cs = some x) : ∃ b, cs = [.float .f64 b] ∧ b < 18446744073709551616 := by
  obtain ⟨b, h1, h2⟩ := trod_float0 ht h
  exact ⟨b, h1, by simpa [Lit.wf] using h2⟩
theorem one_of {α : Type} {l : List α} (h : l.length = 5) : ∃ a b c d e, l = [a, b, c, d, e] := by
  match l, h with
  | [a, b, c, d, e], _ => exact ⟨a, b, c, d, e, rfl⟩
theorem open_seg {fuel : Nat} {cs : List Value} {x : DataW H × List MemPlace} (h : DataW.trod enc Try.prog w base spare held fuel 33 cs = some x) : ∃ s : Sg, cs = scells s ∧ SgOk s := by
  have c5 : Try.prog.cellsOf 33 = 5 := by kernel_rfl
  have cu : Try.prog.cellsOf 24 = 1 := by kernel_rfl
  have cf : Try.prog.cellsOf 31 = 1 := by kernel_rfl
  have ci : Try.prog.cellsOf 3 = 1 := by kernel_rfl
  obtain ⟨y0, y1, y2, y3, y4, n, _, hl, h0, h1, h2, h3, h4⟩ := trod_struct5 Try.underlying33 h
  rw [c5] at hl
  obtain ⟨a, b, c, d, e, rfl⟩ := one_of hl
  simp only [cu, cf, ci, List.drop, List.take] at h0 h1 h2 h3 h4
  obtain ⟨k0, e0, _, g0⟩ := DataW.trod_int Try.underlying24 h0
  obtain ⟨k1, e1, g1⟩ := trod_float Try.underlying31 h1
  obtain ⟨k2, e2, g2⟩ := trod_float Try.underlying31 h2
  obtain ⟨k3, e3, _, g3⟩ := DataW.trod_int Try.underlying3 h3
  obtain ⟨k4, e4, _, g4⟩ := DataW.trod_int Try.underlying3 h4
  simp only [List.cons.injEq, and_true] at e0 e1 e2 e3 e4
  subst e0 e1 e2 e3 e4
  exact ⟨⟨k0, k1, k2, k3, k4⟩, rfl, ⟨wf_u64 g0, g1, g2, wf_i64 g3, wf_i64 g4⟩⟩
theorem open_segs {fuel : Nat} {cs : List Value} {x : DataW H × List MemPlace} (h : DataW.trod enc Try.prog w base spare held fuel 30 cs = some x) :
    ∃ (A : Option Addr) (c : Nat) (L : List Sg), cs = [.slice A L.length c] ∧ L.length ≤ c ∧ ArgS w A L ∧ (∀ s ∈ L, SgOk s) ∧ ((x.1 = .nil ∧ L = []) ∨ ∃ elems sp, x.1 = .slice elems sp ∧ elems.length = L.length) := by
  rcases open_slice Try.underlying30 h with ⟨rfl, rfl⟩ | ⟨a, len, cap, m, n, D, Pl, rfl, hb, hl, hm, hmm, hx, hi⟩
  · exact ⟨none, 0, [], rfl, Nat.le_refl _, ArgS.nil _ _, fun s hs => absurd hs (by simp), .inl ⟨rfl, rfl⟩⟩
  · have hlm : len ≤ m := by subst hmm; split <;> omega
    have c5 : Try.prog.cellsOf 33 = 5 := by kernel_rfl
    have key : ∀ i, i < len → ∃ s : Sg, (∀ j, j < 5 → w.cell? (a.add (i * 5 + j)) = (scells s)[j]?) ∧ SgOk s := by
      intro i hil
      obtain ⟨cs', hc, ht'⟩ := hi i (by omega)
      rw [c5] at hc
      obtain ⟨_, hcl, hat⟩ := World.cells?_some hc
      obtain ⟨s, rfl, hs⟩ := open_seg ht'
      refine ⟨s, fun j hj => ?_, hs⟩
      rw [← Go.Deep.add_add]; exact hat j hj
    obtain ⟨F, hF⟩ := choose_lt key
    refine ⟨some a, cap, (List.range len).map F, by simp, by simpa using hl, fun hn => ?_, fun s hs => ?_, .inr ⟨_, _, by rw [hx], by simp⟩⟩
    · have h0 := (hF 0 (by simpa using hn)).1 0 (by omega)
      obtain ⟨b, o, r⟩ := a
      have hr : r = none := by simpa [Addr.add, scells] using World.cell?_spot h0
      subst hr
      refine ⟨b, o, rfl, World.block_lt_of_cell? w _ (by rw [Addr.add_mid] at h0; exact h0), fun i hil => ?_⟩
      rw [List.length_map, List.length_range] at hil
      have h1 := (hF i hil).1
      have e : ((List.range len).map F).getD i zS = F i := by
        rw [List.getD_eq_getElem?_getD, List.getElem?_map, List.getElem?_range hil]; rfl
      rw [e]
      refine ⟨?_, ?_, ?_, ?_, ?_⟩
      · have := h1 0 (by omega); rw [Addr.add_mid] at this; exact this
      · have := h1 1 (by omega); rw [Addr.add_mid, ← Nat.add_assoc] at this; exact this
      · have := h1 2 (by omega); rw [Addr.add_mid, ← Nat.add_assoc] at this; exact this
      · have := h1 3 (by omega); rw [Addr.add_mid, ← Nat.add_assoc] at this; exact this
      · have := h1 4 (by omega); rw [Addr.add_mid, ← Nat.add_assoc] at this; exact this
    · obtain ⟨i, hi', rfl⟩ := List.mem_map.1 hs
      exact (hF i (List.mem_range.1 hi')).2
theorem weightsAll_mem {P : Program} {e : TypeId} : ∀ {l : List (DataW H)} {d : DataW H}, d ∈ l → ∀ n ∈ d.weights P e, n ∈ DataW.weightsAll P e l
  | x :: l, d, hd, n, hn => by
    simp only [DataW.weightsAll, List.mem_append]
    rcases List.mem_cons.1 hd with rfl | hd
    · exact .inl hn
    · exact .inr (weightsAll_mem hd n hn)
/-- Levels as an argument: all that a walk may ask. -/
structure LvArg (w : World) (A : Option Addr) (c : Nat) (ll : List (List Sg)) : Prop where
  arg : ArgSS w A ll
  cap : ll.length ≤ c
  segs : ∀ l ∈ ll, ∀ s ∈ l, SgOk s
  lens7 : ∀ l ∈ ll, l.length ≤ 7000000000000
  count7 : ll.length ≤ 7000000000000
theorem LvArg.lens {w : World} {A : Option Addr} {c : Nat} {ll : List (List Sg)} (h : LvArg w A c ll) : ∀ l ∈ ll, l.length ≤ 17592186044416 := fun l hl => by have := h.lens7 l hl; omega
theorem LvArg.count {w : World} {A : Option Addr} {c : Nat} {ll : List (List Sg)} (h : LvArg w A c ll) : ll.length ≤ 17592186044416 := by have := h.count7; omega
theorem open_segss {fuel : Nat} {cs : List Value} {x : DataW H × List MemPlace} (h : DataW.trod enc Try.prog w base spare held fuel 25 cs = some x) (hw : ∀ n ∈ x.1.weights Try.prog 25, n ≤ reachBytes) :
    ∃ (A : Option Addr) (c : Nat) (ll : List (List Sg)), cs = [.slice A ll.length c] ∧ LvArg w A c ll := by
  rcases open_slice Try.underlying25 h with ⟨rfl, rfl⟩ | ⟨a, len, cap, m, n, D, Pl, rfl, hb, hl, hm, hmm, hx, hi⟩
  · exact ⟨none, 0, [], rfl, fun h => absurd h (by simp), Nat.le_refl _, fun l hl => absurd hl (by simp), fun l hl => absurd hl (by simp), Nat.zero_le _⟩
  · have hlm : len ≤ m := by subst hmm; split <;> omega
    have c1 : Try.prog.cellsOf 30 = 1 := by kernel_rfl
    have b24 : Try.prog.bytesOf 30 = 24 := by kernel_rfl
    have b40 : Try.prog.bytesOf 33 = 40 := by kernel_rfl
    rw [hx] at hw
    simp only [DataW.weights, Try.underlying25, List.mem_cons, List.mem_append] at hw
    have hlen := hw _ (.inl rfl)
    rw [b24] at hlen
    simp only [List.length_map, List.length_range] at hlen
    have key : ∀ i, i < len → ∃ (l : List Sg), (∃ A' c', w.cell? (a.add i) = some (.slice A' l.length c') ∧ ArgS w A' l) ∧ (∀ s ∈ l, SgOk s) ∧ l.length ≤ 7000000000000 := by
      intro i hil
      obtain ⟨cs', hc, ht'⟩ := hi i (by omega)
      rw [c1] at hc
      obtain ⟨_, hcl, hat⟩ := World.cells?_some hc
      obtain ⟨A', c', l, rfl, h1, h2, h3, h4⟩ := open_segs ht'
      have h0 := hat 0 (by omega)
      refine ⟨l, ⟨A', c', by simpa [Go.Deep.add_add] using h0, h2⟩, h3, ?_⟩
      rcases h4 with ⟨_, rfl⟩ | ⟨elems, sp, hd, he⟩
      · exact Nat.zero_le _
      · simp only [] at hd
        have := hw ((elems.length + sp.length) * 40) (.inr (.inl (weightsAll_mem (d := D i) (List.mem_map.2 ⟨i, List.mem_range.2 hil, rfl⟩) _ (by rw [hd]; simp [DataW.weights, Try.underlying30, b40]))))
        unfold reachBytes at this
        omega
    obtain ⟨F, hF⟩ := choose_lt key
    have eF : ∀ i, i < len → ((List.range len).map F).getD i [] = F i := fun i hil => by
      rw [List.getD_eq_getElem?_getD, List.getElem?_map, List.getElem?_range hil]; rfl
    refine ⟨some a, cap, (List.range len).map F, by simp, fun hn => ?_, by simpa using hl, fun l hl => ?_, fun l hl => ?_, ?_⟩
    · obtain ⟨⟨A', c', h0, _⟩, _⟩ := hF 0 (by simpa using hn)
      obtain ⟨b, o, r⟩ := a
      have hr : r = none := by simpa [Addr.add] using World.cell?_spot h0
      subst hr
      refine ⟨b, o, rfl, World.block_lt_of_cell? w _ (by rw [Addr.add_mid] at h0; exact h0), fun i hil => ?_⟩
      rw [List.length_map, List.length_range] at hil
      obtain ⟨⟨A', c', h1, h2⟩, _⟩ := hF i hil
      rw [eF i hil]
      rw [Addr.add_mid] at h1
      exact ⟨A', c', h1, h2⟩
    · obtain ⟨i, hi', rfl⟩ := List.mem_map.1 hl
      exact (hF i (List.mem_range.1 hi')).2.1
    · obtain ⟨i, hi', rfl⟩ := List.mem_map.1 hl
      exact (hF i (List.mem_range.1 hi')).2.2
    · rw [List.length_map, List.length_range]
      unfold reachBytes at hlen
      omega
end
end Go.Proofs.Ytnccgpdniigekaa
