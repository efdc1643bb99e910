/-
  BufferScript: the walk.
-/
import Derived.Test.YtalhfjcopkmmlaaBfSt
import Derived.Deep.CutBlock
namespace Go.Proofs.Ytalhfjcopkmmlaa
open Go.RowKit
set_option linter.unusedVariables false
set_option linter.unusedSimpArgs false

theorem cells4 {w : World} {g : Nat} {t : TypeId} {x y z u : Value} (h : Blk w g t #[x, y, z, u]) : w.cell? ⟨g, 0, none⟩ = some x ∧ w.cell? ⟨g, 1, none⟩ = some y ∧ w.cell? ⟨g, 2, none⟩ = some z ∧ w.cell? ⟨g, 3, none⟩ = some u := ⟨h.cell 0, h.cell 1, h.cell 2, h.cell 3⟩
theorem Blk.offBlk {w : World} {g b : Nat} {t t' : TypeId} {cs cs' : Array Value} (h : Blk w g t cs) (h' : Blk w b t' cs') (hne : t ≠ t') (e : g = b) : False := by subst e; exact hne (Blk.uniq h h').1
theorem po_t {b : Nat} {es : List Ent} {v : Value} : (PO b es v).t ≠ 27 := by show 53 ≠ 27; decide
theorem ro_t {b : Nat} {es : List Ent} {v : Value} : (RO b es v).t ≠ 27 := by show 58 ≠ 27; decide
section
variable {W w w' w2 w3 w4 : World} {m bx by_ bz bv : Nat} {ex ez : List Ent} {vx vy vz vv : Value}
theorem Four.xoff (h : Four W m bx by_ bz bv ex ez vx vy vz vv w) {N : Nat} {t : TypeId} {cs : Array Value} (n : Blk w N t cs) (h1 : t ≠ 53) (h2 : t ≠ 27) : ¬ Foot bx vx N := by
  rintro (e | e)
  · exact n.offBlk h.x.blk h1 e
  · exact own_ne_blk h.x.row n (Ne.symm h2) e
theorem Four.putX (h : Four W m bx by_ bz bv ex ez vx vy vz vv w) {e : Ent} {vx' : Value} (B : Buf w3 bx m (putL m ex e).1 vx') (k : Chg (Foot bx vx) w w3) (n : ∀ g, vx'.ownBlock = some g → vx.ownBlock = some g ∨ w.heap.size ≤ g) :
    Ref w3 by_ m ex vy ∧ ∀ {w4 : World} {vy' : Value}, Ref w4 by_ m (putL m ex e).1 vy' → Chg (fun k => k = by_) w3 w4 → (∀ g, vy'.ownBlock = some g → vy.ownBlock = some g ∨ w3.heap.size ≤ g) → Four W m bx by_ bz bv (putL m ex e).1 ez vx' vy' vz vv w4 := by
  have s3 : St W m [PO bx (putL m ex e).1 vx', RO by_ ex vy, PO bz ez vz, RO bv ez vv] w3 := h.st.head B.po rfl rfl k n
  have r3 : Ref w3 by_ m ex vy := RO.ref (s3.all _ (by simp)).1
  refine ⟨r3, fun {w4 vy'} B4 k4 n4 => ⟨?_, putL_rises e h.rx, h.rz⟩⟩
  have s4 := (s3.perm (List.Perm.swap _ _ _)).head B4.ro rfl rfl (k4.mono (fun i _ hi => .inl hi)) n4
  exact s4.perm (List.Perm.swap _ _ _)
theorem Four.emptyX (h : Four W m bx by_ bz bv ex ez vx vy vz vv w) (B : Buf w3 bx m [] (.slice none 0 0)) (k : Chg (fun k => k = bx) w w3) :
    Ref w3 by_ m ex vy ∧ ∀ {w4 : World}, Ref w4 by_ m [] (.slice none 0 0) → Chg (fun k => k = by_) w3 w4 → Four W m bx by_ bz bv [] ez (.slice none 0 0) (.slice none 0 0) vz vv w4 := by
  have s3 : St W m [PO bx [] (.slice none 0 0), RO by_ ex vy, PO bz ez vz, RO bv ez vv] w3 := h.st.head B.po rfl rfl (k.mono (fun i _ hi => .inl hi)) (fun g hg => by simp [PO, Value.ownBlock] at hg)
  have r3 : Ref w3 by_ m ex vy := RO.ref (s3.all _ (by simp)).1
  refine ⟨r3, fun {w4} B4 k4 => ⟨?_, List.Pairwise.nil, h.rz⟩⟩
  have s4 := (s3.perm (List.Perm.swap _ _ _)).head B4.ro rfl rfl (k4.mono (fun i _ hi => .inl hi)) (fun g hg => by simp [RO, Value.ownBlock] at hg)
  exact s4.perm (List.Perm.swap _ _ _)
theorem marked_chg {n : Nat} (hb : Below w.heap.size w w2) (k : Chg (fun i => n ≤ i) w2 w3) : Chg (fun i => n ≤ i) w w3 := ((Chg.of_below hb).mono (fun _ _ h => h.elim)).trans k (fun _ _ h => h)
theorem Four.marked (h : Four W m bx by_ bz bv ex ez vx vy vz vv w) (hb : Below w.heap.size w w2) (k : Chg (fun i => w.heap.size ≤ i) w2 w3) : Four W m bx by_ bz bv ex ez vx vy vz vv w3 :=
  ⟨h.st.far (marked_chg hb k) (fun i hi hs => by omega), h.rx, h.rz⟩
/-- All blocks of the four lie below. -/
theorem Four.maxb (h : Four W m bx by_ bz bv ex ez vx vy vz vv w) : (bx < w.heap.size ∧ by_ < w.heap.size ∧ bz < w.heap.size ∧ bv < w.heap.size) ∧ (∀ g, vz.ownBlock = some g → g < w.heap.size) ∧ ∀ g, vv.ownBlock = some g → g < w.heap.size :=
  ⟨⟨h.x.blk.lt, h.y.blk.lt, h.z.blk.lt, h.v.blk.lt⟩, fun g hg => h.z.row.lt hg, fun g hg => h.v.row.lt hg⟩
theorem Four.marked2 {n : Nat} (h : Four W m bx by_ bz bv [] ez (.slice none 0 0) (.slice none 0 0) vz vv w) (k : Chg (fun i => n ≤ i) w w')
    (hm : (bx < n ∧ by_ < n ∧ bz < n ∧ bv < n) ∧ (∀ g, vz.ownBlock = some g → g < n) ∧ ∀ g, vv.ownBlock = some g → g < n) {a b c : Nat} (h1 : n ≤ a) (h2 : a ≤ b) (h3 : b ≤ c) : Four W m bx by_ bz bv [] ez (.slice none 0 0) (.slice none 0 0) vz vv w' := by
  obtain ⟨⟨q1, q2, q3, q4⟩, q5, q6⟩ := hm
  have hlo := (h.st.all (PO bx [] (.slice none 0 0)) (by simp)).2.2.1
  refine ⟨h.st.chg k (fun i hi hs => ?_) (fun o ho => ?_), h.rx, h.rz⟩
  · simp only [PO] at hlo; omega
  · simp only [List.mem_cons, List.not_mem_nil, or_false] at ho
    rcases ho with rfl | rfl | rfl | rfl
    · exact ⟨by simp only [PO]; omega, fun g hg => by simp [PO, Value.ownBlock] at hg⟩
    · exact ⟨by simp only [RO]; omega, fun g hg => by simp [RO, Value.ownBlock] at hg⟩
    · exact ⟨by simp only [PO]; omega, fun g hg => by have := q5 g hg; omega⟩
    · exact ⟨by simp only [RO]; omega, fun g hg => by have := q6 g hg; omega⟩
theorem Four.cloned (h : Four W m bx by_ bz bv ex ez vx vy vz vv w) {bx' by' : Nat} {vx' vy' : Value} (hbx : w.heap.size ≤ bx') (B3 : Buf w3 bx' m ex vx') (hb3 : Below w.heap.size w w3) (n3 : ∀ g, vx'.ownBlock = some g → w.heap.size ≤ g)
    (hby : w3.heap.size ≤ by') (B4 : Ref w4 by' m ex vy') (hb4 : Below w3.heap.size w3 w4) (n4 : ∀ g, vy'.ownBlock = some g → w3.heap.size ≤ g) : Four W m bx' by' bx by_ ex ex vx' vy' vx vy w4 := by
  have s : St W m [PO bx ex vx, RO by_ ex vy] w := ⟨fun o ho => h.st.all o (by simp only [List.mem_cons, List.not_mem_nil, or_false] at ho ⊢; rcases ho with h | h <;> simp [h]), h.st.off.sublist (by simp), h.st.bel⟩
  have s3 := s.add hb3 B3.po po_t hbx n3
  have s4 := s3.add hb4 B4.ro ro_t hby n4
  exact ⟨s4.perm (List.Perm.swap _ _ _), h.rx, h.rx⟩
theorem mark_any (es : List Ent) (n : Nat) (A : Option Addr) (c : Nat) (hlen : (es.length + 2) * 24 ≤ 140737488355328) (w : World) (hw : Row w (.slice A es.length c) es) (hn : ∀ g, Value.ownBlock (.slice A es.length c) = some g → n ≤ g) :
    Calls Try.prog 19 #[.slice A es.length c] w fun e w' => e = .returned (.tuple #[]) ∧ Chg (fun k => n ≤ k) w w' := by
  rcases hw.form with ⟨hv, hes⟩ | ⟨g, cap, hv, _⟩
  · rw [hv]
    exact (mark_nil w).mono fun e w' ⟨he, k⟩ => ⟨he, k.mono (fun _ _ h => h.elim)⟩
  · rw [hv] at hw hn ⊢
    exact (mark_row es g cap hlen w hw).mono fun e w' ⟨he, k⟩ => ⟨he, k.mono (fun i _ hi => by rw [hi]; exact hn g rfl)⟩
end

/-- The script that came in. -/
def ArgO (w : World) (A : Option Addr) (n : Nat) (K : Nat → Int) (E : Nat → Ent) : Prop := 0 < n → ∃ b o, A = some ⟨b, o, none⟩ ∧ b < w.heap.size ∧
  ∀ i, i < n → (-9223372036854775808 ≤ K i ∧ K i ≤ 9223372036854775807) ∧ w.cell? ⟨b, o + i * 4, none⟩ = some (.int .i64 (K i)) ∧ w.cell? ⟨b, o + i * 4 + 1, none⟩ = some (.int .u64 (E i).1) ∧ w.cell? ⟨b, o + i * 4 + 2, none⟩ = some (.int .u64 (E i).2.1) ∧ w.cell? ⟨b, o + i * 4 + 3, none⟩ = some (.bool (E i).2.2)
structure ScriptSoFar (W : World) (m n : Nat) (x6 x8 x10 x11 x12 : Value) (w : World) (i bx by_ bz bv : Nat) (ex ez : List Ent) (vx vy vz vv : Value) : Prop where
  le : i ≤ n
  at_ : x12 = .int .i64 i
  p6 : x6 = .pointer (some ⟨bx, 0, none⟩)
  p8 : x8 = .pointer (some ⟨by_, 0, none⟩)
  p10 : x10 = .pointer (some ⟨bz, 0, none⟩)
  p11 : x11 = .pointer (some ⟨bv, 0, none⟩)
  four : Four W m bx by_ bz bv ex ez vx vy vz vv w
  lx : ex.length ≤ i
  lz : ez.length ≤ i
  mx : ex.length ≤ m
  mz : ez.length ≤ m
def ScriptTo (W : World) (m n : Nat) (x6 x8 x10 x11 x12 : Value) (w : World) : Prop := ∃ i bx by_ bz bv ex ez vx vy vz vv, ScriptSoFar W m n x6 x8 x10 x11 x12 w i bx by_ bz bv ex ez vx vy vz vv

theorem kind_q (n : Int) (h1 : -9223372036854775808 ≤ n) (h2 : n ≤ 9223372036854775807) (w : World) : ∃ q : Int, (q = 0 ∨ q = 1 ∨ q = 2 ∨ q = 3 ∨ q = 4 ∨ q = 5 ∨ q = 6 ∨ q = 7) ∧
    Calls Try.prog 7 #[.int .i64 n] w fun e w' => e = .returned (.int .i64 q) ∧ w = w' :=
  ⟨kindN n, by unfold kindN; omega, kind_any n h1 h2 w⟩
theorem infoB : True := trivial

set_option maxRecDepth 100000 in
set_option maxHeartbeats 8000000 in
theorem script_walk (most : Int) (A : Option Addr) (c n : Nat) (K : Nat → Int) (E : Nat → Ent) (hn : (n + 2) * 24 ≤ 140737488355328) (W : World) (hO : ArgO W A n K E) :
    Calls Try.prog 5 #[.int .i64 most, .slice A n c] W fun e w' => e = .returned (.bool true) ∧ Below W.heap.size W w' := by
  go_enter Try.func5, Try.ntmps5
  go_wp2_with fail
  refine (shown_any _).mono ?_
  rintro e w1 ⟨rfl, hb1⟩
  by_cases hbad : most < 1 ∨ 4294967296 < most
  · go_wp2_with fail
    refine (new_bad most hbad _).mono ?_
    rintro e w2 ⟨rfl, rfl⟩
    go_wp2_with fail
    refine (rnew_bad most hbad _).mono ?_
    rintro e w2 ⟨rfl, rfl⟩
    clear hbad
    go_wp2_with fail
    go_ret
    exact ⟨rfl, hb1⟩
  obtain ⟨m, hm⟩ : ∃ m : Nat, most = (m : Int) := ⟨most.toNat, by omega⟩
  subst hm
  have h1 : ¬ (m : Int) < 1 := by omega
  have h2 : ¬ 4294967296 < (m : Int) := by omega
  clear hbad
  have NX := new_good m h1 h2
  have NY := rnew_good m h1 h2
  clear h1 h2
  go_wp2_with fail
  refine (NX _).mono ?_
  rintro e w2 ⟨rfl, B2, hb2⟩
  go_wp2_with fail
  refine (NY _).mono ?_
  rintro e w3 ⟨rfl, B3, hb3⟩
  have B2' := B2.below hb3
  clear NX NY
  go_wp2_with fail
  refine (clone_any _ m [] _ (by simp) _ B2').mono ?_
  rintro e w4 ⟨bz, vz, rfl, hbz, B4, hb4, n4⟩
  have B3' := B3.below hb4
  go_wp2_with fail
  refine (rclone_any _ m [] _ (by simp) _ B3').mono ?_
  rintro e w5 ⟨bv, vv, rfl, hbv, B5, hb5, n5⟩
  have F0 : Four W m w1.heap.size w2.heap.size bz bv [] [] (.slice none 0 0) (.slice none 0 0) vz vv w5 := by
    have s0 : St W m [] w1 := ⟨fun o ho => absurd ho (by simp), List.Pairwise.nil, hb1⟩
    have s1 := s0.add hb2 B2.po po_t (Nat.le_refl _) (fun g hg => by simp [PO, Value.ownBlock] at hg)
    have s2 := s1.add hb3 B3.ro ro_t (Nat.le_refl _) (fun g hg => by simp [RO, Value.ownBlock] at hg)
    have s3 := s2.add hb4 B4.po po_t hbz n4
    have s4 := s3.add hb5 B5.ro ro_t hbv n5
    exact ⟨s4.perm (List.reverse_perm [_, _, _, _]), List.Pairwise.nil, List.Pairwise.nil⟩
  generalize w1.heap.size = bx0 at F0 ⊢
  generalize w2.heap.size = by0 at F0 ⊢
  clear B2 hb2 B3 hb3 B2' hbz B4 hb4 n4 B3' hbv B5 hb5 n5
  go_wp2_with fail
  go_loopw [6, 8, 10, 11, 12] (fun x6 x8 x10 x11 x12 wr => ScriptTo W m n x6 x8 x10 x11 x12 wr) (fun _ _ _ _ x12 _ => n - (intOf x12).toNat)
  case atStart => exact ⟨0, _, _, _, _, _, _, _, _, _, _, Nat.zero_le _, rfl, rfl, rfl, rfl, rfl, F0, Nat.le_refl _, Nat.le_refl _, Nat.zero_le _, Nat.zero_le _⟩
  case round =>
    obtain ⟨i, bx, by_, bz, bv, ex, ez, vx, vy, vz, vv, hi, rfl, rfl, rfl, rfl, rfl, F, hlx0, hlz0, hmx, hmz⟩ := hrel
    by_cases hlt : i < n
    · obtain ⟨b0, o, rfl, hb0, hc⟩ := hO (by omega)
      obtain ⟨⟨kb1, kb2⟩, c0, c1, c2, c3⟩ := hc i hlt
      rcases hE : E i with ⟨key, val, gone⟩
      rw [hE] at c1 c2 c3
      simp only [] at c1 c2 c3
      have bel := F.st.bel
      have d0 := (bel.cell (p := ⟨b0, o + i * 4, none⟩) hb0).trans c0
      have d1 := (bel.cell (p := ⟨b0, o + i * 4 + 1, none⟩) hb0).trans c1
      have d2 := (bel.cell (p := ⟨b0, o + i * 4 + 2, none⟩) hb0).trans c2
      have d3 := (bel.cell (p := ⟨b0, o + i * 4 + 3, none⟩) hb0).trans c3
      obtain ⟨q, hq, KA⟩ := kind_q (K i) kb1 kb2 (wr.alloc (.cells #[.int .i64 (K i), .int .u64 key, .int .u64 val, .bool gone] 48))
      clear c0 c1 c2 c3 hc hE bel
      go_upto_region 16 with fail
      generalize hw2 : wr.alloc (.cells #[.int .i64 (K i), .int .u64 key, .int .u64 val, .bool gone] 48) = w2 at KA ⊢
      have N2 : Blk w2 wr.heap.size 48 #[.int .i64 (K i), .int .u64 key, .int .u64 val, .bool gone] := by rw [← hw2]; exact Blk.new _ _ _
      have F2 : Four W m bx by_ bz bv ex ez vx vy vz vv w2 := F.below (by rw [← hw2]; exact below_new (Below.refl _ _) _)
      clear hw2 d0 d1 d2 d3 F
      generalize wr.heap.size = N at N2 ⊢
      obtain ⟨a0, a1, a2, a3⟩ := cells4 N2
      go_wp2_with fail
      refine KA.mono ?_
      rintro e w2' ⟨rfl, rfl⟩
      clear a0 a1 a2 a3 KA
      rcases hq with rfl | rfl | rfl | rfl | rfl | rfl | rfl | rfl
      · obtain ⟨a0, a1, a2, a3⟩ := cells4 N2
        go_wp2_with fail
        refine (put_any bx m ex vx (key, val, gone) F2.rx (by omega) _ F2.x).mono ?_
        rintro e w3 ⟨rfl, vx', B3, k3, n3⟩
        have N3 := N2.chg k3 (F2.xoff N2 (by decide) (by decide))
        have M3 := Lib.hid (F2.putX B3 k3 n3)
        clear a0 a1 a2 a3 B3 k3 n3
        obtain ⟨a0, a1, a2, a3⟩ := cells4 N3
        go_wp2_with fail
        refine (rput_any by_ m ex vy (key, val, gone) (by omega) _ M3.out.1).mono ?_
        rintro e w4 ⟨rfl, vy', B4, k4, n4⟩
        have N9 := N3.chg k4 (fun e => N3.offBlk M3.out.1.blk (by decide) e)
        have F9 := M3.out.2 B4 k4 n4
        have hlx := length_putL (e := (key, val, gone)) (es := ex) (most := m) hmx
        have hmx2 := hlx.1
        clear a0 a1 a2 a3 B4 k4 n4 N3
        generalize putL m ex (key, val, gone) = pl at F9 hlx hmx2 ⊢
        obtain ⟨a0, a1, a2, a3⟩ := cells4 N9
        go_wp2_with fail
        refine (alike_any _ _ _ _ _ _ key F9.rx (by omega) _ F9.x F9.y).mono ?_
        rintro e wa ⟨rfl, hba⟩
        have Fa := F9.below hba
        have Na := N9.below hba
        clear a0 a1 a2 a3
        obtain ⟨a0, a1, a2, a3⟩ := cells4 Na
        go_wp2_with fail
        refine (alike_any _ _ _ _ _ _ key Fa.rz (by omega) _ Fa.z Fa.v).mono ?_
        rintro e wb ⟨rfl, hbb⟩
        have Fb := Fa.below hbb
        clear a0 a1 a2 a3
        go_wp2_with fail
        go_roundw
        case rel => first | exact ⟨_, _, _, _, _, _, _, _, _, _, _, hlt, by go_num, rfl, rfl, rfl, rfl, Fb, by omega, by omega, hmx2, hmz⟩ | ((repeat apply Exists.intro); exact ⟨⟨_, _, _, _, _, _, _, _, _, _, _, hlt, by go_num, rfl, rfl, rfl, rfl, Fb, by omega, by omega, hmx2, hmz⟩, rfl⟩)
        case measure => simp [intOf]; omega
      · obtain ⟨a0, a1, a2, a3⟩ := cells4 N2
        go_wp2_with fail
        refine (put_any bx m ex vx (key, val, gone) F2.rx (by omega) _ F2.x).mono ?_
        rintro e w3 ⟨rfl, vx', B3, k3, n3⟩
        have N3 := N2.chg k3 (F2.xoff N2 (by decide) (by decide))
        have M3 := Lib.hid (F2.putX B3 k3 n3)
        clear a0 a1 a2 a3 B3 k3 n3
        obtain ⟨a0, a1, a2, a3⟩ := cells4 N3
        go_wp2_with fail
        refine (rput_any by_ m ex vy (key, val, gone) (by omega) _ M3.out.1).mono ?_
        rintro e w4 ⟨rfl, vy', B4, k4, n4⟩
        have N9 := N3.chg k4 (fun e => N3.offBlk M3.out.1.blk (by decide) e)
        have F9 := M3.out.2 B4 k4 n4
        have hlx := length_putL (e := (key, val, gone)) (es := ex) (most := m) hmx
        have hmx2 := hlx.1
        clear a0 a1 a2 a3 B4 k4 n4 N3
        generalize putL m ex (key, val, gone) = pl at F9 hlx hmx2 ⊢
        obtain ⟨a0, a1, a2, a3⟩ := cells4 N9
        go_wp2_with fail
        refine (alike_any _ _ _ _ _ _ key F9.rx (by omega) _ F9.x F9.y).mono ?_
        rintro e wa ⟨rfl, hba⟩
        have Fa := F9.below hba
        have Na := N9.below hba
        clear a0 a1 a2 a3
        obtain ⟨a0, a1, a2, a3⟩ := cells4 Na
        go_wp2_with fail
        refine (alike_any _ _ _ _ _ _ key Fa.rz (by omega) _ Fa.z Fa.v).mono ?_
        rintro e wb ⟨rfl, hbb⟩
        have Fb := Fa.below hbb
        clear a0 a1 a2 a3
        go_wp2_with fail
        go_roundw
        case rel => first | exact ⟨_, _, _, _, _, _, _, _, _, _, _, hlt, by go_num, rfl, rfl, rfl, rfl, Fb, by omega, by omega, hmx2, hmz⟩ | ((repeat apply Exists.intro); exact ⟨⟨_, _, _, _, _, _, _, _, _, _, _, hlt, by go_num, rfl, rfl, rfl, rfl, Fb, by omega, by omega, hmx2, hmz⟩, rfl⟩)
        case measure => simp [intOf]; omega
      · obtain ⟨a0, a1, a2, a3⟩ := cells4 N2
        go_wp2_with fail
        refine (put_any bx m ex vx (key, val, gone) F2.rx (by omega) _ F2.x).mono ?_
        rintro e w3 ⟨rfl, vx', B3, k3, n3⟩
        have N3 := N2.chg k3 (F2.xoff N2 (by decide) (by decide))
        have M3 := Lib.hid (F2.putX B3 k3 n3)
        clear a0 a1 a2 a3 B3 k3 n3
        obtain ⟨a0, a1, a2, a3⟩ := cells4 N3
        go_wp2_with fail
        refine (rput_any by_ m ex vy (key, val, gone) (by omega) _ M3.out.1).mono ?_
        rintro e w4 ⟨rfl, vy', B4, k4, n4⟩
        have N9 := N3.chg k4 (fun e => N3.offBlk M3.out.1.blk (by decide) e)
        have F9 := M3.out.2 B4 k4 n4
        have hlx := length_putL (e := (key, val, gone)) (es := ex) (most := m) hmx
        have hmx2 := hlx.1
        clear a0 a1 a2 a3 B4 k4 n4 N3
        generalize putL m ex (key, val, gone) = pl at F9 hlx hmx2 ⊢
        obtain ⟨a0, a1, a2, a3⟩ := cells4 N9
        go_wp2_with fail
        refine (alike_any _ _ _ _ _ _ key F9.rx (by omega) _ F9.x F9.y).mono ?_
        rintro e wa ⟨rfl, hba⟩
        have Fa := F9.below hba
        have Na := N9.below hba
        clear a0 a1 a2 a3
        obtain ⟨a0, a1, a2, a3⟩ := cells4 Na
        go_wp2_with fail
        refine (alike_any _ _ _ _ _ _ key Fa.rz (by omega) _ Fa.z Fa.v).mono ?_
        rintro e wb ⟨rfl, hbb⟩
        have Fb := Fa.below hbb
        clear a0 a1 a2 a3
        go_wp2_with fail
        go_roundw
        case rel => first | exact ⟨_, _, _, _, _, _, _, _, _, _, _, hlt, by go_num, rfl, rfl, rfl, rfl, Fb, by omega, by omega, hmx2, hmz⟩ | ((repeat apply Exists.intro); exact ⟨⟨_, _, _, _, _, _, _, _, _, _, _, hlt, by go_num, rfl, rfl, rfl, rfl, Fb, by omega, by omega, hmx2, hmz⟩, rfl⟩)
        case measure => simp [intOf]; omega
      · have F9 := F2
        have N9 := N2
        obtain ⟨a0, a1, a2, a3⟩ := cells4 N9
        go_wp2_with fail
        refine (alike_any _ _ _ _ _ _ key F9.rx (by omega) _ F9.x F9.y).mono ?_
        rintro e wa ⟨rfl, hba⟩
        have Fa := F9.below hba
        have Na := N9.below hba
        clear a0 a1 a2 a3
        obtain ⟨a0, a1, a2, a3⟩ := cells4 Na
        go_wp2_with fail
        refine (alike_any _ _ _ _ _ _ key Fa.rz (by omega) _ Fa.z Fa.v).mono ?_
        rintro e wb ⟨rfl, hbb⟩
        have Fb := Fa.below hbb
        clear a0 a1 a2 a3
        go_wp2_with fail
        go_roundw
        case rel => first | exact ⟨_, _, _, _, _, _, _, _, _, _, _, hlt, by go_num, rfl, rfl, rfl, rfl, Fb, by omega, by omega, hmx, hmz⟩ | ((repeat apply Exists.intro); exact ⟨⟨_, _, _, _, _, _, _, _, _, _, _, hlt, by go_num, rfl, rfl, rfl, rfl, Fb, by omega, by omega, hmx, hmz⟩, rfl⟩)
        case measure => simp [intOf]; omega
      · go_wp2_with fail
        refine (list_any bx m ex vx (by omega) _ F2.x).mono ?_
        rintro e w3 ⟨A3, c3, rfl, R3, hb3, n3⟩
        go_wp2_with fail
        refine (mark_any ex _ A3 c3 (by omega) _ R3 n3).mono ?_
        rintro e w4 ⟨rfl, k4⟩
        have F9 := F2.marked hb3 k4
        have N9 := N2.chg (marked_chg hb3 k4) (by have := N2.lt; omega)
        clear R3 hb3 n3 k4
        obtain ⟨a0, a1, a2, a3⟩ := cells4 N9
        go_wp2_with fail
        refine (alike_any _ _ _ _ _ _ key F9.rx (by omega) _ F9.x F9.y).mono ?_
        rintro e wa ⟨rfl, hba⟩
        have Fa := F9.below hba
        have Na := N9.below hba
        clear a0 a1 a2 a3
        obtain ⟨a0, a1, a2, a3⟩ := cells4 Na
        go_wp2_with fail
        refine (alike_any _ _ _ _ _ _ key Fa.rz (by omega) _ Fa.z Fa.v).mono ?_
        rintro e wb ⟨rfl, hbb⟩
        have Fb := Fa.below hbb
        clear a0 a1 a2 a3
        go_wp2_with fail
        go_roundw
        case rel => first | exact ⟨_, _, _, _, _, _, _, _, _, _, _, hlt, by go_num, rfl, rfl, rfl, rfl, Fb, by omega, by omega, hmx, hmz⟩ | ((repeat apply Exists.intro); exact ⟨⟨_, _, _, _, _, _, _, _, _, _, _, hlt, by go_num, rfl, rfl, rfl, rfl, Fb, by omega, by omega, hmx, hmz⟩, rfl⟩)
        case measure => simp [intOf]; omega
      · go_wp2_with fail
        refine (empty_any bx m ex vx (by omega) _ F2.x).mono ?_
        rintro e w3 ⟨A3, c3, rfl, R3, B3, k3, n3⟩
        have N3 := N2.chg k3 (fun e => N2.offBlk F2.x.blk (by decide) e)
        have M3 := Lib.hid (F2.emptyX B3 k3)
        have hs3 := k3.size
        clear B3
        go_wp2_with fail
        refine (rempty_any by_ m ex vy _ M3.out.1).mono ?_
        rintro e w4 ⟨rfl, R4, B4, k4⟩
        have N4 := N3.chg k4 (fun e => N3.offBlk M3.out.1.blk (by decide) e)
        have F4 := M3.out.2 B4 k4
        have S3 : Row w4 (.slice A3 ex.length c3) ex := R3.chg k4 (fun g hg e => own_ne_blk R3 M3.out.1.blk (by decide) (e ▸ hg))
        have hs4 := k4.size
        obtain ⟨Ay, cy, hvy⟩ := R4.val
        subst hvy
        clear B4 N3 k4 R3
        go_wp2_with fail
        have SM := same_any ex ex _ _ _ _ (by omega) _ S3 R4
        rw [decide_eq_true rfl] at SM
        refine SM.mono ?_
        rintro e w5 ⟨rfl, hb5⟩
        have F5 := F4.below hb5
        have N5 := N4.below hb5
        have S5 := S3.below hb5
        clear SM S3 R4 N4 F4
        go_wp2_with fail
        refine (mark_any ex w2.heap.size A3 c3 (by omega) _ S5 n3).mono ?_
        rintro e w6 ⟨rfl, k6⟩
        have F9 := F5.marked2 k6 (by have := F2.maxb; exact this) hs3 hs4 hb5.size
        have N9 := N5.chg k6 (by have := N2.lt; omega)
        clear S5 n3 k6
        obtain ⟨a0, a1, a2, a3⟩ := cells4 N9
        go_wp2_with fail
        refine (alike_any _ _ _ _ _ _ key F9.rx (by simp) _ F9.x F9.y).mono ?_
        rintro e wa ⟨rfl, hba⟩
        have Fa := F9.below hba
        have Na := N9.below hba
        clear a0 a1 a2 a3
        obtain ⟨a0, a1, a2, a3⟩ := cells4 Na
        go_wp2_with fail
        refine (alike_any _ _ _ _ _ _ key Fa.rz (by omega) _ Fa.z Fa.v).mono ?_
        rintro e wb ⟨rfl, hbb⟩
        have Fb := Fa.below hbb
        clear a0 a1 a2 a3
        go_wp2_with fail
        go_roundw
        case rel => first | exact ⟨_, _, _, _, _, _, _, _, _, _, _, hlt, by go_num, rfl, rfl, rfl, rfl, Fb, by simp, by omega, by simp, hmz⟩ | ((repeat apply Exists.intro); exact ⟨⟨_, _, _, _, _, _, _, _, _, _, _, hlt, by go_num, rfl, rfl, rfl, rfl, Fb, by simp, by omega, by simp, hmz⟩, rfl⟩)
        case measure => simp [intOf]; omega
      · go_wp2_with fail
        refine (clone_any bx m ex vx (by omega) _ F2.x).mono ?_
        rintro e w3 ⟨bx', vx', rfl, hbx, B3, hb3, n3⟩
        have N3 := N2.below hb3
        have y3 := F2.y.below hb3
        go_wp2_with fail
        refine (rclone_any by_ m ex vy (by omega) _ y3).mono ?_
        rintro e w4 ⟨by', vy', rfl, hby, B4, hb4, n4⟩
        have N9 := N3.below hb4
        have F9 := F2.cloned hbx B3 hb3 n3 hby B4 hb4 n4
        clear hbx B3 hb3 n3 hby B4 hb4 n4 N3 y3
        obtain ⟨a0, a1, a2, a3⟩ := cells4 N9
        go_wp2_with fail
        refine (alike_any _ _ _ _ _ _ key F9.rx (by omega) _ F9.x F9.y).mono ?_
        rintro e wa ⟨rfl, hba⟩
        have Fa := F9.below hba
        have Na := N9.below hba
        clear a0 a1 a2 a3
        obtain ⟨a0, a1, a2, a3⟩ := cells4 Na
        go_wp2_with fail
        refine (alike_any _ _ _ _ _ _ key Fa.rz (by omega) _ Fa.z Fa.v).mono ?_
        rintro e wb ⟨rfl, hbb⟩
        have Fb := Fa.below hbb
        clear a0 a1 a2 a3
        go_wp2_with fail
        go_roundw
        case rel => first | exact ⟨_, _, _, _, _, _, _, _, _, _, _, hlt, by go_num, rfl, rfl, rfl, rfl, Fb, by omega, by omega, hmx, hmx⟩ | ((repeat apply Exists.intro); exact ⟨⟨_, _, _, _, _, _, _, _, _, _, _, hlt, by go_num, rfl, rfl, rfl, rfl, Fb, by omega, by omega, hmx, hmx⟩, rfl⟩)
        case measure => simp [intOf]; omega
      · have F9 := F2.swap
        have N9 := N2
        obtain ⟨a0, a1, a2, a3⟩ := cells4 N9
        go_wp2_with fail
        refine (alike_any _ _ _ _ _ _ key F9.rx (by omega) _ F9.x F9.y).mono ?_
        rintro e wa ⟨rfl, hba⟩
        have Fa := F9.below hba
        have Na := N9.below hba
        clear a0 a1 a2 a3
        obtain ⟨a0, a1, a2, a3⟩ := cells4 Na
        go_wp2_with fail
        refine (alike_any _ _ _ _ _ _ key Fa.rz (by omega) _ Fa.z Fa.v).mono ?_
        rintro e wb ⟨rfl, hbb⟩
        have Fb := Fa.below hbb
        clear a0 a1 a2 a3
        go_wp2_with fail
        go_roundw
        case rel => first | exact ⟨_, _, _, _, _, _, _, _, _, _, _, hlt, by go_num, rfl, rfl, rfl, rfl, Fb, by omega, by omega, hmz, hmx⟩ | ((repeat apply Exists.intro); exact ⟨⟨_, _, _, _, _, _, _, _, _, _, _, hlt, by go_num, rfl, rfl, rfl, rfl, Fb, by omega, by omega, hmz, hmx⟩, rfl⟩)
        case measure => simp [intOf]; omega
    · go_wp2_with fail
      go_ret
      exact ⟨rfl, F.st.bel⟩
end Go.Proofs.Ytalhfjcopkmmlaa
