/-
  probe.Of: a pile, of levels that may be.
-/
import Derived.Test.YtnccgpdniigekaaQG35
import Derived.Test.YtnccgpdniigekaaQG36
import Derived.Test.YtnccgpdniigekaaQG34
import Derived.Test.YtnccgpdniigekaaQLvArgs
namespace Go.Proofs.Ytnccgpdniigekaa
open Go.RowKit
set_option linter.unusedVariables false
set_option linter.unusedSimpArgs false
attribute [local go_sem high] run_store_float

theorem reads_s {w : World} {A : Option Addr} {l : List Sg} (h : ArgS w A l) : Reads w w.heap.size 5 A l.length (sflat l) := ⟨length_sflat l, fun h0 => by
  obtain ⟨b, o, hA, hb, hc⟩ := h h0
  refine ⟨_, hA, hb, fun j u hu => ?_⟩
  have hj : j < l.length * 5 := by
    have := (List.getElem?_eq_some_iff.1 hu).1
    rwa [length_sflat] at this
  have hi : j / 5 < l.length := by omega
  have hm : j % 5 < 5 := Nat.mod_lt _ (by omega)
  have hg := sflat_get l (j / 5) (j % 5) hi hm
  rw [show j / 5 * 5 + j % 5 = j by omega, hu] at hg
  obtain ⟨s0, s1, s2, s3, s4⟩ := hc (j / 5) hi
  have e : l.getD (j / 5) zS = l[j / 5] := by rw [List.getD_eq_getElem?_getD, List.getElem?_eq_getElem hi]; rfl
  rw [e] at s0 s1 s2 s3 s4
  rw [Addr.add_mid]
  have hr : j % 5 = 0 ∨ j % 5 = 1 ∨ j % 5 = 2 ∨ j % 5 = 3 ∨ j % 5 = 4 := by omega
  have ej : o + j = o + j / 5 * 5 + j % 5 := by omega
  rw [ej]
  rcases hr with hr | hr | hr | hr | hr <;> (rw [hr] at hg ⊢; simp only [scells] at hg; simp at hg; rw [hg]; first | exact s0 | exact s1 | exact s2 | exact s3 | exact s4)⟩
theorem LLr.none {w0 w1 : World} (k : Below w0.heap.size w0 w1) : LLr w0 (.slice none 0 0) [] [] w1 :=
  ⟨rfl, ⟨rfl, .inl ⟨rfl, rfl⟩⟩, fun g hg => by simp [Value.ownBlock] at hg, fun i hi => absurd hi (by simp), fun i hi => absurd hi (by simp), k⟩
/-- A row of segments copied. -/
structure WS (wr : World) (l : List Sg) (v : Value) (w1 : World) : Prop where
  bel : Below wr.heap.size wr w1
  row : w1.ownsRow wr.heap.size 33 5 v l.length (sflat l)
theorem WS.mk1 {wr W w1 : World} {l : List Sg} {v g : Value} (hW : Below wr.heap.size wr W) (hown : w1.ownsRow wr.heap.size 33 5 v (0 + l.length) ([] ++ sflat l)) (hgr : W.grownBy w1 g.ownBlock) (hg : ∀ k, g.ownBlock = some k → wr.heap.size ≤ k) : WS wr l v w1 := by
  rw [Nat.zero_add, List.nil_append] at hown
  exact ⟨hW.grown hgr hW.size hg, hown⟩
theorem WS.cell {wr w1 : World} {l : List Sg} {v x : Value} {a : Addr} (h : WS wr l v w1) (ha : wr.cell? a = some x) : w1.cell? a = some x := cell_below h.bel ha
theorem WS.own0 {wr w1 : World} {l : List Sg} {v : Value} (h : WS wr l v w1) : w1.ownsRow 0 33 5 v l.length (sflat l) := own_mono h.row (fun _ _ => Nat.zero_le _)
theorem ws_slice {w1 : World} {b : Nat} {v : Value} {l : List Sg} (hown : w1.ownsRow b 33 5 v (0 + l.length) ([] ++ sflat l)) : ∃ A c, v = .slice A l.length c := by
  rw [Nat.zero_add] at hown
  obtain ⟨A, c, h, _⟩ := own_slice hown
  exact ⟨A, c, h⟩
theorem us_slice {w0 w1 : World} {v : Value} {L : List Int} (h : Us w0 v L w1) : ∃ A c, v = .slice A L.length c := by
  obtain ⟨A, c, h, _⟩ := own_slice h.1
  exact ⟨A, c, h⟩
theorem one_sl (A : Option Addr) (n c : Nat) : ∀ u ∈ ([.slice A n c] : List Value), u.oneCell' = true := by intro u hu; simp at hu; rcases hu with rfl; rfl
/-- A pile under way: some rows are in. -/
structure PO (w0 : World) (p : Nat) (AK : Option Addr) (cK : Nat) (eps : Int) (K : List Int) (v : Value) (vs : List Value) (ll : List (List Sg)) (w : World) : Prop where
  blk : Blk w p 96 #[.int .i64 eps, .slice AK K.length cK, v]
  ge : w0.heap.size ≤ p
  rows : LLr w0 v vs ll w
  kown : w.ownsRow w0.heap.size 24 1 (.slice AK K.length cK) K.length (K.map (Value.int .u64))
section
variable {w0 w w1 w' : World} {p : Nat} {AK : Option Addr} {cK : Nat} {eps : Int} {K : List Int} {v : Value} {vs : List Value} {ll : List (List Sg)}
theorem PO.bel (h : PO w0 p AK cK eps K v vs ll w) : Below w0.heap.size w0 w := h.rows.bel
theorem PO.below (h : PO w0 p AK cK eps K v vs ll w) (k : Below w.heap.size w w') : PO w0 p AK cK eps K v vs ll w' := ⟨h.blk.below k, h.ge, h.rows.below k, own_chg h.kown (Chg.of_below k) (fun _ _ h => h)⟩
/-- A row more. -/
theorem PO.snoc (h : PO w0 p AK cK eps K v vs ll w) (k : Below w.heap.size w w1) {n : Nat} (hn : ll.length = n) {x : Value} {l : List Sg} (hx : w1.ownsRow 0 33 5 x l.length (sflat l)) (hxn : ∀ g, x.ownBlock = some g → w0.heap.size ≤ g)
    {o : Obj} {w2 : World} {g cap : Nat} (hown : w2.ownsRow 0 30 1 (.slice (some ⟨g, 0, none⟩) (n + 1) cap) (n + 1) (vs ++ [x])) (hgr : (w1.alloc o).grownBy w2 v.ownBlock) (hat : v.ownBlock = some g ∨ g = w1.heap.size + 1) :
    PO w0 p AK cK eps K (.slice (some ⟨g, 0, none⟩) (n + 1) cap) (vs ++ [x]) (ll ++ [l]) (w2.setCell ⟨p, 2, none⟩ (.slice (some ⟨g, 0, none⟩) (n + 1) cap)) ∧ w2.cell? ⟨p, 2, none⟩ = some v ∧ w2.frozen? ⟨p, 2, none⟩ = false := by
  have h1 := h.below k
  have C : Chg (fun k => v.ownBlock = some k) w1 w2 := ((Chg.refl _ w1).alloc o).grown hgr (fun k hk _ => hk)
  have R := h1.rows.snoc hn hx hxn hown hgr hat
  have hb2 := h1.blk.chg C (own_ne_blk h1.rows.row h1.blk (by decide))
  have hk2 := own_chg h1.kown C (own_ne_own h1.rows.row h1.kown (by decide))
  have D : Chg (fun k => k = p) w2 (w2.setCell ⟨p, 2, none⟩ (.slice (some ⟨g, 0, none⟩) (n + 1) cap)) := (Chg.refl (fun k => k = p) w2).setCell (p := ⟨p, 2, none⟩) (fun _ => rfl) _
  have hne : ∀ {b e s u m xs}, w2.ownsRow b e s u m xs → e ≠ 96 → ∀ g', u.ownBlock = some g' → ¬ g' = p := fun ho he g' hg' e => by
    subst e; exact own_ne_blk ho hb2 he hg'
  refine ⟨⟨hb2.set 2 _, h.ge, ⟨R.len, own_chg R.row D (hne R.row (by decide)), R.own, fun i hi => own_chg (R.inn i hi) D (hne (R.inn i hi) (by decide)), R.inw, R.bel.setCell h.ge _⟩, own_chg hk2 D (hne hk2 (by decide))⟩, hb2.cell 2, hb2.free 2⟩
theorem PO.pile (h : PO w0 p AK cK eps K v vs ll w) (nk : K.length ≤ 17592186044416) (nl : ll.length ≤ 17592186044416) (ns : ∀ l ∈ ll, l.length ≤ 17592186044416) : ∃ AL cL, PileW p AK cK AL cL eps K ll w := by
  obtain ⟨A, c, rfl, ha⟩ := h.rows.ab
  refine ⟨A, c, h.blk, ?_, ha.ss, nk, nl, ns⟩
  have := Reads.of_own h.kown
  intro hn
  obtain ⟨ad, rfl, hb, hc⟩ := this.2 hn
  obtain ⟨g, cap, hv, _, hlt⟩ := h.kown.form hn
  injection hv with hv
  injection hv with hv
  subst hv
  refine ⟨g, 0, rfl, hlt, fun i hi => ?_⟩
  have h1 := hc i (.int .u64 K[i]) (by simp [List.getElem?_eq_getElem hi])
  rw [Addr.add_mid] at h1
  exact h1
end
set_option maxHeartbeats 8000000 in
set_option maxRecDepth 100000 in
theorem of_good (A : Option Addr) (c : Nat) (K : List Int) (eps : Int) (B : Option Addr) (d : Nat) (ll : List (List Sg)) (w : World) (h : AskC w A c K B ll) (hz : chkI K eps ll = 0) (hk : K.length ≤ 7000000000000) (hll : ll.length ≤ 4294967296) (hls : ∀ l ∈ ll, l.length ≤ 3000000000000) :
    Calls Try.prog 37 #[.slice A K.length c, .int .i64 eps, .slice B ll.length d] w fun e w' => ∃ p AK cK AL cL, e = .returned (.tuple #[.pointer (some ⟨p, 0, none⟩), .int .i64 0]) ∧ PileW p AK cK AL cL eps K ll w' ∧ Below w.heap.size w w' := by
  obtain ⟨iu, hiu, hu0, hu1, hu2⟩ := info_parts infoU
  obtain ⟨ir, hir, hr0, hr1, hr2⟩ := info_parts infoR
  obtain ⟨iS, hi, hz0, hz1, hz2⟩ := info_parts infoS
  have CK := check_lv A c K eps B d ll w h
  rw [hz] at CK
  have HA := Lib.hid h.arg
  have HB := Lib.hid h.args
  have HK := Lib.hid hk
  have HLL := Lib.hid hll
  have HLS := Lib.hid hls
  clear h hz hk hll hls
  go_enter Try.func37, Try.ntmps37
  go_wp2_with fail
  refine CK.mono ?_
  rintro e w1 ⟨rfl, b1⟩
  have HB1 := Lib.hid b1
  clear CK b1
  have U0 := Lib.hid (Us.new HB1.out)
  have RD := Lib.hid (reads_u (c := c) (HA.out.below (below_new HB1.out (.cells #[] 24))))
  have hk := HK.out
  go_upto_region 5 with (at_builtin; refine wpList_append_any _ rfl (.tmp 20) (.tmp 21) 22 (by rfl) 0 24 iu _ 1 8 Try.underlying22 hiu hu0 hu1 hu2 rfl (by omega) (.slice (some ⟨w1.heap.size, 0, none⟩) 0 0) 0 [] (by rfl) U0.out.1 _ A K.length c (K.map (Value.int .u64)) (by rfl) RD.out (ones_u K) (by unfold maxLen; omega) (by omega) (Nat.zero_le _) ?_; intro v1 wa hown hgr hat; have U1 := Lib.hid (U0.out.first hown hgr hat); obtain ⟨A1, c1, hv1⟩ := us_slice U1.out; subst hv1; clear hown hgr hat)
  clear hk U0 RD
  have P0 : Hid (PO w wa.heap.size A1 c1 eps K (.slice none 0 0) [] [] (wa.alloc (.cells #[.int .i64 eps, .slice A1 K.length c1, .slice none 0 0] 96))) := Lib.hid
    ⟨Blk.new _ _ _, U1.out.2.2.size, LLr.none (below_new U1.out.2.2 _), own_mono (own_chg U1.out.1 ((Chg.refl (fun _ => False) wa).alloc _) (fun _ _ h => h)) U1.out.2.1⟩
  generalize (wa.alloc (.cells #[.int .i64 eps, .slice A1 K.length c1, .slice none 0 0] 96)) = wb at *
  generalize wa.heap.size = p at *
  clear U1 HB1
  go_wp2_with fail
  go_loopw [27] (fun x wr => ∃ (i : Nat) (v : Value) (vs : List Value), i ≤ ll.length ∧ x = .int .i64 i ∧ Hid (PO w p A1 c1 eps K v vs (ll.take i) wr)) (fun x _ => ll.length - (intOf x).toNat)
  case atStart => exact ⟨0, _, [], Nat.zero_le _, rfl, P0⟩
  case round =>
    obtain ⟨i, v, vs, hi', rfl, P⟩ := hrel
    clear P0
    by_cases hlt : i < ll.length
    · obtain ⟨n1, n2, n3, n4, n5⟩ := vis_num hlt HLL.out
      obtain ⟨b, o, rfl, hb, hc⟩ := HB.out (Nat.lt_of_le_of_lt (Nat.zero_le _) hlt)
      obtain ⟨A2, c2, x0, hs⟩ := hc i hlt
      have xa := (P.out.bel.cell (p := ⟨b, o + i, none⟩) hb).trans x0
      have LS := HLS.out (ll.getD i []) (mem_getD (z := []) hlt rfl)
      have TK : Hid (ll.take i ++ [ll.getD i []] = ll.take (i + 1)) := Lib.hid (by rw [List.take_succ_eq_append_getElem hlt, List.getD_eq_getElem?_getD, List.getElem?_eq_getElem hlt]; rfl)
      have NI : Hid ((ll.take i).length = i) := Lib.hid (by rw [List.length_take]; omega)
      obtain ⟨l, hl⟩ : ∃ l, ll.getD i [] = l := ⟨_, rfl⟩
      rw [hl] at xa hs LS TK
      have SS := Lib.hid (hs.below P.out.bel)
      have O1 : Hid ((wr.alloc (.cells #[] 33)).ownsRow wr.heap.size 33 5 (.slice (some ⟨wr.heap.size, 0, none⟩) 0 0) 0 []) := Lib.hid (World.ownsRow_made (e := 33) (size := 5) wr #[] 0 (Nat.le_refl _) (by unfold maxLen; omega) rfl)
      have RD : Hid (Reads (wr.alloc (.cells #[] 33)) wr.heap.size 5 A2 l.length (sflat l)) := Lib.hid ((reads_s SS.out).alloc (Nat.le_refl _) _)
      have W1 : Hid (Below wr.heap.size wr (wr.alloc (.cells #[] 33))) := Lib.hid (below_new (Below.refl _ _) _)
      have HO := Lib.hid (sflat_one l)
      have H63 : Hid (0 + l.length ≤ maxLen) := Lib.hid (by unfold maxLen; omega)
      have HBY : Hid ((0 + l.length) * 40 ≤ 140737488355328) := Lib.hid (by omega)
      have H64 : Hid (i + 1 ≤ maxLen ∧ (i + 1) * 24 ≤ 140737488355328) := Lib.hid (by have := HLL.out; unfold maxLen; omega)
      have PW : Hid (wr.ownsRow 0 30 1 v i vs) := Lib.hid (by have := P.out.rows.row; rwa [NI.out] at this)
      have HX := Lib.hid (P.out.blk.cell 2)
      have HXF := Lib.hid (P.out.blk.free 2)
      have e2 := HX.out
      have e2' : wr.cell? ⟨p, 2, none⟩ = some v := e2
      have HX' := Lib.hid e2'
      clear e2 HX hl x0 hs hc LS
      go_upto_region 8 with fail
      have y0 := HX'.out
      have y1 := cell_below W1.out HX'.out
      have HSZ := Lib.hid P.out.bel.size
      go_region_law (first | (refine step_append_any _ (by rfl) (.tmp 36) (.tmp 37) 30 (by rfl) wr.heap.size 33 iS _ 5 40 Try.underlying30 hi hz0 hz1 hz2 rfl (Nat.succ_pos 4) (.slice (some ⟨wr.heap.size, 0, none⟩) 0 0) 0 [] (by simp [Act.eval, Act.put]) O1.out wr.heap.size A2 l.length c2 (sflat l) (by simp [Act.eval, Act.put]) RD.out HO.out H63.out HBY.out W1.out.size ?_; intro v1 w1 hown hgr hat; obtain ⟨A3, c3, hv1⟩ := ws_slice hown; subst hv1; have KG := Lib.hid (WS.mk1 W1.out.drew hown hgr (fun k hk => by simp [Value.ownBlock] at hk; omega)); have y2 := KG.out.cell HX'.out; have y3 := cell_below (below_new KG.out.bel (.cells #[.slice A3 l.length c3] 30)) HX'.out; clear hown hgr hat) | (refine step_append_lies _ (by rfl) (.tmp 35) (.tmp 39) 25 (by rfl) 0 30 ir _ 1 24 Try.underlying25 hir hr0 hr1 hr2 rfl (Nat.succ_pos 0) v i vs (by simp [Act.eval, Act.put]) (own_chg PW.out ((Chg.of_below KG.out.bel).alloc (.cells #[.slice A3 l.length c3] 30)) (fun _ _ h => h)) ⟨w1.heap.size, 0, none⟩ 1 1 [.slice A3 l.length c3] (by simp [Act.eval, Act.put]) rfl (World.news_of_block (Blk.new w1 30 #[.slice A3 l.length c3])) (one_sl A3 l.length c3) (by omega) H64.out.1 H64.out.2 (Nat.zero_le _) (w1.heap.size + 1) (by simp) ?_; intro gn capn w2 hown hgr hat hltn; have PN := Lib.hid (P.out.snoc KG.out.bel NI.out KG.out.own0 (fun g hg => Nat.le_trans P.out.bel.size (KG.out.row.lt g hg).1) hown hgr hat); have d2 := PN.out.2.1; have f2 := PN.out.2.2; clear hown hgr hat hltn))
      all_goals
        have P2 := Lib.hid PN.out.1
        rw [TK.out] at P2
        clear PN KG d2 f2 y0 y1 y2 y3
        go_wp2_with fail
        go_roundw
        case rel => exact ⟨i + 1, _, _, Nat.succ_le_of_lt hlt, (by first | rfl | (rw [n3]; rfl)), P2⟩
        case measure => first | (rw [n3]; exact meas_next hlt) | exact meas_next hlt
    · obtain rfl : i = ll.length := Nat.le_antisymm hi' (Nat.le_of_not_lt hlt)
      have i1 : ¬ (ll.length : Int) < (ll.length : Int) := Int.lt_irrefl _
      rw [List.take_length] at P
      have PL := Lib.hid (P.out.pile (Nat.le_trans HK.out (by decide)) (Nat.le_trans HLL.out (by decide)) (fun l hl => Nat.le_trans (HLS.out l hl) (by decide)))
      go_wp2_with fail
      obtain ⟨AL, cL, pl⟩ := PL.out
      simp [bodyPost, results, Try.results37, go_sem]
      exact ⟨⟨A1, c1, AL, cL, pl⟩, P.out.bel⟩
end Go.Proofs.Ytnccgpdniigekaa
/-
  What the law descends: levels that the document builds, or such as are given.
-/
namespace Go.Proofs.Ytnccgpdniigekaa
open Go.RowKit
set_option linter.unusedVariables false
set_option linter.unusedSimpArgs false
attribute [local go_sem high] run_store_float frombits

/-- A segment, its floats told by their bits, lies there. -/
def MSegAt (w : World) (b o : Nat) (s : Sg) : Prop :=
  w.cell? ⟨b, o, none⟩ = some (.int .u64 s.first) ∧ w.cell? ⟨b, o + 1, none⟩ = some (.int .u64 (s.sl : Int)) ∧ w.cell? ⟨b, o + 2, none⟩ = some (.int .u64 (s.ic : Int)) ∧ w.cell? ⟨b, o + 3, none⟩ = some (.int .i64 s.fr) ∧ w.cell? ⟨b, o + 4, none⟩ = some (.int .i64 s.up)
theorem MSegAt.below {w w' : World} {b o : Nat} {s : Sg} (h : MSegAt w b o s) {B : Nat} (k : Below B w w') (hb : b < B) : MSegAt w' b o s :=
  ⟨(k.cell (p := ⟨b, _, none⟩) hb).trans h.1, (k.cell (p := ⟨b, _, none⟩) hb).trans h.2.1, (k.cell (p := ⟨b, _, none⟩) hb).trans h.2.2.1, (k.cell (p := ⟨b, _, none⟩) hb).trans h.2.2.2.1, (k.cell (p := ⟨b, _, none⟩) hb).trans h.2.2.2.2⟩
def ArgM (w : World) (A : Option Addr) (l : List Sg) : Prop := 0 < l.length → ∃ b o, A = some ⟨b, o, none⟩ ∧ b < w.heap.size ∧ ∀ i, i < l.length → MSegAt w b (o + i * 5) (l.getD i zS)
theorem ArgM.below {w w' : World} {A : Option Addr} {l : List Sg} (h : ArgM w A l) (k : Below w.heap.size w w') : ArgM w' A l := fun hn => by
  obtain ⟨b, o, hA, hb, hc⟩ := h hn
  exact ⟨b, o, hA, Nat.lt_of_lt_of_le hb k.size, fun i hi => (hc i hi).below k hb⟩
def ArgMM (w : World) (A : Option Addr) (ll : List (List Sg)) : Prop := 0 < ll.length → ∃ b o, A = some ⟨b, o, none⟩ ∧ b < w.heap.size ∧ ∀ i, i < ll.length → ∃ A' c', w.cell? ⟨b, o + i, none⟩ = some (.slice A' (ll.getD i []).length c') ∧ ArgM w A' (ll.getD i [])
theorem ArgMM.below {w w' : World} {A : Option Addr} {ll : List (List Sg)} (h : ArgMM w A ll) (k : Below w.heap.size w w') : ArgMM w' A ll := fun hn => by
  obtain ⟨b, o, hA, hb, hc⟩ := h hn
  refine ⟨b, o, hA, Nat.lt_of_lt_of_le hb k.size, fun i hi => ?_⟩
  obtain ⟨A', c', h1, h2⟩ := hc i hi
  exact ⟨A', c', (k.cell (p := ⟨b, _, none⟩) hb).trans h1, h2.below k⟩
/-- What is made: all that a walk may ask of it. -/
structure MadeArg (w : World) (AK : Option Addr) (cK : Nat) (K : List Int) (own : Bool) (AM : Option Addr) (cM : Nat) (M : List (List Sg)) : Prop where
  ok : U64s K
  len : K.length ≤ 1048576
  cap : K.length ≤ cK
  arg : ArgU w AK K
  segs : ∀ l ∈ M, ∀ s ∈ l, SgOk s
  lens : ∀ l ∈ M, l.length ≤ 1048576
  count : M.length ≤ 1048576
  args : ArgMM w AM M
theorem MadeArg.below {w w' : World} {AK : Option Addr} {cK : Nat} {K : List Int} {own : Bool} {AM : Option Addr} {cM : Nat} {M : List (List Sg)} (h : MadeArg w AK cK K own AM cM M) (k : Below w.heap.size w w') : MadeArg w' AK cK K own AM cM M :=
  ⟨h.ok, h.len, h.cap, h.arg.below k, h.segs, h.lens, h.count, h.args.below k⟩
noncomputable def madeL (eps : Int) (K : List Int) (own : Bool) (M : List (List Sg)) : List (List Sg) := if own then M else bldL eps K
noncomputable def madeT (eps : Int) (K : List Int) (own : Bool) (M : List (List Sg)) : Bool := if own then (chkI K eps M == 0) else (bldC eps K == 0)
theorem made_num {i n : Nat} (h : i < n) (hn : n ≤ 1048576) : (0 : Int) ≤ (i : Int) ∧ (i : Int) < (n : Int) ∧ wrap64 ((i : Int) + 1) = (i : Int) + 1 ∧ i + 1 ≤ maxLen ∧ (i + 1) * 40 ≤ 140737488355328 ∧ (i + 1) * 24 ≤ 140737488355328 := by
  refine ⟨by omega, by omega, by unfold wrap64; omega, by unfold maxLen; omega, by omega, by omega⟩
theorem take_snoc {α : Type} {z : α} {l : List α} {i : Nat} (h : i < l.length) : l.take i ++ [l.getD i z] = l.take (i + 1) := by
  rw [List.take_succ_eq_append_getElem h, List.getD_eq_getElem?_getD, List.getElem?_eq_getElem h]; rfl
theorem FS.grownD {w wr w1 : World} {v : Value} {L : List Sg} {s : Sg} {o : Obj} {g cap n : Nat} (h : FS w v L wr) (hn : L.length = n)
    (hown : w1.ownsRow 0 33 5 (.slice (some ⟨g, 0, none⟩) (n + 1) cap) (n + 1) (sflat L ++ scells s))
    (hgr : ((wr.alloc o).drew).grownBy w1 v.ownBlock) (hat : v.ownBlock = some g ∨ g = wr.heap.size + 1) : FS w (.slice (some ⟨g, 0, none⟩) (n + 1) cap) (L ++ [s]) w1 :=
  FS.grown (H := 0) (o := o) (wr := wr.drew) (h.below (Below.refl _ _).drew) hn hown hgr hat
theorem blk_grownD {w w1 : World} {v : Value} {o : Obj} {g : Nat} {t : TypeId} {cs : Array Value} (h : Blk w g t cs) (hgr : ((w.alloc o).drew).grownBy w1 v.ownBlock) (hne : v.ownBlock ≠ some g) : Blk w1 g t cs :=
  h.chg ((((Chg.refl (fun k => v.ownBlock = some k) w).alloc o).drew).grown hgr (fun k hk _ => hk)) hne
theorem five_of {w : World} {g : Nat} {t : TypeId} {a b c d e : Value} (h : Blk w g t #[a, b, c, d, e]) : w.cell? ⟨g, 0, none⟩ = some a ∧ w.cell? ⟨g, 1, none⟩ = some b ∧ w.cell? ⟨g, 2, none⟩ = some c ∧ w.cell? ⟨g, 3, none⟩ = some d ∧ w.cell? ⟨g, 4, none⟩ = some e := ⟨h.cell 0, h.cell 1, h.cell 2, h.cell 3, h.cell 4⟩
set_option maxHeartbeats 4000000 in
set_option maxRecDepth 100000 in
theorem made_built {AK : Option Addr} {cK : Nat} {K : List Int} {eps : Int} {AM : Option Addr} {cM : Nat} {M : List (List Sg)} (w : World) (h : MadeArg w AK cK K false AM cM M) :
    Calls Try.prog 30 #[.agg #[.slice AK K.length cK, .int .i64 eps, .bool false, .slice AM M.length cM]] w fun e w' => ∃ A c, e = .returned (.tuple #[.slice A (bldL eps K).length c, .bool (bldC eps K == 0)]) ∧ ArgSS w' A (bldL eps K) ∧ Below w.heap.size w w' := by
  have hb := below_new (Below.refl w.heap.size w) (.cells #[.slice AK K.length cK, .int .i64 eps, .bool false, .slice AM M.length cM] 47)
  have RB := rbuild_all eps AK cK K h.ok (Nat.le_trans h.len (by decide)) h.cap _ (h.arg.below hb)
  have HB := Lib.hid hb
  have G := Blk.new w 47 #[.slice AK K.length cK, .int .i64 eps, .bool false, .slice AM M.length cM]
  obtain ⟨w1, hw1⟩ : ∃ w1, w.alloc (.cells #[.slice AK K.length cK, .int .i64 eps, .bool false, .slice AM M.length cM] 47) = w1 := ⟨_, rfl⟩
  obtain ⟨g, hg⟩ : ∃ g, w.heap.size = g := ⟨_, rfl⟩
  rw [hw1] at RB HB G
  rw [hg] at G
  have x0 := G.cell 0; have x1 := G.cell 1; have x2 := G.cell 2
  obtain ⟨cd, hcd⟩ : ∃ cd, bldC eps K = cd := ⟨_, rfl⟩
  obtain ⟨ll, hll⟩ : ∃ ll, bldL eps K = ll := ⟨_, rfl⟩
  rw [hcd, hll] at RB ⊢
  clear h hb G hcd hll
  go_enter Try.func30, Try.ntmps30
  go_upto_region 1 with fail
  (try rw [hw1]); (try rw [hg])
  clear hw1 hg
  go_wp2_with fail
  refine RB.mono ?_
  rintro e w2 ⟨A, c, rfl, hA, b2⟩
  have HA := Lib.hid (And.intro hA.ss (below_next HB.out b2))
  clear hA b2 RB
  go_wp2_with fail
  simp [bodyPost, results, Try.results30, go_sem]
  exact HA.out
set_option maxHeartbeats 16000000 in
set_option maxRecDepth 100000 in
theorem made_own {AK : Option Addr} {cK : Nat} {K : List Int} {eps : Int} {AM : Option Addr} {cM : Nat} {M : List (List Sg)} (w : World) (h : MadeArg w AK cK K true AM cM M) :
    Calls Try.prog 30 #[.agg #[.slice AK K.length cK, .int .i64 eps, .bool true, .slice AM M.length cM]] w fun e w' => ∃ A c, e = .returned (.tuple #[.slice A M.length c, .bool (chkI K eps M == 0)]) ∧ ArgSS w' A M ∧ Below w.heap.size w w' := by
  obtain ⟨ir, hir, hr0, hr1, hr2⟩ := info_parts infoR
  obtain ⟨iS, hi, hz0, hz1, hz2⟩ := info_parts infoS
  have hb := below_new (Below.refl w.heap.size w) (.cells #[.slice AK K.length cK, .int .i64 eps, .bool true, .slice AM M.length cM] 47)
  have HM := Lib.hid (h.below hb)
  have HB := Lib.hid hb
  have G := Lib.hid (Blk.new w 47 #[.slice AK K.length cK, .int .i64 eps, .bool true, .slice AM M.length cM])
  obtain ⟨w1, hw1⟩ : ∃ w1, w.alloc (.cells #[.slice AK K.length cK, .int .i64 eps, .bool true, .slice AM M.length cM] 47) = w1 := ⟨_, rfl⟩
  obtain ⟨g, hg⟩ : ∃ g, w.heap.size = g := ⟨_, rfl⟩
  rw [hw1] at HM HB G
  rw [hg] at G
  have CK := Lib.hid (fun w' B d (k : Below w1.heap.size w1 w') (hs : ArgSS w' B M) => rcheck_lv AK cK K eps B d M w' ⟨HM.out.ok, Nat.le_trans HM.out.len (by decide), HM.out.cap, HM.out.arg.below k, HM.out.segs, fun l hl => Nat.le_trans (HM.out.lens l hl) (by decide), Nat.le_trans HM.out.count (by decide), hs⟩)
  obtain ⟨cd, hcd⟩ : ∃ cd, chkI K eps M = cd := ⟨_, rfl⟩
  rw [hcd] at CK ⊢
  have x2 := G.out.cell 2
  have x3 := G.out.cell 3
  have L0 := Lib.hid (LLr.start (Below.refl w1.heap.size w1))
  clear h hb hcd
  go_enter Try.func30, Try.ntmps30
  go_upto_region 1 with fail
  (try rw [hw1]); (try rw [hg])
  clear hw1 hg
  go_wp2_with fail
  go_loopw [6, 7] (fun v x wr => ∃ (i : Nat) (vs : List Value), i ≤ M.length ∧ x = .int .i64 i ∧ Hid (LLr w1 v vs (M.take i) wr)) (fun _ x _ => M.length - (intOf x).toNat)
  case atStart => exact ⟨0, [], Nat.zero_le _, rfl, L0⟩
  case round =>
    obtain ⟨i, vs, hi', rfl, LL⟩ := hrel
    clear L0
    have x3 := (LL.out.bel.cell (p := ⟨g, 3, none⟩) G.out.lt).trans (G.out.cell 3)
    by_cases hlt : i < M.length
    · obtain ⟨n1, n2, n3, n4, n5, n6⟩ := made_num hlt HM.out.count
      obtain ⟨b, o, rfl, hb, hc⟩ := HM.out.args (Nat.lt_of_le_of_lt (Nat.zero_le _) hlt)
      obtain ⟨A2, c2, y0, hs⟩ := hc i hlt
      have LS := Lib.hid (HM.out.lens (M.getD i []) (mem_getD (z := []) hlt rfl))
      have TK := Lib.hid (take_snoc (z := []) hlt)
      have NI : Hid ((M.take i).length = i) := Lib.hid (by rw [List.length_take]; exact Nat.min_eq_left (Nat.le_of_lt hlt))
      obtain ⟨l, hl⟩ : ∃ l, M.getD i [] = l := ⟨_, rfl⟩
      rw [hl] at y0 hs LS TK
      have X := Lib.hid (And.intro hb (And.intro y0 hs))
      have ya := (LL.out.bel.cell (p := ⟨b, o + i, none⟩) hb).trans y0
      have F0 := Lib.hid (FS.start (Below.refl wr.heap.size wr))
      clear hc y0 hs hl hb
      go_wp2_with fail
      go_loopw [8, 9] (fun v x wx => ∃ k : Nat, k ≤ l.length ∧ x = .int .i64 k ∧ Hid (FS wr v (l.take k) wx)) (fun _ x _ => l.length - (intOf x).toNat)
      case atStart => exact ⟨0, Nat.zero_le _, rfl, F0⟩
      case round =>
        obtain ⟨wi, rfl⟩ : ∃ wi : World, wi = wr := ⟨_, rfl⟩
        obtain ⟨k, hk', rfl, F⟩ := hrel
        clear F0 x3 ya
        have BB := Lib.hid (below_next LL.out.bel F.out.bel)
        have x3 := (BB.out.cell (p := ⟨g, 3, none⟩) G.out.lt).trans (G.out.cell 3)
        have ya := (BB.out.cell (p := ⟨b, o + i, none⟩) X.out.1).trans X.out.2.1
        by_cases hkl : k < l.length
        · obtain ⟨k1, k2, k3, k4, k5, k6⟩ := made_num hkl LS.out
          obtain ⟨b2, o2, rfl, hb2, hc2⟩ := X.out.2.2 (Nat.lt_of_le_of_lt (Nat.zero_le _) hkl)
          obtain ⟨t0, t1, t2, t3, t4⟩ := (hc2 k hkl).below BB.out hb2
          have TL := Lib.hid (take_snoc (z := zS) hkl)
          have LT : (l.take k).length = k := by rw [List.length_take]; exact Nat.min_eq_left (Nat.le_of_lt hkl)
          obtain ⟨s, hs⟩ : ∃ s, l.getD k zS = s := ⟨_, rfl⟩
          rw [hs] at t0 t1 t2 t3 t4 TL
          obtain ⟨Lk, hLk⟩ : ∃ Lk, l.take k = Lk := ⟨_, rfl⟩
          rw [hLk] at F TL LT
          obtain ⟨first, sl, ic, fr, up⟩ := s
          simp only [] at t0 t1 t2 t3 t4
          obtain ⟨A8, c8, e8, _⟩ := own_slice F.out.own
          rw [LT] at e8
          subst e8
          have BZ := Lib.hid (below_new (Below.refl wi.heap.size wi) (.cells #[.int .u64 first, .int .u64 (sl : Int), .int .u64 (ic : Int), .int .i64 fr, .int .i64 up] 89))
          have GZ := Lib.hid (Blk.new wi 89 #[.int .u64 first, .int .u64 (sl : Int), .int .u64 (ic : Int), .int .i64 fr, .int .i64 up])
          clear hc2 hs hLk hb2
          go_upto_region 13 with fail
          obtain ⟨wz, hwz⟩ : ∃ wz, wz = (wi.alloc (.cells #[.int .u64 first, .int .u64 (sl : Int), .int .u64 (ic : Int), .int .i64 fr, .int .i64 up] 89)) := ⟨_, rfl⟩
          have F4 : Hid (FS wr (.slice A8 k c8) Lk wz) := Lib.hid (by rw [hwz]; exact F.out.below BZ.out)
          rw [← hwz] at GZ ⊢
          generalize wi.heap.size = gz at *
          have GZ5 := Lib.hid (five_of GZ.out)
          have HO1 : Hid ((wz.alloc (.cells #[.int .u64 first, .float .f64 sl, .float .f64 ic, .int .i64 fr, .int .i64 up] 33)).ownsRow 0 33 5 (.slice A8 k c8) k (sflat Lk)) := Lib.hid (by have h := own_chg F4.out.own ((Chg.refl (fun _ => False) wz).alloc (.cells #[.int .u64 first, .float .f64 sl, .float .f64 ic, .int .i64 fr, .int .i64 up] 33)) (fun _ _ h => h); rwa [LT] at h)
          have HFO := Lib.hid (scells_one first sl ic fr up)
          have ONE : 0 < 1 := Nat.one_pos
          have HLT := Lib.hid LT
          clear hwz BZ F t0 t1 t2 t3 t4 LT x3 ya
          have NEO := Lib.hid (own_ne_blk F4.out.own GZ.out (by decide))
          go_region_held3 (fun w' => w'.cell? ⟨gz, 0, none⟩ = some (.int .u64 first) ∧ w'.cell? ⟨gz, 1, none⟩ = some (.int .u64 (sl : Int)) ∧ w'.cell? ⟨gz, 2, none⟩ = some (.int .u64 (ic : Int)) ∧ w'.cell? ⟨gz, 3, none⟩ = some (.int .i64 fr) ∧ w'.cell? ⟨gz, 4, none⟩ = some (.int .i64 up))
            (first | exact GZ5.out | exact five_of (GZ.out.alloc _) | exact five_of KB.out | go_keep)
            ((go_loud (refine step_append_lies _ (by rfl) (.tmp 53) (.tmp 67) 30 (by rfl) 0 33 iS _ 5 40 Try.underlying30 hi hz0 hz1 hz2 rfl (Nat.succ_pos 4) (.slice A8 k c8) k (sflat Lk) (by simp [Act.eval, Act.put]) HO1.out ⟨wz.heap.size, 0, none⟩ 1 1 [.int .u64 first, .float .f64 sl, .float .f64 ic, .int .i64 fr, .int .i64 up] (by simp [Act.eval, Act.put]) rfl (World.news_of_block (Blk.new wz 33 #[.int .u64 first, .float .f64 sl, .float .f64 ic, .int .i64 fr, .int .i64 up])) HFO.out ONE k4 k5 (Nat.zero_le _) (wz.heap.size + 1) (by simp) ?_; intro gn capn wn hown hgr hat hltn; have HG2 := Lib.hid (F4.out.grownD (s := ⟨first, sl, ic, fr, up⟩) HLT.out hown hgr hat); have KB := Lib.hid (blk_grownD GZ.out hgr NEO.out); clear hown hgr hat hltn)))
          all_goals
            have HG3 := Lib.hid HG2.out
            rw [TL.out] at HG3
            clear KB HG2 HO1
            go_wp2_with fail
            go_roundw
            case rel => exact ⟨k + 1, Nat.succ_le_of_lt hkl, (by first | rfl | (rw [k3]; rfl)), HG3⟩
            case measure => first | (rw [k3]; exact meas_next hkl) | exact meas_next hkl
        · obtain rfl : k = l.length := Nat.le_antisymm hk' (Nat.le_of_not_lt hkl)
          have k1 : ¬ (l.length : Int) < (l.length : Int) := Int.lt_irrefl _
          rw [List.take_length] at F
          obtain ⟨A8, c8, e8, _⟩ := own_slice F.out.own
          subst e8
          have LW := Lib.hid (LL.out.below F.out.bel)
          have FW := Lib.hid F.out.own
          have FN : Hid (∀ g, (Value.slice A8 l.length c8).ownBlock = some g → w1.heap.size ≤ g) := Lib.hid (fun g hg => Nat.le_trans LL.out.bel.size (F.out.new g hg))
          have HO1 : Hid ((wi.alloc (.cells #[.slice A8 l.length c8] 30)).ownsRow 0 30 1 u6 i vs) := Lib.hid (by have h := own_chg LW.out.row (Chg.of_below (below_new (Below.refl _ _) (.cells #[.slice A8 l.length c8] 30))) (fun _ _ h => h); rwa [NI.out] at h)
          have HFO := Lib.hid (one_sl A8 l.length c8)
          clear F hkl
          go_wp2_with (at_builtin; go_loud (refine wpList_append_lies _ rfl (.tmp 69) (.tmp 71) 25 (by rfl) 0 30 ir _ 1 24 Try.underlying25 hir hr0 hr1 hr2 rfl Nat.one_pos u6 i vs (by rfl) HO1.out ⟨wi.heap.size, 0, none⟩ 1 1 [.slice A8 l.length c8] (by rfl) (by rfl) (World.news_of_block (Blk.new wi 30 #[.slice A8 l.length c8])) HFO.out Nat.one_pos n4 n6 (Nat.zero_le _) (wi.heap.size + 1) (by simp) ?_; intro gn capn wn hown hgr hat hltn; have HG2 := Lib.hid (LW.out.snoc NI.out FW.out FN.out hown hgr hat); clear hown hgr hat hltn))
          go_roundw
          case rel => exact ⟨i + 1, _, Nat.succ_le_of_lt hlt, (by first | rfl | (rw [n3]; rfl)), by rw [← TK.out]; exact HG2⟩
          case measure => first | (rw [n3]; exact meas_next hlt) | exact meas_next hlt
    · obtain rfl : i = M.length := Nat.le_antisymm hi' (Nat.le_of_not_lt hlt)
      have i1 : ¬ (M.length : Int) < (M.length : Int) := Int.lt_irrefl _
      rw [List.take_length] at LL
      obtain ⟨A9, c9, e9, ha⟩ := LL.out.ab
      subst e9
      have HS := Lib.hid ha.ss
      have x0 := (LL.out.bel.cell (p := ⟨g, 0, none⟩) G.out.lt).trans (G.out.cell 0)
      have x1 := (LL.out.bel.cell (p := ⟨g, 1, none⟩) G.out.lt).trans (G.out.cell 1)
      have CC := CK.out wr A9 c9 LL.out.bel HS.out
      clear ha hlt
      go_wp2_with fail
      refine CC.mono ?_
      rintro e w9 ⟨rfl, b9⟩
      have Z := Lib.hid (And.intro (HS.out.below b9) (below_next (below_next HB.out LL.out.bel) b9))
      clear CC b9
      go_wp2_with fail
      simp [bodyPost, results, Try.results30, go_sem]
      exact Z.out
end Go.Proofs.Ytnccgpdniigekaa
/-
  The law's argument (keys, an eps, whose levels), opened.
-/
namespace Go.Proofs.Ytnccgpdniigekaa
open Go.ChangeShapes Go.WideShapes Go.RowKit Go.Deep
set_option linter.unusedVariables false
set_option linter.unusedSimpArgs false

/-- A segment's cells, its floats told by their bits. -/
def mcells (s : Sg) : List Value := [.int .u64 s.first, .int .u64 (s.sl : Int), .int .u64 (s.ic : Int), .int .i64 s.fr, .int .i64 s.up]
theorem bulk_one {H : Type} (d : DataW H) : 1 ≤ Rows.uptoBulk d := by
  cases d with
  | lit l => cases l <;> simp [Rows.uptoBulk]
  | _ => simp [Rows.uptoBulk]
theorem bulk_len {H : Type} : ∀ l : List (DataW H), l.length ≤ Rows.uptoBulkAll l
  | [] => Nat.zero_le _
  | x :: r => by have := bulk_one x; have := bulk_len r; simp only [Rows.uptoBulkAll, List.length_cons]; omega
theorem bulk_mem {H : Type} : ∀ {l : List (DataW H)} {d : DataW H}, d ∈ l → Rows.uptoBulk d ≤ Rows.uptoBulkAll l
  | x :: r, d, hd => by
    simp only [Rows.uptoBulkAll]
    rcases List.mem_cons.1 hd with rfl | hd
    · omega
    · have := bulk_mem hd; omega
section
variable {H : Type} {enc : TypeId × Value → H} {w : World} {base : Nat} {spare : Nat → Bool} {held : Bool}
theorem nat_u64 {k : Int} (h : u64ok k) : ((k.toNat : Nat) : Int) = k ∧ k.toNat < 18446744073709551616 := by unfold u64ok at h; omega
theorem open_mseg {fuel : Nat} {cs : List Value} {x : DataW H × List MemPlace} (h : DataW.trod enc Try.prog w base spare held fuel 89 cs = some x) : ∃ s : Sg, cs = mcells s ∧ SgOk s := by
  have c5 : Try.prog.cellsOf 89 = 5 := by kernel_rfl
  have cu : Try.prog.cellsOf 24 = 1 := by kernel_rfl
  have ci : Try.prog.cellsOf 3 = 1 := by kernel_rfl
  obtain ⟨y0, y1, y2, y3, y4, n, _, hl, h0, h1, h2, h3, h4⟩ := trod_struct5 Try.underlying89 h
  rw [c5] at hl
  obtain ⟨a, b, c, d, e, rfl⟩ := one_of hl
  simp only [cu, ci, List.drop, List.take] at h0 h1 h2 h3 h4
  obtain ⟨k0, e0, _, g0⟩ := DataW.trod_int Try.underlying24 h0
  obtain ⟨k1, e1, _, g1⟩ := DataW.trod_int Try.underlying24 h1
  obtain ⟨k2, e2, _, g2⟩ := DataW.trod_int Try.underlying24 h2
  obtain ⟨k3, e3, _, g3⟩ := DataW.trod_int Try.underlying3 h3
  obtain ⟨k4, e4, _, g4⟩ := DataW.trod_int Try.underlying3 h4
  simp only [List.cons.injEq, and_true] at e0 e1 e2 e3 e4
  subst e0 e1 e2 e3 e4
  obtain ⟨f1, f1'⟩ := nat_u64 (wf_u64 g1)
  obtain ⟨f2, f2'⟩ := nat_u64 (wf_u64 g2)
  exact ⟨⟨k0, k1.toNat, k2.toNat, k3, k4⟩, by unfold mcells; rw [f1, f2], ⟨wf_u64 g0, f1', f2', wf_i64 g3, wf_i64 g4⟩⟩
theorem open_msegs {fuel : Nat} {cs : List Value} {x : DataW H × List MemPlace} (h : DataW.trod enc Try.prog w base spare held fuel 87 cs = some x) :
    ∃ (A : Option Addr) (c : Nat) (L : List Sg), cs = [.slice A L.length c] ∧ ArgM w A L ∧ (∀ s ∈ L, SgOk s) ∧ L.length ≤ Rows.uptoBulk x.1 := by
  rcases open_slice Try.underlying87 h with ⟨rfl, rfl⟩ | ⟨a, len, cap, m, n, D, Pl, rfl, hb, hl, hm, hmm, hx, hi⟩
  · exact ⟨none, 0, [], rfl, fun h => absurd h (by simp), fun s hs => absurd hs (by simp), Nat.zero_le _⟩
  · have hlm : len ≤ m := by subst hmm; split <;> omega
    have c5 : Try.prog.cellsOf 89 = 5 := by kernel_rfl
    have key : ∀ i, i < len → ∃ s : Sg, (∀ j, j < 5 → w.cell? (a.add (i * 5 + j)) = (mcells s)[j]?) ∧ SgOk s := by
      intro i hil
      obtain ⟨cs', hc, ht'⟩ := hi i (by omega)
      rw [c5] at hc
      obtain ⟨_, hcl, hat⟩ := World.cells?_some hc
      obtain ⟨s, rfl, hs⟩ := open_mseg ht'
      refine ⟨s, fun j hj => ?_, hs⟩
      rw [← Go.Deep.add_add]; exact hat j hj
    obtain ⟨F, hF⟩ := choose_lt key
    refine ⟨some a, cap, (List.range len).map F, by simp, fun hn => ?_, fun s hs => ?_, ?_⟩
    · have h0 := (hF 0 (by simpa using hn)).1 0 (by omega)
      obtain ⟨b, o, r⟩ := a
      have hr : r = none := by simpa [Addr.add, mcells] using World.cell?_spot h0
      subst hr
      refine ⟨b, o, rfl, World.block_lt_of_cell? w _ (by rw [Addr.add_mid] at h0; exact h0), fun i hil => ?_⟩
      rw [List.length_map, List.length_range] at hil
      have h1 := (hF i hil).1
      have e : ((List.range len).map F).getD i zS = F i := by
        rw [List.getD_eq_getElem?_getD, List.getElem?_map, List.getElem?_range hil]; rfl
      rw [e]
      refine ⟨?_, ?_, ?_, ?_, ?_⟩
      · have := h1 0 (by omega); rw [Addr.add_mid] at this; exact this
      · have := h1 1 (by omega); rw [Addr.add_mid, ← Nat.add_assoc] at this; exact this
      · have := h1 2 (by omega); rw [Addr.add_mid, ← Nat.add_assoc] at this; exact this
      · have := h1 3 (by omega); rw [Addr.add_mid, ← Nat.add_assoc] at this; exact this
      · have := h1 4 (by omega); rw [Addr.add_mid, ← Nat.add_assoc] at this; exact this
    · obtain ⟨i, hi', rfl⟩ := List.mem_map.1 hs
      exact (hF i (List.mem_range.1 hi')).2
    · rw [hx]
      simp only [Rows.uptoBulk]
      have := bulk_len ((List.range len).map D)
      simp only [List.length_map, List.length_range] at this ⊢
      omega
theorem open_msegss {fuel : Nat} {cs : List Value} {x : DataW H × List MemPlace} (h : DataW.trod enc Try.prog w base spare held fuel 45 cs = some x) :
    ∃ (A : Option Addr) (c : Nat) (ll : List (List Sg)), cs = [.slice A ll.length c] ∧ ArgMM w A ll ∧ (∀ l ∈ ll, ∀ s ∈ l, SgOk s) ∧ ll.length ≤ Rows.uptoBulk x.1 ∧ ∀ l ∈ ll, l.length ≤ Rows.uptoBulk x.1 := by
  rcases open_slice Try.underlying45 h with ⟨rfl, rfl⟩ | ⟨a, len, cap, m, n, D, Pl, rfl, hb, hl, hm, hmm, hx, hi⟩
  · exact ⟨none, 0, [], rfl, fun h => absurd h (by simp), fun l hl => absurd hl (by simp), Nat.zero_le _, fun l hl => absurd hl (by simp)⟩
  · have hlm : len ≤ m := by subst hmm; split <;> omega
    have c1 : Try.prog.cellsOf 87 = 1 := by kernel_rfl
    have key : ∀ i, i < len → ∃ (l : List Sg), (∃ A' c', w.cell? (a.add i) = some (.slice A' l.length c') ∧ ArgM w A' l) ∧ (∀ s ∈ l, SgOk s) ∧ l.length ≤ Rows.uptoBulk (D i) := by
      intro i hil
      obtain ⟨cs', hc, ht'⟩ := hi i (by omega)
      rw [c1] at hc
      obtain ⟨_, hcl, hat⟩ := World.cells?_some hc
      obtain ⟨A', c', l, rfl, h1, h2, h3⟩ := open_msegs ht'
      have h0 := hat 0 (by omega)
      exact ⟨l, ⟨A', c', by simpa [Go.Deep.add_add] using h0, h1⟩, h2, h3⟩
    obtain ⟨F, hF⟩ := choose_lt key
    have eF : ∀ i, i < len → ((List.range len).map F).getD i [] = F i := fun i hil => by
      rw [List.getD_eq_getElem?_getD, List.getElem?_map, List.getElem?_range hil]; rfl
    have hbk : Rows.uptoBulkAll ((List.range len).map D) ≤ Rows.uptoBulk x.1 := by
      rw [hx]; simp only [Rows.uptoBulk]; omega
    refine ⟨some a, cap, (List.range len).map F, by simp, fun hn => ?_, fun l hl => ?_, ?_, fun l hl => ?_⟩
    · obtain ⟨⟨A', c', h0, _⟩, _⟩ := hF 0 (by simpa using hn)
      obtain ⟨b, o, r⟩ := a
      have hr : r = none := by simpa [Addr.add] using World.cell?_spot h0
      subst hr
      refine ⟨b, o, rfl, World.block_lt_of_cell? w _ (by rw [Addr.add_mid] at h0; exact h0), fun i hil => ?_⟩
      rw [List.length_map, List.length_range] at hil
      obtain ⟨⟨A', c', h1, h2⟩, _⟩ := hF i hil
      rw [eF i hil]
      rw [Addr.add_mid] at h1
      exact ⟨A', c', h1, h2⟩
    · obtain ⟨i, hi', rfl⟩ := List.mem_map.1 hl
      exact (hF i (List.mem_range.1 hi')).2.1
    · have := bulk_len ((List.range len).map D)
      simp only [List.length_map, List.length_range] at this ⊢
      omega
    · obtain ⟨i, hi', rfl⟩ := List.mem_map.1 hl
      have h1 := (hF i (List.mem_range.1 hi')).2.2
      have h2 := bulk_mem (l := (List.range len).map D) (List.mem_map.2 ⟨i, hi', rfl⟩)
      omega
theorem trod_bool9 {P : Program} {t : TypeId} {fuel : Nat} {cs : List Value} {x : DataW H × List MemPlace} (ht : P.underlying t = some .bool) (h : DataW.trod enc P w base spare held fuel t cs = some x) : ∃ b, cs = [.bool b] := by
  cases fuel with
  | zero => simp [DataW.trod] at h
  | succ n =>
    unfold DataW.trod at h
    rw [ht] at h
    split at h <;> simp_all
set_option maxRecDepth 100000 in
/-- The whole argument. -/
theorem open_made {r : Reach} {b0 : Nat} {v : Value} {d : DataW H} {p : List MemPlace} (hv : Value.okWide Try.prog w r b0 47 v) (h : DataW.Trod enc Try.prog w base spare held 47 v d p) :
    ∃ AK cK K eps own AM cM M, v = .agg #[.slice AK (K : List Int).length cK, .int .i64 eps, .bool own, .slice AM (M : List (List Sg)).length cM] ∧ (Rows.uptoBulk d ≤ 1048576 → MadeArg w AK cK K own AM cM M) := by
  obtain ⟨cs, rfl, hsz⟩ := okWide_struct Try.underlying47 hv
  have c4 : Try.prog.cellsOf 47 = 4 := by kernel_rfl
  obtain ⟨a0, a1, a2, a3, rfl⟩ := Joins.array4 (hsz.trans c4)
  obtain ⟨fuel, hf⟩ := h
  obtain ⟨y0, y1, y2, y3, n, hx, _, h0, h1, h2, h3⟩ := Joins.trod_struct4 Try.underlying47 hf
  have q0 : Try.prog.cellsOf 22 = 1 := by kernel_rfl
  have q1 : Try.prog.cellsOf 3 = 1 := by kernel_rfl
  have q2 : Try.prog.cellsOf 4 = 1 := by kernel_rfl
  have q3 : Try.prog.cellsOf 45 = 1 := by kernel_rfl
  simp only [q0, q1, q2, q3, Value.cells, List.drop, List.take] at h0 h1 h2 h3
  obtain ⟨AK, cK, K, e0, k1, k2, k3, k4⟩ := open_u64sc h0
  obtain ⟨eps, e1, _, _⟩ := DataW.trod_int Try.underlying3 h1
  obtain ⟨own, e2⟩ := trod_bool9 Try.underlying4 h2
  obtain ⟨AM, cM, M, e3, m1, m2, m3, m4⟩ := open_msegss h3
  simp only [List.cons.injEq, and_true] at e0 e1 e2 e3
  subst e0 e1 e2 e3
  simp only [Prod.mk.injEq] at hx
  refine ⟨AK, cK, K, eps, own, AM, cM, M, rfl, fun hb => ?_⟩
  rw [hx.1] at hb
  simp only [Rows.uptoBulk, Rows.uptoBulkAll] at hb
  have hK : K.length ≤ 1048576 := by
    rcases k4 with ⟨_, hK⟩ | ⟨elems, sp, hd, hl⟩
    · rw [hK]; exact Nat.zero_le _
    · have := bulk_len elems
      rw [hd] at hb
      simp only [Rows.uptoBulk] at hb
      omega
  exact ⟨k3, hK, k1, k2, m2, fun l hl => by have := m4 l hl; omega, by omega, m1⟩
end
end Go.Proofs.Ytnccgpdniigekaa
