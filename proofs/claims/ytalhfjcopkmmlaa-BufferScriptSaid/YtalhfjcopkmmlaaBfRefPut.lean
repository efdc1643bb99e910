/-
  Putting an entry into the reference's buffer; its clone.
-/
import Derived.Test.YtalhfjcopkmmlaaBfRef
import Derived.Test.YtalhfjcopkmmlaaReads
namespace Go.Proofs.Ytalhfjcopkmmlaa
open Go.RowKit
set_option linter.unusedVariables false
set_option linter.unusedSimpArgs false

theorem Row.reads {w : World} {A : Option Addr} {n c : Nat} {es : List Ent} (h : Row w (.slice A n c) es) : Reads w w.heap.size 3 A n (flat es) := by
  obtain ⟨A', c', hv⟩ := h.val
  injection hv with h1 h2 h3
  subst h2
  exact Reads.of_own h
/-- What the reference's buffer keeps of blocks: its own, its list's, which is new or as it was. -/
def RLeft (b most : Nat) (es : List Ent) (v : Value) (e : Ent) (w : World) (x : Ending) (w' : World) : Prop :=
  x = .returned (.int .i64 (putL most es e).2) ∧ ∃ v', Ref w' b most (putL most es e).1 v' ∧ Chg (fun k => k = b) w w' ∧ (∀ g, v'.ownBlock = some g → v.ownBlock = some g ∨ w.heap.size ≤ g)
theorem RLeft.same {b most : Nat} {es : List Ent} {v : Value} {e : Ent} {w : World} {x : Ending} {w' : World} (hw : Ref w b most es v) (hx : x = .returned (.int .i64 (putL most es e).2)) (he : (putL most es e).1 = es) (hb : Below w.heap.size w w') :
    RLeft b most es v e w x w' := ⟨hx, v, by rw [he]; exact hw.below hb, (Chg.of_below hb).mono (fun _ _ h => h.elim), fun g hg => .inl hg⟩
theorem ebad_ways {k x : Int} {z : Bool} (h : bad (k, x, z) = false) : z = false ∨ (z = true ∧ (x != 0) = false) := by
  cases z
  · exact .inl rfl
  · exact .inr ⟨rfl, by simpa [bad] using h⟩

set_option maxHeartbeats 1000000 in
theorem rput_bad (b most : Nat) (es : List Ent) (v : Value) (k x : Int) (hbad : (x != 0) = true) (w : World) (hw : Ref w b most es v) :
    Calls Try.prog 18 #[.pointer (some ⟨b, 0, none⟩), .agg #[.int .u64 k, .int .u64 x, .bool true]] w (RLeft b most es v (k, x, true) w) := by
  have E := Lib.hid (putL_bad (most := most) (es := es) (e := (k, x, true)) (by simpa [bad] using hbad))
  go_enter Try.func18, Try.ntmps18
  go_wp2
  go_ret
  exact RLeft.same hw (by rw [E.out]; rfl) (by rw [E.out]) (below_new (Below.refl _ _) _)

/-- What is known behind the reading of the place: whether the key is there. -/
theorem there_test {k : Int} {es : List Ent} (hl : rk k es < es.length) : (es[rk k es].1 == k) = there k es := (there_of_lt hl).symm

set_option maxHeartbeats 2000000 in
theorem rput_full (b most : Nat) (es : List Ent) (v : Value) (k x : Int) (z : Bool) (hlen : es.length ≤ 4611686018427387904) (hbad : bad (k, x, z) = false) (ht : there k es = false) (hf : es.length = most) (w : World) (hw : Ref w b most es v) :
    Calls Try.prog 18 #[.pointer (some ⟨b, 0, none⟩), .agg #[.int .u64 k, .int .u64 x, .bool z]] w (RLeft b most es v (k, x, z) w) := by
  have hw1 := hw.below (below_new (Below.refl _ _) (.cells #[.int .u64 k, .int .u64 x, .bool z] 27))
  have P := rplace_any b most es _ k hlen _ hw1
  have R9 := Blk.new w 27 #[.int .u64 k, .int .u64 x, .bool z]
  obtain ⟨q0, q1, q2, f0, f1, f2⟩ := Blk.cells3 R9
  have c0 : (w.alloc (.cells #[.int .u64 k, .int .u64 x, .bool z] 27)).cell? ⟨b, 0, none⟩ = some (.int .i64 most) := hw1.blk.cell 0
  have c1 : (w.alloc (.cells #[.int .u64 k, .int .u64 x, .bool z] 27)).cell? ⟨b, 1, none⟩ = some v := hw1.blk.cell 1
  have E := Lib.hid (putL_full (most := most) (es := es) (e := (k, x, z)) hbad ht hf)
  have hfull : (((es.length : Nat) : Int) == (most : Int)) = true := beq_iff_eq.2 (by omega)
  obtain ⟨A, c, rfl⟩ := hw.row.val
  have hi1 := rk_le k es
  have b1 : (0 : Int) ≤ (rk k es : Int) := by omega
  by_cases hl : rk k es < es.length
  · obtain ⟨g, cap, hv, _⟩ := hw.row.form.resolve_left (fun h => by rw [h.2] at hl; simp at hl)
    injection hv with hA _ hc
    subst hA hc
    obtain ⟨p0, p1, p2⟩ := hw1.row.cells hl
    have b2 : (rk k es : Int) < (es.length : Int) := by omega
    have ht' : (es[rk k es].1 == k) = false := (there_test hl).trans ht
    have HW := Lib.hid hw
    clear hw hw1 hf ht
    rcases ebad_ways hbad with rfl | ⟨rfl, hx⟩
    all_goals
      clear hbad
      go_enter Try.func18, Try.ntmps18
      go_wp2_with (go_at_call 25; refine P.mono ?_; rintro e w' ⟨rfl, rfl⟩)
      go_quiet (fail)
      go_wp2_with fail
      go_quiet (fail)
      go_wp2_with fail
      go_ret
      exact RLeft.same HW.out (by rw [E.out]; rfl) (by rw [E.out]) (drewN_below (drewN_below (below_new (Below.refl _ _) _) _) _)
  · have b2 : ¬ (rk k es : Int) < (es.length : Int) := by omega
    have b3 : decide ((rk k es : Int) < (es.length : Int)) = false := decide_eq_false b2
    have HW := Lib.hid hw
    clear hw hw1 hf ht
    rcases ebad_ways hbad with rfl | ⟨rfl, hx⟩
    all_goals
      clear hbad
      go_enter Try.func18, Try.ntmps18
      go_wp2_with (go_at_call 25; refine P.mono ?_; rintro e w' ⟨rfl, rfl⟩)
      go_quiet (fail)
      go_wp2_with fail
      go_quiet (fail)
      go_wp2_with fail
      go_ret
      exact RLeft.same HW.out (by rw [E.out]; rfl) (by rw [E.out]) (drewN_below (drewN_below (below_new (Below.refl _ _) _) _) _)

theorem Row.readsAt {w : World} {g n cap k : Nat} {es : List Ent} (H : Row w (.slice (some ⟨g, 0, none⟩) n cap) es) (hk : k ≤ es.length) : Reads w w.heap.size 3 (some ⟨g, k * 3, none⟩) (es.length - k) (flat (es.drop k)) := by
  refine ⟨by rw [length_flat, List.length_drop], fun _ => ⟨_, rfl, H.lt rfl, fun j u hu => ?_⟩⟩
  have := World.ownsRow.cells H (g := g) rfl (k * 3 + j) u (by rw [flat_drop, List.getElem?_drop] at hu; exact hu)
  rw [Addr.add_mid] at this ⊢
  simpa using this
theorem reads_none {w : World} {B : Nat} {A : Option Addr} {es : List Ent} {k : Nat} (hk : es.length ≤ k) : Reads w B 3 A 0 (flat (es.drop k)) := by
  rw [List.drop_of_length_le hk]; exact ⟨rfl, fun h => absurd h (by omega)⟩
theorem Row.readsTake {w : World} {A : Option Addr} {n c k : Nat} {es : List Ent} (H : Row w (.slice A n c) es) (hk : k ≤ es.length) : Reads w w.heap.size 3 A k (flat (es.take k)) := by
  refine ⟨by rw [length_flat, List.length_take, Nat.min_eq_left hk], fun hp => ?_⟩
  obtain ⟨ad, hA, hb, hc⟩ := H.reads.2 (by obtain ⟨A', c', hv⟩ := H.val; injection hv with _ h2; omega)
  refine ⟨ad, hA, hb, fun j u hu => hc j u ?_⟩
  rw [flat_take, List.getElem?_take] at hu
  split at hu
  · exact hu
  · cases hu
theorem Reads.of_blk {w : World} {N : Nat} {e : Ent} {B : Nat} (h : Blk w N 27 (ecells e).toArray) (hB : N < B) : Reads w B 3 (some ⟨N, 0, none⟩) 1 (ecells e) :=
  ⟨rfl, fun _ => ⟨_, rfl, hB, World.news_of_block h⟩⟩

/-- The list behind a put that was taken. -/
theorem putL_list {most : Nat} {es : List Ent} {e : Ent} (hb : bad e = false) (h : there e.1 es = true ∨ there e.1 es = false ∧ es.length ≠ most) :
    putL most es e = (es.take (rk e.1 es) ++ e :: es.drop (if there e.1 es then rk e.1 es + 1 else rk e.1 es), 0) := by
  rcases h with h | ⟨h, hf⟩
  · rw [putL_there hb h, h, if_pos rfl, List.set_eq_take_append_cons_drop, if_pos (there_lt h)]
  · rw [putL_new hb h hf, h, if_neg (by simp)]
theorem eone (e : Ent) : ∀ u ∈ ecells e, u.oneCell' = true := by intro u hu; simp [ecells] at hu; rcases hu with rfl | rfl | rfl <;> rfl

/-- What the taken way ends in. -/
theorem RLeft.taken {b most : Nat} {es es' : List Ent} {v v3 : Value} {e : Ent} {w w3 : World} {x : Ending} (hp : putL most es e = (es', 0)) (hw : Ref w b most es v) (hL : Below w.heap.size w w3) (hx : x = .returned (.int .i64 0))
    (hown : w3.ownsRow w.heap.size 27 3 v3 es'.length (flat es')) : RLeft b most es v e w x (w3.setCell ⟨b, 1, none⟩ v3) := by
  have hb := hw.below hL
  have hlt := hw.blk.lt
  have hne : v3.ownBlock ≠ some b := fun e => by have := (hown.lt b e).1; omega
  refine ⟨by rw [hx, hp], v3, ?_, Chg.setCell (S := fun k => k = b) ((Chg.of_below hL).mono (fun _ _ h => h.elim)) (p := ⟨b, 1, none⟩) (fun _ => rfl) _, fun g hg => .inr (hown.lt g hg).1⟩
  rw [hp]
  exact ⟨hb.blk.set 1 _, own_far (own_mono hown (fun _ _ => Nat.zero_le _)) hne _⟩

theorem app1 {w w2 w3 : World} {v1 : Value} {i : Nat} {cs : List Value} (L2 : Below w.heap.size w w2) (hown : w3.ownsRow w.heap.size 27 3 v1 (0 + i) ([] ++ cs)) (hg : w2.grownBy w3 (Value.slice none 0 0).ownBlock) :
    w3.ownsRow w.heap.size 27 3 v1 i cs ∧ Chg (fun _ => False) w2 w3 ∧ Below w.heap.size w w3 := by
  have k : Chg (fun _ => False) w2 w3 := (Chg.refl (fun _ => False) w2).grown hg (fun k hk _ => by simp [Value.ownBlock] at hk)
  exact ⟨by simpa using hown, k, below_chg L2 k (fun _ _ h => h.elim) L2.size⟩
theorem app2 {w w3 w4 : World} {o : Obj} {v1 : Value} {i : Nat} {cs : List Value} (L3 : Below w.heap.size w w3) (h1 : w3.ownsRow w.heap.size 27 3 v1 i cs) (hg : (w3.alloc o).grownBy w4 v1.ownBlock) : Below w.heap.size w w4 :=
  (below_new L3 o).grown hg (below_new L3 o).size (fun k hk => (h1.lt k hk).1)
theorem app3 {w w4 w5 : World} {v2 v3 : Value} {es : List Ent} {e : Ent} {i s : Nat} (hi : i ≤ es.length) (hs : s ≤ es.length) (L4 : Below w.heap.size w w4) (h2 : w4.ownsRow w.heap.size 27 3 v2 (i + 1) (flat (es.take i) ++ ecells e)) {m : Nat} (hm : m = es.length - s)
    (h3 : w5.ownsRow w.heap.size 27 3 v3 (i + 1 + m) ((flat (es.take i) ++ ecells e) ++ flat (es.drop s))) (hg : w4.grownBy w5 v2.ownBlock) :
    (∃ A n c, v3 = .slice A n c) ∧ w5.ownsRow w.heap.size 27 3 v3 (es.take i ++ e :: es.drop s).length (flat (es.take i ++ e :: es.drop s)) ∧ Below w.heap.size w w5 := by
  have hl : (es.take i ++ e :: es.drop s).length = i + 1 + m := by simp only [List.length_append, List.length_cons, List.length_take, List.length_drop]; omega
  have ho : w5.ownsRow w.heap.size 27 3 v3 (es.take i ++ e :: es.drop s).length (flat (es.take i ++ e :: es.drop s)) := by
    rw [hl, flat_append, flat_cons, ← List.append_assoc]; exact h3
  have hr : Row w5 v3 (es.take i ++ e :: es.drop s) := own_mono ho (fun _ _ => Nat.zero_le _)
  obtain ⟨A, c, hv⟩ := hr.val
  exact ⟨⟨A, _, c, hv⟩, ho, L4.grown hg L4.size (fun k hk => (h2.lt k hk).1)⟩

set_option maxHeartbeats 4000000 in
theorem rput_fTlc (b most : Nat) (es : List Ent) (k x : Int) (hlen : (es.length + 1) * 24 ≤ 140737488355328) (hbad : bad (k, x, false) = false) (hl : rk k es < es.length) (ht : there k es = true) (w : World) (g : Nat) (hw : Ref w b most es (.slice (some ⟨g, 0, none⟩) es.length (rk k es + 1))) :
    Calls Try.prog 18 #[.pointer (some ⟨b, 0, none⟩), .agg #[.int .u64 k, .int .u64 x, .bool false]] w (RLeft b most es (.slice (some ⟨g, 0, none⟩) es.length (rk k es + 1)) (k, x, false) w) := by
  obtain ⟨i0, hi, hz0, hz1, hz2⟩ := info_parts infoE
  have hw1 := hw.below (below_new (Below.refl _ _) (.cells #[.int .u64 k, .int .u64 x, .bool false] 27))
  have P := rplace_any b most es _ k (by omega) _ hw1
  have R9 := Blk.new w 27 #[.int .u64 k, .int .u64 x, .bool false]
  obtain ⟨q0, q1, q2, f0, f1, f2⟩ := Blk.cells3 R9
  have c0 : (w.alloc (.cells #[.int .u64 k, .int .u64 x, .bool false] 27)).cell? ⟨b, 0, none⟩ = some (.int .i64 most) := hw1.blk.cell 0
  have c1 : (w.alloc (.cells #[.int .u64 k, .int .u64 x, .bool false] 27)).cell? ⟨b, 1, none⟩ = some (.slice (some ⟨g, 0, none⟩) es.length (rk k es + 1)) := hw1.blk.cell 1
  have hput := putL_list (most := most) hbad (.inl ht)
  rw [ht] at hput
  simp only [if_true] at hput
  have E := Lib.hid hput
  have hi1 := rk_le k es
  obtain ⟨-, -, -, hcap, hmax, -, -⟩ := hw.row.cur
  unfold maxLen at hmax
  have b1 : (0 : Int) ≤ (rk k es : Int) := by omega
  have b0 : (rk k es : Int) ≤ (es.length : Int) := by omega
  obtain ⟨p0, p1, p2⟩ := hw1.row.cells hl
  have b2 : (rk k es : Int) < (es.length : Int) := by omega
  have hk : (es[rk k es].1 == k) = true := (there_test hl).trans ht
  have FT := Lib.hid (flat_one (es.take (rk k es)))
  have FE := Lib.hid (eone (k, x, false))
  have FD := Lib.hid (flat_one (es.drop (rk k es + 1)))
  have HW := Lib.hid hw
  clear hw hw1 ht hput hbad
  go_enter Try.func18, Try.ntmps18
  go_wp2_with (go_at_call 25; refine P.mono ?_; rintro e w' ⟨rfl, rfl⟩)
  go_quiet (fail)
  go_wp2_with fail
  go_quiet (fail)
  generalize hw2 : World.drewN (World.drewN (w.alloc (.cells #[.int .u64 k, .int .u64 x, .bool false] 27)) _) _ = w2
  have L2 : Below w.heap.size w w2 := by rw [← hw2]; exact drewN_below (drewN_below (below_new (Below.refl _ _) _) _) _
  have R2 : Blk w2 w.heap.size 27 #[.int .u64 k, .int .u64 x, .bool false] := by rw [← hw2]; exact R9
  clear hw2 c0 c1 q0 q1 q2 f0 f1 f2 R9
  have c1 : w2.cell? ⟨b, 1, none⟩ = some (.slice (some ⟨g, 0, none⟩) es.length (rk k es + 1)) := (HW.out.below L2).blk.cell 1
  go_wp2_with (first | (at_builtin; refine wpList_append_any _ rfl (.tmp 53) (.tmp 59) 22 (by rfl) w.heap.size 27 i0 _ 3 24 Try.underlying22 hi hz0 hz1 hz2 rfl (by omega) (.slice none 0 0) 0 [] (by rfl) (World.ownsRow_nil _ _ _ _) w2.heap.size (some ⟨g, 0, none⟩) (rk k es) (rk k es + 1) (flat (es.take (rk k es))) (by rfl) (Row.readsTake (HW.out.below L2).row hi1) FT.out (by unfold maxLen; omega) (by omega) L2.size ?_; intro v1 w3 hown1 hg1 hat1; have A1 := Lib.hid (app1 L2 hown1 hg1); obtain ⟨q0, q1, q2, -, -, -⟩ := Blk.cells3 (R2.chg A1.out.2.1 (fun h => h)); clear hown1 hg1 hat1) | (at_builtin; refine wpList_append_any _ rfl (.tmp 61) (.tmp 63) 22 (by rfl) w.heap.size 27 i0 _ 3 24 Try.underlying22 hi hz0 hz1 hz2 rfl (by omega) v1 (rk k es) (flat (es.take (rk k es))) (by rfl) (own_chg A1.out.1 ((Chg.refl (fun _ => False) w3).alloc _) (fun _ _ h => h)) (w3.heap.size + 1) (some ⟨w3.heap.size, 0, none⟩) 1 1 (ecells (k, x, false)) (by rfl) (Reads.of_blk (Blk.new _ _ _) (Nat.lt_succ_self _)) FE.out (by unfold maxLen; omega) (by omega) (below_new A1.out.2.2 _).size ?_; intro v2 w4 hown2 hg2 hat2; have A2 := Lib.hid (app2 A1.out.2.2 A1.out.1 hg2); have O2 := Lib.hid hown2; have c1 : w4.cell? ⟨b, 1, none⟩ = some (.slice (some ⟨g, 0, none⟩) es.length (rk k es + 1)) := (HW.out.below A2.out).blk.cell 1; clear hown2 hg2 hat2) | (at_builtin; refine wpList_append_any _ rfl (.tmp 69) (.tmp 75) 22 (by rfl) w.heap.size 27 i0 _ 3 24 Try.underlying22 hi hz0 hz1 hz2 rfl (by omega) v2 (rk k es + 1) (flat (es.take (rk k es)) ++ ecells (k, x, false)) (by rfl) O2.out w4.heap.size _ 0 _ (flat (es.drop (rk k es + 1))) (by rfl) (reads_none (by omega)) FD.out (by unfold maxLen; omega) (by omega) A2.out.size ?_; intro v3 w5 hown3 hg3 hat3; have A3 := Lib.hid (app3 (s := rk k es + 1) hi1 (by omega) A2.out O2.out (by omega) hown3 hg3); obtain ⟨A9, n9, c9, hv9⟩ := A3.out.1; subst hv9; have f1 : w5.frozen? ⟨b, 1, none⟩ = false := (HW.out.below A3.out.2.2).blk.free 1; have c2 : w5.cell? ⟨b, 1, none⟩ = some (.slice (some ⟨g, 0, none⟩) es.length (rk k es + 1)) := (HW.out.below A3.out.2.2).blk.cell 1; clear hown3 hg3 hat3))
  go_ret
  exact RLeft.taken E.out HW.out A3.out.2.2 rfl A3.out.2.1

set_option maxHeartbeats 4000000 in
theorem rput_fTld (b most : Nat) (es : List Ent) (k x : Int) (hlen : (es.length + 1) * 24 ≤ 140737488355328) (hbad : bad (k, x, false) = false) (hl : rk k es < es.length) (ht : there k es = true) (w : World) (g cap : Nat) (hcp : cap ≠ rk k es + 1) (hw : Ref w b most es (.slice (some ⟨g, 0, none⟩) es.length cap)) :
    Calls Try.prog 18 #[.pointer (some ⟨b, 0, none⟩), .agg #[.int .u64 k, .int .u64 x, .bool false]] w (RLeft b most es (.slice (some ⟨g, 0, none⟩) es.length cap) (k, x, false) w) := by
  obtain ⟨i0, hi, hz0, hz1, hz2⟩ := info_parts infoE
  have hw1 := hw.below (below_new (Below.refl _ _) (.cells #[.int .u64 k, .int .u64 x, .bool false] 27))
  have P := rplace_any b most es _ k (by omega) _ hw1
  have R9 := Blk.new w 27 #[.int .u64 k, .int .u64 x, .bool false]
  obtain ⟨q0, q1, q2, f0, f1, f2⟩ := Blk.cells3 R9
  have c0 : (w.alloc (.cells #[.int .u64 k, .int .u64 x, .bool false] 27)).cell? ⟨b, 0, none⟩ = some (.int .i64 most) := hw1.blk.cell 0
  have c1 : (w.alloc (.cells #[.int .u64 k, .int .u64 x, .bool false] 27)).cell? ⟨b, 1, none⟩ = some (.slice (some ⟨g, 0, none⟩) es.length cap) := hw1.blk.cell 1
  have hput := putL_list (most := most) hbad (.inl ht)
  rw [ht] at hput
  simp only [if_true] at hput
  have E := Lib.hid hput
  have hi1 := rk_le k es
  obtain ⟨-, -, -, hcap, hmax, -, -⟩ := hw.row.cur
  unfold maxLen at hmax
  have b1 : (0 : Int) ≤ (rk k es : Int) := by omega
  have b0 : (rk k es : Int) ≤ (es.length : Int) := by omega
  obtain ⟨p0, p1, p2⟩ := hw1.row.cells hl
  have b2 : (rk k es : Int) < (es.length : Int) := by omega
  have hk : (es[rk k es].1 == k) = true := (there_test hl).trans ht
  have FT := Lib.hid (flat_one (es.take (rk k es)))
  have FE := Lib.hid (eone (k, x, false))
  have FD := Lib.hid (flat_one (es.drop (rk k es + 1)))
  have HW := Lib.hid hw
  clear hw hw1 ht hput hbad
  go_enter Try.func18, Try.ntmps18
  go_wp2_with (go_at_call 25; refine P.mono ?_; rintro e w' ⟨rfl, rfl⟩)
  go_quiet (fail)
  go_wp2_with fail
  go_quiet (fail)
  generalize hw2 : World.drewN (World.drewN (w.alloc (.cells #[.int .u64 k, .int .u64 x, .bool false] 27)) _) _ = w2
  have L2 : Below w.heap.size w w2 := by rw [← hw2]; exact drewN_below (drewN_below (below_new (Below.refl _ _) _) _) _
  have R2 : Blk w2 w.heap.size 27 #[.int .u64 k, .int .u64 x, .bool false] := by rw [← hw2]; exact R9
  clear hw2 c0 c1 q0 q1 q2 f0 f1 f2 R9
  have c1 : w2.cell? ⟨b, 1, none⟩ = some (.slice (some ⟨g, 0, none⟩) es.length cap) := (HW.out.below L2).blk.cell 1
  go_wp2_with (first | (at_builtin; refine wpList_append_any _ rfl (.tmp 53) (.tmp 59) 22 (by rfl) w.heap.size 27 i0 _ 3 24 Try.underlying22 hi hz0 hz1 hz2 rfl (by omega) (.slice none 0 0) 0 [] (by rfl) (World.ownsRow_nil _ _ _ _) w2.heap.size (some ⟨g, 0, none⟩) (rk k es) cap (flat (es.take (rk k es))) (by rfl) (Row.readsTake (HW.out.below L2).row hi1) FT.out (by unfold maxLen; omega) (by omega) L2.size ?_; intro v1 w3 hown1 hg1 hat1; have A1 := Lib.hid (app1 L2 hown1 hg1); obtain ⟨q0, q1, q2, -, -, -⟩ := Blk.cells3 (R2.chg A1.out.2.1 (fun h => h)); clear hown1 hg1 hat1) | (at_builtin; refine wpList_append_any _ rfl (.tmp 61) (.tmp 63) 22 (by rfl) w.heap.size 27 i0 _ 3 24 Try.underlying22 hi hz0 hz1 hz2 rfl (by omega) v1 (rk k es) (flat (es.take (rk k es))) (by rfl) (own_chg A1.out.1 ((Chg.refl (fun _ => False) w3).alloc _) (fun _ _ h => h)) (w3.heap.size + 1) (some ⟨w3.heap.size, 0, none⟩) 1 1 (ecells (k, x, false)) (by rfl) (Reads.of_blk (Blk.new _ _ _) (Nat.lt_succ_self _)) FE.out (by unfold maxLen; omega) (by omega) (below_new A1.out.2.2 _).size ?_; intro v2 w4 hown2 hg2 hat2; have A2 := Lib.hid (app2 A1.out.2.2 A1.out.1 hg2); have O2 := Lib.hid hown2; have c1 : w4.cell? ⟨b, 1, none⟩ = some (.slice (some ⟨g, 0, none⟩) es.length cap) := (HW.out.below A2.out).blk.cell 1; clear hown2 hg2 hat2) | (at_builtin; refine wpList_append_any _ rfl (.tmp 69) (.tmp 75) 22 (by rfl) w.heap.size 27 i0 _ 3 24 Try.underlying22 hi hz0 hz1 hz2 rfl (by omega) v2 (rk k es + 1) (flat (es.take (rk k es)) ++ ecells (k, x, false)) (by rfl) O2.out w4.heap.size (some ⟨g, (rk k es + 1) * 3, none⟩) (es.length - (rk k es + 1)) (cap - (rk k es + 1)) (flat (es.drop (rk k es + 1))) (by rfl) (Row.readsAt (HW.out.below A2.out).row (by omega)) FD.out (by unfold maxLen; omega) (by omega) A2.out.size ?_; intro v3 w5 hown3 hg3 hat3; have A3 := Lib.hid (app3 (s := rk k es + 1) hi1 (by omega) A2.out O2.out (by omega) hown3 hg3); obtain ⟨A9, n9, c9, hv9⟩ := A3.out.1; subst hv9; have f1 : w5.frozen? ⟨b, 1, none⟩ = false := (HW.out.below A3.out.2.2).blk.free 1; have c2 : w5.cell? ⟨b, 1, none⟩ = some (.slice (some ⟨g, 0, none⟩) es.length cap) := (HW.out.below A3.out.2.2).blk.cell 1; clear hown3 hg3 hat3))
  go_ret
  exact RLeft.taken E.out HW.out A3.out.2.2 rfl A3.out.2.1

set_option maxHeartbeats 4000000 in
theorem rput_fNld (b most : Nat) (es : List Ent) (k x : Int) (hlen : (es.length + 1) * 24 ≤ 140737488355328) (hbad : bad (k, x, false) = false) (hl : rk k es < es.length) (ht : there k es = false) (hne : es.length ≠ most) (w : World) (g cap : Nat) (hcp : cap ≠ rk k es) (hw : Ref w b most es (.slice (some ⟨g, 0, none⟩) es.length cap)) :
    Calls Try.prog 18 #[.pointer (some ⟨b, 0, none⟩), .agg #[.int .u64 k, .int .u64 x, .bool false]] w (RLeft b most es (.slice (some ⟨g, 0, none⟩) es.length cap) (k, x, false) w) := by
  obtain ⟨i0, hi, hz0, hz1, hz2⟩ := info_parts infoE
  have hw1 := hw.below (below_new (Below.refl _ _) (.cells #[.int .u64 k, .int .u64 x, .bool false] 27))
  have P := rplace_any b most es _ k (by omega) _ hw1
  have R9 := Blk.new w 27 #[.int .u64 k, .int .u64 x, .bool false]
  obtain ⟨q0, q1, q2, f0, f1, f2⟩ := Blk.cells3 R9
  have c0 : (w.alloc (.cells #[.int .u64 k, .int .u64 x, .bool false] 27)).cell? ⟨b, 0, none⟩ = some (.int .i64 most) := hw1.blk.cell 0
  have c1 : (w.alloc (.cells #[.int .u64 k, .int .u64 x, .bool false] 27)).cell? ⟨b, 1, none⟩ = some (.slice (some ⟨g, 0, none⟩) es.length cap) := hw1.blk.cell 1
  have hput := putL_list (most := most) hbad (.inr ⟨ht, hne⟩)
  rw [ht] at hput
  simp only [Bool.false_eq_true, if_false] at hput
  have E := Lib.hid hput
  have hi1 := rk_le k es
  obtain ⟨-, -, -, hcap, hmax, -, -⟩ := hw.row.cur
  unfold maxLen at hmax
  have b1 : (0 : Int) ≤ (rk k es : Int) := by omega
  have b0 : (rk k es : Int) ≤ (es.length : Int) := by omega
  obtain ⟨p0, p1, p2⟩ := hw1.row.cells hl
  have b2 : (rk k es : Int) < (es.length : Int) := by omega
  have hk : (es[rk k es].1 == k) = false := (there_test hl).trans ht
  have hf : (((es.length : Nat) : Int) == (most : Int)) = false := beq_eq_false_iff_ne.2 (by omega)
  have FT := Lib.hid (flat_one (es.take (rk k es)))
  have FE := Lib.hid (eone (k, x, false))
  have FD := Lib.hid (flat_one (es.drop (rk k es)))
  have HW := Lib.hid hw
  clear hw hw1 ht hput hbad hne
  go_enter Try.func18, Try.ntmps18
  go_wp2_with (go_at_call 25; refine P.mono ?_; rintro e w' ⟨rfl, rfl⟩)
  go_quiet (fail)
  go_wp2_with fail
  go_quiet (fail)
  generalize hw2 : World.drewN (World.drewN (w.alloc (.cells #[.int .u64 k, .int .u64 x, .bool false] 27)) _) _ = w2
  have L2 : Below w.heap.size w w2 := by rw [← hw2]; exact drewN_below (drewN_below (below_new (Below.refl _ _) _) _) _
  have R2 : Blk w2 w.heap.size 27 #[.int .u64 k, .int .u64 x, .bool false] := by rw [← hw2]; exact R9
  clear hw2 c0 c1 q0 q1 q2 f0 f1 f2 R9
  have c1 : w2.cell? ⟨b, 1, none⟩ = some (.slice (some ⟨g, 0, none⟩) es.length cap) := (HW.out.below L2).blk.cell 1
  go_wp2_with (first | (at_builtin; refine wpList_append_any _ rfl (.tmp 53) (.tmp 59) 22 (by rfl) w.heap.size 27 i0 _ 3 24 Try.underlying22 hi hz0 hz1 hz2 rfl (by omega) (.slice none 0 0) 0 [] (by rfl) (World.ownsRow_nil _ _ _ _) w2.heap.size (some ⟨g, 0, none⟩) (rk k es) cap (flat (es.take (rk k es))) (by rfl) (Row.readsTake (HW.out.below L2).row hi1) FT.out (by unfold maxLen; omega) (by omega) L2.size ?_; intro v1 w3 hown1 hg1 hat1; have A1 := Lib.hid (app1 L2 hown1 hg1); obtain ⟨q0, q1, q2, -, -, -⟩ := Blk.cells3 (R2.chg A1.out.2.1 (fun h => h)); clear hown1 hg1 hat1) | (at_builtin; refine wpList_append_any _ rfl (.tmp 61) (.tmp 63) 22 (by rfl) w.heap.size 27 i0 _ 3 24 Try.underlying22 hi hz0 hz1 hz2 rfl (by omega) v1 (rk k es) (flat (es.take (rk k es))) (by rfl) (own_chg A1.out.1 ((Chg.refl (fun _ => False) w3).alloc _) (fun _ _ h => h)) (w3.heap.size + 1) (some ⟨w3.heap.size, 0, none⟩) 1 1 (ecells (k, x, false)) (by rfl) (Reads.of_blk (Blk.new _ _ _) (Nat.lt_succ_self _)) FE.out (by unfold maxLen; omega) (by omega) (below_new A1.out.2.2 _).size ?_; intro v2 w4 hown2 hg2 hat2; have A2 := Lib.hid (app2 A1.out.2.2 A1.out.1 hg2); have O2 := Lib.hid hown2; have c1 : w4.cell? ⟨b, 1, none⟩ = some (.slice (some ⟨g, 0, none⟩) es.length cap) := (HW.out.below A2.out).blk.cell 1; clear hown2 hg2 hat2) | (at_builtin; refine wpList_append_any _ rfl (.tmp 69) (.tmp 75) 22 (by rfl) w.heap.size 27 i0 _ 3 24 Try.underlying22 hi hz0 hz1 hz2 rfl (by omega) v2 (rk k es + 1) (flat (es.take (rk k es)) ++ ecells (k, x, false)) (by rfl) O2.out w4.heap.size (some ⟨g, (rk k es) * 3, none⟩) (es.length - (rk k es)) (cap - (rk k es)) (flat (es.drop (rk k es))) (by rfl) (Row.readsAt (HW.out.below A2.out).row (by omega)) FD.out (by unfold maxLen; omega) (by omega) A2.out.size ?_; intro v3 w5 hown3 hg3 hat3; have A3 := Lib.hid (app3 (s := rk k es) hi1 (by omega) A2.out O2.out (by omega) hown3 hg3); obtain ⟨A9, n9, c9, hv9⟩ := A3.out.1; subst hv9; have f1 : w5.frozen? ⟨b, 1, none⟩ = false := (HW.out.below A3.out.2.2).blk.free 1; have c2 : w5.cell? ⟨b, 1, none⟩ = some (.slice (some ⟨g, 0, none⟩) es.length cap) := (HW.out.below A3.out.2.2).blk.cell 1; clear hown3 hg3 hat3))
  go_ret
  exact RLeft.taken E.out HW.out A3.out.2.2 rfl A3.out.2.1

set_option maxHeartbeats 4000000 in
theorem rput_fNec (b most : Nat) (es : List Ent) (k x : Int) (hlen : (es.length + 1) * 24 ≤ 140737488355328) (hbad : bad (k, x, false) = false) (hl : ¬ rk k es < es.length) (ht : there k es = false) (hne : es.length ≠ most) (w : World) (g : Nat) (hw : Ref w b most es (.slice (some ⟨g, 0, none⟩) es.length (rk k es))) :
    Calls Try.prog 18 #[.pointer (some ⟨b, 0, none⟩), .agg #[.int .u64 k, .int .u64 x, .bool false]] w (RLeft b most es (.slice (some ⟨g, 0, none⟩) es.length (rk k es)) (k, x, false) w) := by
  obtain ⟨i0, hi, hz0, hz1, hz2⟩ := info_parts infoE
  have hw1 := hw.below (below_new (Below.refl _ _) (.cells #[.int .u64 k, .int .u64 x, .bool false] 27))
  have P := rplace_any b most es _ k (by omega) _ hw1
  have R9 := Blk.new w 27 #[.int .u64 k, .int .u64 x, .bool false]
  obtain ⟨q0, q1, q2, f0, f1, f2⟩ := Blk.cells3 R9
  have c0 : (w.alloc (.cells #[.int .u64 k, .int .u64 x, .bool false] 27)).cell? ⟨b, 0, none⟩ = some (.int .i64 most) := hw1.blk.cell 0
  have c1 : (w.alloc (.cells #[.int .u64 k, .int .u64 x, .bool false] 27)).cell? ⟨b, 1, none⟩ = some (.slice (some ⟨g, 0, none⟩) es.length (rk k es)) := hw1.blk.cell 1
  have hput := putL_list (most := most) hbad (.inr ⟨ht, hne⟩)
  rw [ht] at hput
  simp only [Bool.false_eq_true, if_false] at hput
  have E := Lib.hid hput
  have hi1 := rk_le k es
  obtain ⟨-, -, -, hcap, hmax, -, -⟩ := hw.row.cur
  unfold maxLen at hmax
  have b1 : (0 : Int) ≤ (rk k es : Int) := by omega
  have b0 : (rk k es : Int) ≤ (es.length : Int) := by omega
  have b3 : decide ((rk k es : Int) < (es.length : Int)) = false := decide_eq_false (by omega)
  have hf : (((es.length : Nat) : Int) == (most : Int)) = false := beq_eq_false_iff_ne.2 (by omega)
  have FT := Lib.hid (flat_one (es.take (rk k es)))
  have FE := Lib.hid (eone (k, x, false))
  have FD := Lib.hid (flat_one (es.drop (rk k es)))
  have HW := Lib.hid hw
  clear hw hw1 ht hput hbad hne
  go_enter Try.func18, Try.ntmps18
  go_wp2_with (go_at_call 25; refine P.mono ?_; rintro e w' ⟨rfl, rfl⟩)
  go_quiet (fail)
  go_wp2_with fail
  go_quiet (fail)
  generalize hw2 : World.drewN (World.drewN (w.alloc (.cells #[.int .u64 k, .int .u64 x, .bool false] 27)) _) _ = w2
  have L2 : Below w.heap.size w w2 := by rw [← hw2]; exact drewN_below (drewN_below (below_new (Below.refl _ _) _) _) _
  have R2 : Blk w2 w.heap.size 27 #[.int .u64 k, .int .u64 x, .bool false] := by rw [← hw2]; exact R9
  clear hw2 c0 c1 q0 q1 q2 f0 f1 f2 R9
  have c1 : w2.cell? ⟨b, 1, none⟩ = some (.slice (some ⟨g, 0, none⟩) es.length (rk k es)) := (HW.out.below L2).blk.cell 1
  go_wp2_with (first | (at_builtin; refine wpList_append_any _ rfl (.tmp 53) (.tmp 59) 22 (by rfl) w.heap.size 27 i0 _ 3 24 Try.underlying22 hi hz0 hz1 hz2 rfl (by omega) (.slice none 0 0) 0 [] (by rfl) (World.ownsRow_nil _ _ _ _) w2.heap.size (some ⟨g, 0, none⟩) (rk k es) (rk k es) (flat (es.take (rk k es))) (by rfl) (Row.readsTake (HW.out.below L2).row hi1) FT.out (by unfold maxLen; omega) (by omega) L2.size ?_; intro v1 w3 hown1 hg1 hat1; have A1 := Lib.hid (app1 L2 hown1 hg1); obtain ⟨q0, q1, q2, -, -, -⟩ := Blk.cells3 (R2.chg A1.out.2.1 (fun h => h)); clear hown1 hg1 hat1) | (at_builtin; refine wpList_append_any _ rfl (.tmp 61) (.tmp 63) 22 (by rfl) w.heap.size 27 i0 _ 3 24 Try.underlying22 hi hz0 hz1 hz2 rfl (by omega) v1 (rk k es) (flat (es.take (rk k es))) (by rfl) (own_chg A1.out.1 ((Chg.refl (fun _ => False) w3).alloc _) (fun _ _ h => h)) (w3.heap.size + 1) (some ⟨w3.heap.size, 0, none⟩) 1 1 (ecells (k, x, false)) (by rfl) (Reads.of_blk (Blk.new _ _ _) (Nat.lt_succ_self _)) FE.out (by unfold maxLen; omega) (by omega) (below_new A1.out.2.2 _).size ?_; intro v2 w4 hown2 hg2 hat2; have A2 := Lib.hid (app2 A1.out.2.2 A1.out.1 hg2); have O2 := Lib.hid hown2; have c1 : w4.cell? ⟨b, 1, none⟩ = some (.slice (some ⟨g, 0, none⟩) es.length (rk k es)) := (HW.out.below A2.out).blk.cell 1; clear hown2 hg2 hat2) | (at_builtin; refine wpList_append_any _ rfl (.tmp 69) (.tmp 75) 22 (by rfl) w.heap.size 27 i0 _ 3 24 Try.underlying22 hi hz0 hz1 hz2 rfl (by omega) v2 (rk k es + 1) (flat (es.take (rk k es)) ++ ecells (k, x, false)) (by rfl) O2.out w4.heap.size _ 0 _ (flat (es.drop (rk k es))) (by rfl) (reads_none (by omega)) FD.out (by unfold maxLen; omega) (by omega) A2.out.size ?_; intro v3 w5 hown3 hg3 hat3; have A3 := Lib.hid (app3 (s := rk k es) hi1 (by omega) A2.out O2.out (by omega) hown3 hg3); obtain ⟨A9, n9, c9, hv9⟩ := A3.out.1; subst hv9; have f1 : w5.frozen? ⟨b, 1, none⟩ = false := (HW.out.below A3.out.2.2).blk.free 1; have c2 : w5.cell? ⟨b, 1, none⟩ = some (.slice (some ⟨g, 0, none⟩) es.length (rk k es)) := (HW.out.below A3.out.2.2).blk.cell 1; clear hown3 hg3 hat3))
  go_ret
  exact RLeft.taken E.out HW.out A3.out.2.2 rfl A3.out.2.1

set_option maxHeartbeats 4000000 in
theorem rput_fNed (b most : Nat) (es : List Ent) (k x : Int) (hlen : (es.length + 1) * 24 ≤ 140737488355328) (hbad : bad (k, x, false) = false) (hl : ¬ rk k es < es.length) (ht : there k es = false) (hne : es.length ≠ most) (w : World) (g cap : Nat) (hcp : cap ≠ rk k es) (hw : Ref w b most es (.slice (some ⟨g, 0, none⟩) es.length cap)) :
    Calls Try.prog 18 #[.pointer (some ⟨b, 0, none⟩), .agg #[.int .u64 k, .int .u64 x, .bool false]] w (RLeft b most es (.slice (some ⟨g, 0, none⟩) es.length cap) (k, x, false) w) := by
  obtain ⟨i0, hi, hz0, hz1, hz2⟩ := info_parts infoE
  have hw1 := hw.below (below_new (Below.refl _ _) (.cells #[.int .u64 k, .int .u64 x, .bool false] 27))
  have P := rplace_any b most es _ k (by omega) _ hw1
  have R9 := Blk.new w 27 #[.int .u64 k, .int .u64 x, .bool false]
  obtain ⟨q0, q1, q2, f0, f1, f2⟩ := Blk.cells3 R9
  have c0 : (w.alloc (.cells #[.int .u64 k, .int .u64 x, .bool false] 27)).cell? ⟨b, 0, none⟩ = some (.int .i64 most) := hw1.blk.cell 0
  have c1 : (w.alloc (.cells #[.int .u64 k, .int .u64 x, .bool false] 27)).cell? ⟨b, 1, none⟩ = some (.slice (some ⟨g, 0, none⟩) es.length cap) := hw1.blk.cell 1
  have hput := putL_list (most := most) hbad (.inr ⟨ht, hne⟩)
  rw [ht] at hput
  simp only [Bool.false_eq_true, if_false] at hput
  have E := Lib.hid hput
  have hi1 := rk_le k es
  obtain ⟨-, -, -, hcap, hmax, -, -⟩ := hw.row.cur
  unfold maxLen at hmax
  have b1 : (0 : Int) ≤ (rk k es : Int) := by omega
  have b0 : (rk k es : Int) ≤ (es.length : Int) := by omega
  have b3 : decide ((rk k es : Int) < (es.length : Int)) = false := decide_eq_false (by omega)
  have hf : (((es.length : Nat) : Int) == (most : Int)) = false := beq_eq_false_iff_ne.2 (by omega)
  have FT := Lib.hid (flat_one (es.take (rk k es)))
  have FE := Lib.hid (eone (k, x, false))
  have FD := Lib.hid (flat_one (es.drop (rk k es)))
  have HW := Lib.hid hw
  clear hw hw1 ht hput hbad hne
  go_enter Try.func18, Try.ntmps18
  go_wp2_with (go_at_call 25; refine P.mono ?_; rintro e w' ⟨rfl, rfl⟩)
  go_quiet (fail)
  go_wp2_with fail
  go_quiet (fail)
  generalize hw2 : World.drewN (World.drewN (w.alloc (.cells #[.int .u64 k, .int .u64 x, .bool false] 27)) _) _ = w2
  have L2 : Below w.heap.size w w2 := by rw [← hw2]; exact drewN_below (drewN_below (below_new (Below.refl _ _) _) _) _
  have R2 : Blk w2 w.heap.size 27 #[.int .u64 k, .int .u64 x, .bool false] := by rw [← hw2]; exact R9
  clear hw2 c0 c1 q0 q1 q2 f0 f1 f2 R9
  have c1 : w2.cell? ⟨b, 1, none⟩ = some (.slice (some ⟨g, 0, none⟩) es.length cap) := (HW.out.below L2).blk.cell 1
  go_wp2_with (first | (at_builtin; refine wpList_append_any _ rfl (.tmp 53) (.tmp 59) 22 (by rfl) w.heap.size 27 i0 _ 3 24 Try.underlying22 hi hz0 hz1 hz2 rfl (by omega) (.slice none 0 0) 0 [] (by rfl) (World.ownsRow_nil _ _ _ _) w2.heap.size (some ⟨g, 0, none⟩) (rk k es) cap (flat (es.take (rk k es))) (by rfl) (Row.readsTake (HW.out.below L2).row hi1) FT.out (by unfold maxLen; omega) (by omega) L2.size ?_; intro v1 w3 hown1 hg1 hat1; have A1 := Lib.hid (app1 L2 hown1 hg1); obtain ⟨q0, q1, q2, -, -, -⟩ := Blk.cells3 (R2.chg A1.out.2.1 (fun h => h)); clear hown1 hg1 hat1) | (at_builtin; refine wpList_append_any _ rfl (.tmp 61) (.tmp 63) 22 (by rfl) w.heap.size 27 i0 _ 3 24 Try.underlying22 hi hz0 hz1 hz2 rfl (by omega) v1 (rk k es) (flat (es.take (rk k es))) (by rfl) (own_chg A1.out.1 ((Chg.refl (fun _ => False) w3).alloc _) (fun _ _ h => h)) (w3.heap.size + 1) (some ⟨w3.heap.size, 0, none⟩) 1 1 (ecells (k, x, false)) (by rfl) (Reads.of_blk (Blk.new _ _ _) (Nat.lt_succ_self _)) FE.out (by unfold maxLen; omega) (by omega) (below_new A1.out.2.2 _).size ?_; intro v2 w4 hown2 hg2 hat2; have A2 := Lib.hid (app2 A1.out.2.2 A1.out.1 hg2); have O2 := Lib.hid hown2; have c1 : w4.cell? ⟨b, 1, none⟩ = some (.slice (some ⟨g, 0, none⟩) es.length cap) := (HW.out.below A2.out).blk.cell 1; clear hown2 hg2 hat2) | (at_builtin; refine wpList_append_any _ rfl (.tmp 69) (.tmp 75) 22 (by rfl) w.heap.size 27 i0 _ 3 24 Try.underlying22 hi hz0 hz1 hz2 rfl (by omega) v2 (rk k es + 1) (flat (es.take (rk k es)) ++ ecells (k, x, false)) (by rfl) O2.out w4.heap.size (some ⟨g, (rk k es) * 3, none⟩) (es.length - (rk k es)) (cap - (rk k es)) (flat (es.drop (rk k es))) (by rfl) (Row.readsAt (HW.out.below A2.out).row (by omega)) FD.out (by unfold maxLen; omega) (by omega) A2.out.size ?_; intro v3 w5 hown3 hg3 hat3; have A3 := Lib.hid (app3 (s := rk k es) hi1 (by omega) A2.out O2.out (by omega) hown3 hg3); obtain ⟨A9, n9, c9, hv9⟩ := A3.out.1; subst hv9; have f1 : w5.frozen? ⟨b, 1, none⟩ = false := (HW.out.below A3.out.2.2).blk.free 1; have c2 : w5.cell? ⟨b, 1, none⟩ = some (.slice (some ⟨g, 0, none⟩) es.length cap) := (HW.out.below A3.out.2.2).blk.cell 1; clear hown3 hg3 hat3))
  go_ret
  exact RLeft.taken E.out HW.out A3.out.2.2 rfl A3.out.2.1

set_option maxHeartbeats 4000000 in
theorem rput_tTlc (b most : Nat) (es : List Ent) (k x : Int) (hlen : (es.length + 1) * 24 ≤ 140737488355328) (hbad : bad (k, x, true) = false) (hl : rk k es < es.length) (ht : there k es = true) (w : World) (g : Nat) (hw : Ref w b most es (.slice (some ⟨g, 0, none⟩) es.length (rk k es + 1))) :
    Calls Try.prog 18 #[.pointer (some ⟨b, 0, none⟩), .agg #[.int .u64 k, .int .u64 x, .bool true]] w (RLeft b most es (.slice (some ⟨g, 0, none⟩) es.length (rk k es + 1)) (k, x, true) w) := by
  obtain ⟨i0, hi, hz0, hz1, hz2⟩ := info_parts infoE
  have hw1 := hw.below (below_new (Below.refl _ _) (.cells #[.int .u64 k, .int .u64 x, .bool true] 27))
  have P := rplace_any b most es _ k (by omega) _ hw1
  have R9 := Blk.new w 27 #[.int .u64 k, .int .u64 x, .bool true]
  obtain ⟨q0, q1, q2, f0, f1, f2⟩ := Blk.cells3 R9
  have c0 : (w.alloc (.cells #[.int .u64 k, .int .u64 x, .bool true] 27)).cell? ⟨b, 0, none⟩ = some (.int .i64 most) := hw1.blk.cell 0
  have c1 : (w.alloc (.cells #[.int .u64 k, .int .u64 x, .bool true] 27)).cell? ⟨b, 1, none⟩ = some (.slice (some ⟨g, 0, none⟩) es.length (rk k es + 1)) := hw1.blk.cell 1
  have hput := putL_list (most := most) hbad (.inl ht)
  rw [ht] at hput
  simp only [if_true] at hput
  have E := Lib.hid hput
  have hi1 := rk_le k es
  obtain ⟨-, -, -, hcap, hmax, -, -⟩ := hw.row.cur
  unfold maxLen at hmax
  have b1 : (0 : Int) ≤ (rk k es : Int) := by omega
  have b0 : (rk k es : Int) ≤ (es.length : Int) := by omega
  obtain ⟨p0, p1, p2⟩ := hw1.row.cells hl
  have b2 : (rk k es : Int) < (es.length : Int) := by omega
  have hk : (es[rk k es].1 == k) = true := (there_test hl).trans ht
  have hx : (x != 0) = false := by simpa [bad] using hbad
  have FT := Lib.hid (flat_one (es.take (rk k es)))
  have FE := Lib.hid (eone (k, x, true))
  have FD := Lib.hid (flat_one (es.drop (rk k es + 1)))
  have HW := Lib.hid hw
  clear hw hw1 ht hput hbad
  go_enter Try.func18, Try.ntmps18
  go_wp2_with (go_at_call 25; refine P.mono ?_; rintro e w' ⟨rfl, rfl⟩)
  go_quiet (fail)
  go_wp2_with fail
  go_quiet (fail)
  generalize hw2 : World.drewN (World.drewN (w.alloc (.cells #[.int .u64 k, .int .u64 x, .bool true] 27)) _) _ = w2
  have L2 : Below w.heap.size w w2 := by rw [← hw2]; exact drewN_below (drewN_below (below_new (Below.refl _ _) _) _) _
  have R2 : Blk w2 w.heap.size 27 #[.int .u64 k, .int .u64 x, .bool true] := by rw [← hw2]; exact R9
  clear hw2 c0 c1 q0 q1 q2 f0 f1 f2 R9
  have c1 : w2.cell? ⟨b, 1, none⟩ = some (.slice (some ⟨g, 0, none⟩) es.length (rk k es + 1)) := (HW.out.below L2).blk.cell 1
  go_wp2_with (first | (at_builtin; refine wpList_append_any _ rfl (.tmp 53) (.tmp 59) 22 (by rfl) w.heap.size 27 i0 _ 3 24 Try.underlying22 hi hz0 hz1 hz2 rfl (by omega) (.slice none 0 0) 0 [] (by rfl) (World.ownsRow_nil _ _ _ _) w2.heap.size (some ⟨g, 0, none⟩) (rk k es) (rk k es + 1) (flat (es.take (rk k es))) (by rfl) (Row.readsTake (HW.out.below L2).row hi1) FT.out (by unfold maxLen; omega) (by omega) L2.size ?_; intro v1 w3 hown1 hg1 hat1; have A1 := Lib.hid (app1 L2 hown1 hg1); obtain ⟨q0, q1, q2, -, -, -⟩ := Blk.cells3 (R2.chg A1.out.2.1 (fun h => h)); clear hown1 hg1 hat1) | (at_builtin; refine wpList_append_any _ rfl (.tmp 61) (.tmp 63) 22 (by rfl) w.heap.size 27 i0 _ 3 24 Try.underlying22 hi hz0 hz1 hz2 rfl (by omega) v1 (rk k es) (flat (es.take (rk k es))) (by rfl) (own_chg A1.out.1 ((Chg.refl (fun _ => False) w3).alloc _) (fun _ _ h => h)) (w3.heap.size + 1) (some ⟨w3.heap.size, 0, none⟩) 1 1 (ecells (k, x, true)) (by rfl) (Reads.of_blk (Blk.new _ _ _) (Nat.lt_succ_self _)) FE.out (by unfold maxLen; omega) (by omega) (below_new A1.out.2.2 _).size ?_; intro v2 w4 hown2 hg2 hat2; have A2 := Lib.hid (app2 A1.out.2.2 A1.out.1 hg2); have O2 := Lib.hid hown2; have c1 : w4.cell? ⟨b, 1, none⟩ = some (.slice (some ⟨g, 0, none⟩) es.length (rk k es + 1)) := (HW.out.below A2.out).blk.cell 1; clear hown2 hg2 hat2) | (at_builtin; refine wpList_append_any _ rfl (.tmp 69) (.tmp 75) 22 (by rfl) w.heap.size 27 i0 _ 3 24 Try.underlying22 hi hz0 hz1 hz2 rfl (by omega) v2 (rk k es + 1) (flat (es.take (rk k es)) ++ ecells (k, x, true)) (by rfl) O2.out w4.heap.size _ 0 _ (flat (es.drop (rk k es + 1))) (by rfl) (reads_none (by omega)) FD.out (by unfold maxLen; omega) (by omega) A2.out.size ?_; intro v3 w5 hown3 hg3 hat3; have A3 := Lib.hid (app3 (s := rk k es + 1) hi1 (by omega) A2.out O2.out (by omega) hown3 hg3); obtain ⟨A9, n9, c9, hv9⟩ := A3.out.1; subst hv9; have f1 : w5.frozen? ⟨b, 1, none⟩ = false := (HW.out.below A3.out.2.2).blk.free 1; have c2 : w5.cell? ⟨b, 1, none⟩ = some (.slice (some ⟨g, 0, none⟩) es.length (rk k es + 1)) := (HW.out.below A3.out.2.2).blk.cell 1; clear hown3 hg3 hat3))
  go_ret
  exact RLeft.taken E.out HW.out A3.out.2.2 rfl A3.out.2.1

set_option maxHeartbeats 4000000 in
theorem rput_tTld (b most : Nat) (es : List Ent) (k x : Int) (hlen : (es.length + 1) * 24 ≤ 140737488355328) (hbad : bad (k, x, true) = false) (hl : rk k es < es.length) (ht : there k es = true) (w : World) (g cap : Nat) (hcp : cap ≠ rk k es + 1) (hw : Ref w b most es (.slice (some ⟨g, 0, none⟩) es.length cap)) :
    Calls Try.prog 18 #[.pointer (some ⟨b, 0, none⟩), .agg #[.int .u64 k, .int .u64 x, .bool true]] w (RLeft b most es (.slice (some ⟨g, 0, none⟩) es.length cap) (k, x, true) w) := by
  obtain ⟨i0, hi, hz0, hz1, hz2⟩ := info_parts infoE
  have hw1 := hw.below (below_new (Below.refl _ _) (.cells #[.int .u64 k, .int .u64 x, .bool true] 27))
  have P := rplace_any b most es _ k (by omega) _ hw1
  have R9 := Blk.new w 27 #[.int .u64 k, .int .u64 x, .bool true]
  obtain ⟨q0, q1, q2, f0, f1, f2⟩ := Blk.cells3 R9
  have c0 : (w.alloc (.cells #[.int .u64 k, .int .u64 x, .bool true] 27)).cell? ⟨b, 0, none⟩ = some (.int .i64 most) := hw1.blk.cell 0
  have c1 : (w.alloc (.cells #[.int .u64 k, .int .u64 x, .bool true] 27)).cell? ⟨b, 1, none⟩ = some (.slice (some ⟨g, 0, none⟩) es.length cap) := hw1.blk.cell 1
  have hput := putL_list (most := most) hbad (.inl ht)
  rw [ht] at hput
  simp only [if_true] at hput
  have E := Lib.hid hput
  have hi1 := rk_le k es
  obtain ⟨-, -, -, hcap, hmax, -, -⟩ := hw.row.cur
  unfold maxLen at hmax
  have b1 : (0 : Int) ≤ (rk k es : Int) := by omega
  have b0 : (rk k es : Int) ≤ (es.length : Int) := by omega
  obtain ⟨p0, p1, p2⟩ := hw1.row.cells hl
  have b2 : (rk k es : Int) < (es.length : Int) := by omega
  have hk : (es[rk k es].1 == k) = true := (there_test hl).trans ht
  have hx : (x != 0) = false := by simpa [bad] using hbad
  have FT := Lib.hid (flat_one (es.take (rk k es)))
  have FE := Lib.hid (eone (k, x, true))
  have FD := Lib.hid (flat_one (es.drop (rk k es + 1)))
  have HW := Lib.hid hw
  clear hw hw1 ht hput hbad
  go_enter Try.func18, Try.ntmps18
  go_wp2_with (go_at_call 25; refine P.mono ?_; rintro e w' ⟨rfl, rfl⟩)
  go_quiet (fail)
  go_wp2_with fail
  go_quiet (fail)
  generalize hw2 : World.drewN (World.drewN (w.alloc (.cells #[.int .u64 k, .int .u64 x, .bool true] 27)) _) _ = w2
  have L2 : Below w.heap.size w w2 := by rw [← hw2]; exact drewN_below (drewN_below (below_new (Below.refl _ _) _) _) _
  have R2 : Blk w2 w.heap.size 27 #[.int .u64 k, .int .u64 x, .bool true] := by rw [← hw2]; exact R9
  clear hw2 c0 c1 q0 q1 q2 f0 f1 f2 R9
  have c1 : w2.cell? ⟨b, 1, none⟩ = some (.slice (some ⟨g, 0, none⟩) es.length cap) := (HW.out.below L2).blk.cell 1
  go_wp2_with (first | (at_builtin; refine wpList_append_any _ rfl (.tmp 53) (.tmp 59) 22 (by rfl) w.heap.size 27 i0 _ 3 24 Try.underlying22 hi hz0 hz1 hz2 rfl (by omega) (.slice none 0 0) 0 [] (by rfl) (World.ownsRow_nil _ _ _ _) w2.heap.size (some ⟨g, 0, none⟩) (rk k es) cap (flat (es.take (rk k es))) (by rfl) (Row.readsTake (HW.out.below L2).row hi1) FT.out (by unfold maxLen; omega) (by omega) L2.size ?_; intro v1 w3 hown1 hg1 hat1; have A1 := Lib.hid (app1 L2 hown1 hg1); obtain ⟨q0, q1, q2, -, -, -⟩ := Blk.cells3 (R2.chg A1.out.2.1 (fun h => h)); clear hown1 hg1 hat1) | (at_builtin; refine wpList_append_any _ rfl (.tmp 61) (.tmp 63) 22 (by rfl) w.heap.size 27 i0 _ 3 24 Try.underlying22 hi hz0 hz1 hz2 rfl (by omega) v1 (rk k es) (flat (es.take (rk k es))) (by rfl) (own_chg A1.out.1 ((Chg.refl (fun _ => False) w3).alloc _) (fun _ _ h => h)) (w3.heap.size + 1) (some ⟨w3.heap.size, 0, none⟩) 1 1 (ecells (k, x, true)) (by rfl) (Reads.of_blk (Blk.new _ _ _) (Nat.lt_succ_self _)) FE.out (by unfold maxLen; omega) (by omega) (below_new A1.out.2.2 _).size ?_; intro v2 w4 hown2 hg2 hat2; have A2 := Lib.hid (app2 A1.out.2.2 A1.out.1 hg2); have O2 := Lib.hid hown2; have c1 : w4.cell? ⟨b, 1, none⟩ = some (.slice (some ⟨g, 0, none⟩) es.length cap) := (HW.out.below A2.out).blk.cell 1; clear hown2 hg2 hat2) | (at_builtin; refine wpList_append_any _ rfl (.tmp 69) (.tmp 75) 22 (by rfl) w.heap.size 27 i0 _ 3 24 Try.underlying22 hi hz0 hz1 hz2 rfl (by omega) v2 (rk k es + 1) (flat (es.take (rk k es)) ++ ecells (k, x, true)) (by rfl) O2.out w4.heap.size (some ⟨g, (rk k es + 1) * 3, none⟩) (es.length - (rk k es + 1)) (cap - (rk k es + 1)) (flat (es.drop (rk k es + 1))) (by rfl) (Row.readsAt (HW.out.below A2.out).row (by omega)) FD.out (by unfold maxLen; omega) (by omega) A2.out.size ?_; intro v3 w5 hown3 hg3 hat3; have A3 := Lib.hid (app3 (s := rk k es + 1) hi1 (by omega) A2.out O2.out (by omega) hown3 hg3); obtain ⟨A9, n9, c9, hv9⟩ := A3.out.1; subst hv9; have f1 : w5.frozen? ⟨b, 1, none⟩ = false := (HW.out.below A3.out.2.2).blk.free 1; have c2 : w5.cell? ⟨b, 1, none⟩ = some (.slice (some ⟨g, 0, none⟩) es.length cap) := (HW.out.below A3.out.2.2).blk.cell 1; clear hown3 hg3 hat3))
  go_ret
  exact RLeft.taken E.out HW.out A3.out.2.2 rfl A3.out.2.1

set_option maxHeartbeats 4000000 in
theorem rput_tNld (b most : Nat) (es : List Ent) (k x : Int) (hlen : (es.length + 1) * 24 ≤ 140737488355328) (hbad : bad (k, x, true) = false) (hl : rk k es < es.length) (ht : there k es = false) (hne : es.length ≠ most) (w : World) (g cap : Nat) (hcp : cap ≠ rk k es) (hw : Ref w b most es (.slice (some ⟨g, 0, none⟩) es.length cap)) :
    Calls Try.prog 18 #[.pointer (some ⟨b, 0, none⟩), .agg #[.int .u64 k, .int .u64 x, .bool true]] w (RLeft b most es (.slice (some ⟨g, 0, none⟩) es.length cap) (k, x, true) w) := by
  obtain ⟨i0, hi, hz0, hz1, hz2⟩ := info_parts infoE
  have hw1 := hw.below (below_new (Below.refl _ _) (.cells #[.int .u64 k, .int .u64 x, .bool true] 27))
  have P := rplace_any b most es _ k (by omega) _ hw1
  have R9 := Blk.new w 27 #[.int .u64 k, .int .u64 x, .bool true]
  obtain ⟨q0, q1, q2, f0, f1, f2⟩ := Blk.cells3 R9
  have c0 : (w.alloc (.cells #[.int .u64 k, .int .u64 x, .bool true] 27)).cell? ⟨b, 0, none⟩ = some (.int .i64 most) := hw1.blk.cell 0
  have c1 : (w.alloc (.cells #[.int .u64 k, .int .u64 x, .bool true] 27)).cell? ⟨b, 1, none⟩ = some (.slice (some ⟨g, 0, none⟩) es.length cap) := hw1.blk.cell 1
  have hput := putL_list (most := most) hbad (.inr ⟨ht, hne⟩)
  rw [ht] at hput
  simp only [Bool.false_eq_true, if_false] at hput
  have E := Lib.hid hput
  have hi1 := rk_le k es
  obtain ⟨-, -, -, hcap, hmax, -, -⟩ := hw.row.cur
  unfold maxLen at hmax
  have b1 : (0 : Int) ≤ (rk k es : Int) := by omega
  have b0 : (rk k es : Int) ≤ (es.length : Int) := by omega
  obtain ⟨p0, p1, p2⟩ := hw1.row.cells hl
  have b2 : (rk k es : Int) < (es.length : Int) := by omega
  have hk : (es[rk k es].1 == k) = false := (there_test hl).trans ht
  have hf : (((es.length : Nat) : Int) == (most : Int)) = false := beq_eq_false_iff_ne.2 (by omega)
  have hx : (x != 0) = false := by simpa [bad] using hbad
  have FT := Lib.hid (flat_one (es.take (rk k es)))
  have FE := Lib.hid (eone (k, x, true))
  have FD := Lib.hid (flat_one (es.drop (rk k es)))
  have HW := Lib.hid hw
  clear hw hw1 ht hput hbad hne
  go_enter Try.func18, Try.ntmps18
  go_wp2_with (go_at_call 25; refine P.mono ?_; rintro e w' ⟨rfl, rfl⟩)
  go_quiet (fail)
  go_wp2_with fail
  go_quiet (fail)
  generalize hw2 : World.drewN (World.drewN (w.alloc (.cells #[.int .u64 k, .int .u64 x, .bool true] 27)) _) _ = w2
  have L2 : Below w.heap.size w w2 := by rw [← hw2]; exact drewN_below (drewN_below (below_new (Below.refl _ _) _) _) _
  have R2 : Blk w2 w.heap.size 27 #[.int .u64 k, .int .u64 x, .bool true] := by rw [← hw2]; exact R9
  clear hw2 c0 c1 q0 q1 q2 f0 f1 f2 R9
  have c1 : w2.cell? ⟨b, 1, none⟩ = some (.slice (some ⟨g, 0, none⟩) es.length cap) := (HW.out.below L2).blk.cell 1
  go_wp2_with (first | (at_builtin; refine wpList_append_any _ rfl (.tmp 53) (.tmp 59) 22 (by rfl) w.heap.size 27 i0 _ 3 24 Try.underlying22 hi hz0 hz1 hz2 rfl (by omega) (.slice none 0 0) 0 [] (by rfl) (World.ownsRow_nil _ _ _ _) w2.heap.size (some ⟨g, 0, none⟩) (rk k es) cap (flat (es.take (rk k es))) (by rfl) (Row.readsTake (HW.out.below L2).row hi1) FT.out (by unfold maxLen; omega) (by omega) L2.size ?_; intro v1 w3 hown1 hg1 hat1; have A1 := Lib.hid (app1 L2 hown1 hg1); obtain ⟨q0, q1, q2, -, -, -⟩ := Blk.cells3 (R2.chg A1.out.2.1 (fun h => h)); clear hown1 hg1 hat1) | (at_builtin; refine wpList_append_any _ rfl (.tmp 61) (.tmp 63) 22 (by rfl) w.heap.size 27 i0 _ 3 24 Try.underlying22 hi hz0 hz1 hz2 rfl (by omega) v1 (rk k es) (flat (es.take (rk k es))) (by rfl) (own_chg A1.out.1 ((Chg.refl (fun _ => False) w3).alloc _) (fun _ _ h => h)) (w3.heap.size + 1) (some ⟨w3.heap.size, 0, none⟩) 1 1 (ecells (k, x, true)) (by rfl) (Reads.of_blk (Blk.new _ _ _) (Nat.lt_succ_self _)) FE.out (by unfold maxLen; omega) (by omega) (below_new A1.out.2.2 _).size ?_; intro v2 w4 hown2 hg2 hat2; have A2 := Lib.hid (app2 A1.out.2.2 A1.out.1 hg2); have O2 := Lib.hid hown2; have c1 : w4.cell? ⟨b, 1, none⟩ = some (.slice (some ⟨g, 0, none⟩) es.length cap) := (HW.out.below A2.out).blk.cell 1; clear hown2 hg2 hat2) | (at_builtin; refine wpList_append_any _ rfl (.tmp 69) (.tmp 75) 22 (by rfl) w.heap.size 27 i0 _ 3 24 Try.underlying22 hi hz0 hz1 hz2 rfl (by omega) v2 (rk k es + 1) (flat (es.take (rk k es)) ++ ecells (k, x, true)) (by rfl) O2.out w4.heap.size (some ⟨g, (rk k es) * 3, none⟩) (es.length - (rk k es)) (cap - (rk k es)) (flat (es.drop (rk k es))) (by rfl) (Row.readsAt (HW.out.below A2.out).row (by omega)) FD.out (by unfold maxLen; omega) (by omega) A2.out.size ?_; intro v3 w5 hown3 hg3 hat3; have A3 := Lib.hid (app3 (s := rk k es) hi1 (by omega) A2.out O2.out (by omega) hown3 hg3); obtain ⟨A9, n9, c9, hv9⟩ := A3.out.1; subst hv9; have f1 : w5.frozen? ⟨b, 1, none⟩ = false := (HW.out.below A3.out.2.2).blk.free 1; have c2 : w5.cell? ⟨b, 1, none⟩ = some (.slice (some ⟨g, 0, none⟩) es.length cap) := (HW.out.below A3.out.2.2).blk.cell 1; clear hown3 hg3 hat3))
  go_ret
  exact RLeft.taken E.out HW.out A3.out.2.2 rfl A3.out.2.1

set_option maxHeartbeats 4000000 in
theorem rput_tNec (b most : Nat) (es : List Ent) (k x : Int) (hlen : (es.length + 1) * 24 ≤ 140737488355328) (hbad : bad (k, x, true) = false) (hl : ¬ rk k es < es.length) (ht : there k es = false) (hne : es.length ≠ most) (w : World) (g : Nat) (hw : Ref w b most es (.slice (some ⟨g, 0, none⟩) es.length (rk k es))) :
    Calls Try.prog 18 #[.pointer (some ⟨b, 0, none⟩), .agg #[.int .u64 k, .int .u64 x, .bool true]] w (RLeft b most es (.slice (some ⟨g, 0, none⟩) es.length (rk k es)) (k, x, true) w) := by
  obtain ⟨i0, hi, hz0, hz1, hz2⟩ := info_parts infoE
  have hw1 := hw.below (below_new (Below.refl _ _) (.cells #[.int .u64 k, .int .u64 x, .bool true] 27))
  have P := rplace_any b most es _ k (by omega) _ hw1
  have R9 := Blk.new w 27 #[.int .u64 k, .int .u64 x, .bool true]
  obtain ⟨q0, q1, q2, f0, f1, f2⟩ := Blk.cells3 R9
  have c0 : (w.alloc (.cells #[.int .u64 k, .int .u64 x, .bool true] 27)).cell? ⟨b, 0, none⟩ = some (.int .i64 most) := hw1.blk.cell 0
  have c1 : (w.alloc (.cells #[.int .u64 k, .int .u64 x, .bool true] 27)).cell? ⟨b, 1, none⟩ = some (.slice (some ⟨g, 0, none⟩) es.length (rk k es)) := hw1.blk.cell 1
  have hput := putL_list (most := most) hbad (.inr ⟨ht, hne⟩)
  rw [ht] at hput
  simp only [Bool.false_eq_true, if_false] at hput
  have E := Lib.hid hput
  have hi1 := rk_le k es
  obtain ⟨-, -, -, hcap, hmax, -, -⟩ := hw.row.cur
  unfold maxLen at hmax
  have b1 : (0 : Int) ≤ (rk k es : Int) := by omega
  have b0 : (rk k es : Int) ≤ (es.length : Int) := by omega
  have b3 : decide ((rk k es : Int) < (es.length : Int)) = false := decide_eq_false (by omega)
  have hf : (((es.length : Nat) : Int) == (most : Int)) = false := beq_eq_false_iff_ne.2 (by omega)
  have hx : (x != 0) = false := by simpa [bad] using hbad
  have FT := Lib.hid (flat_one (es.take (rk k es)))
  have FE := Lib.hid (eone (k, x, true))
  have FD := Lib.hid (flat_one (es.drop (rk k es)))
  have HW := Lib.hid hw
  clear hw hw1 ht hput hbad hne
  go_enter Try.func18, Try.ntmps18
  go_wp2_with (go_at_call 25; refine P.mono ?_; rintro e w' ⟨rfl, rfl⟩)
  go_quiet (fail)
  go_wp2_with fail
  go_quiet (fail)
  generalize hw2 : World.drewN (World.drewN (w.alloc (.cells #[.int .u64 k, .int .u64 x, .bool true] 27)) _) _ = w2
  have L2 : Below w.heap.size w w2 := by rw [← hw2]; exact drewN_below (drewN_below (below_new (Below.refl _ _) _) _) _
  have R2 : Blk w2 w.heap.size 27 #[.int .u64 k, .int .u64 x, .bool true] := by rw [← hw2]; exact R9
  clear hw2 c0 c1 q0 q1 q2 f0 f1 f2 R9
  have c1 : w2.cell? ⟨b, 1, none⟩ = some (.slice (some ⟨g, 0, none⟩) es.length (rk k es)) := (HW.out.below L2).blk.cell 1
  go_wp2_with (first | (at_builtin; refine wpList_append_any _ rfl (.tmp 53) (.tmp 59) 22 (by rfl) w.heap.size 27 i0 _ 3 24 Try.underlying22 hi hz0 hz1 hz2 rfl (by omega) (.slice none 0 0) 0 [] (by rfl) (World.ownsRow_nil _ _ _ _) w2.heap.size (some ⟨g, 0, none⟩) (rk k es) (rk k es) (flat (es.take (rk k es))) (by rfl) (Row.readsTake (HW.out.below L2).row hi1) FT.out (by unfold maxLen; omega) (by omega) L2.size ?_; intro v1 w3 hown1 hg1 hat1; have A1 := Lib.hid (app1 L2 hown1 hg1); obtain ⟨q0, q1, q2, -, -, -⟩ := Blk.cells3 (R2.chg A1.out.2.1 (fun h => h)); clear hown1 hg1 hat1) | (at_builtin; refine wpList_append_any _ rfl (.tmp 61) (.tmp 63) 22 (by rfl) w.heap.size 27 i0 _ 3 24 Try.underlying22 hi hz0 hz1 hz2 rfl (by omega) v1 (rk k es) (flat (es.take (rk k es))) (by rfl) (own_chg A1.out.1 ((Chg.refl (fun _ => False) w3).alloc _) (fun _ _ h => h)) (w3.heap.size + 1) (some ⟨w3.heap.size, 0, none⟩) 1 1 (ecells (k, x, true)) (by rfl) (Reads.of_blk (Blk.new _ _ _) (Nat.lt_succ_self _)) FE.out (by unfold maxLen; omega) (by omega) (below_new A1.out.2.2 _).size ?_; intro v2 w4 hown2 hg2 hat2; have A2 := Lib.hid (app2 A1.out.2.2 A1.out.1 hg2); have O2 := Lib.hid hown2; have c1 : w4.cell? ⟨b, 1, none⟩ = some (.slice (some ⟨g, 0, none⟩) es.length (rk k es)) := (HW.out.below A2.out).blk.cell 1; clear hown2 hg2 hat2) | (at_builtin; refine wpList_append_any _ rfl (.tmp 69) (.tmp 75) 22 (by rfl) w.heap.size 27 i0 _ 3 24 Try.underlying22 hi hz0 hz1 hz2 rfl (by omega) v2 (rk k es + 1) (flat (es.take (rk k es)) ++ ecells (k, x, true)) (by rfl) O2.out w4.heap.size _ 0 _ (flat (es.drop (rk k es))) (by rfl) (reads_none (by omega)) FD.out (by unfold maxLen; omega) (by omega) A2.out.size ?_; intro v3 w5 hown3 hg3 hat3; have A3 := Lib.hid (app3 (s := rk k es) hi1 (by omega) A2.out O2.out (by omega) hown3 hg3); obtain ⟨A9, n9, c9, hv9⟩ := A3.out.1; subst hv9; have f1 : w5.frozen? ⟨b, 1, none⟩ = false := (HW.out.below A3.out.2.2).blk.free 1; have c2 : w5.cell? ⟨b, 1, none⟩ = some (.slice (some ⟨g, 0, none⟩) es.length (rk k es)) := (HW.out.below A3.out.2.2).blk.cell 1; clear hown3 hg3 hat3))
  go_ret
  exact RLeft.taken E.out HW.out A3.out.2.2 rfl A3.out.2.1

set_option maxHeartbeats 4000000 in
theorem rput_tNed (b most : Nat) (es : List Ent) (k x : Int) (hlen : (es.length + 1) * 24 ≤ 140737488355328) (hbad : bad (k, x, true) = false) (hl : ¬ rk k es < es.length) (ht : there k es = false) (hne : es.length ≠ most) (w : World) (g cap : Nat) (hcp : cap ≠ rk k es) (hw : Ref w b most es (.slice (some ⟨g, 0, none⟩) es.length cap)) :
    Calls Try.prog 18 #[.pointer (some ⟨b, 0, none⟩), .agg #[.int .u64 k, .int .u64 x, .bool true]] w (RLeft b most es (.slice (some ⟨g, 0, none⟩) es.length cap) (k, x, true) w) := by
  obtain ⟨i0, hi, hz0, hz1, hz2⟩ := info_parts infoE
  have hw1 := hw.below (below_new (Below.refl _ _) (.cells #[.int .u64 k, .int .u64 x, .bool true] 27))
  have P := rplace_any b most es _ k (by omega) _ hw1
  have R9 := Blk.new w 27 #[.int .u64 k, .int .u64 x, .bool true]
  obtain ⟨q0, q1, q2, f0, f1, f2⟩ := Blk.cells3 R9
  have c0 : (w.alloc (.cells #[.int .u64 k, .int .u64 x, .bool true] 27)).cell? ⟨b, 0, none⟩ = some (.int .i64 most) := hw1.blk.cell 0
  have c1 : (w.alloc (.cells #[.int .u64 k, .int .u64 x, .bool true] 27)).cell? ⟨b, 1, none⟩ = some (.slice (some ⟨g, 0, none⟩) es.length cap) := hw1.blk.cell 1
  have hput := putL_list (most := most) hbad (.inr ⟨ht, hne⟩)
  rw [ht] at hput
  simp only [Bool.false_eq_true, if_false] at hput
  have E := Lib.hid hput
  have hi1 := rk_le k es
  obtain ⟨-, -, -, hcap, hmax, -, -⟩ := hw.row.cur
  unfold maxLen at hmax
  have b1 : (0 : Int) ≤ (rk k es : Int) := by omega
  have b0 : (rk k es : Int) ≤ (es.length : Int) := by omega
  have b3 : decide ((rk k es : Int) < (es.length : Int)) = false := decide_eq_false (by omega)
  have hf : (((es.length : Nat) : Int) == (most : Int)) = false := beq_eq_false_iff_ne.2 (by omega)
  have hx : (x != 0) = false := by simpa [bad] using hbad
  have FT := Lib.hid (flat_one (es.take (rk k es)))
  have FE := Lib.hid (eone (k, x, true))
  have FD := Lib.hid (flat_one (es.drop (rk k es)))
  have HW := Lib.hid hw
  clear hw hw1 ht hput hbad hne
  go_enter Try.func18, Try.ntmps18
  go_wp2_with (go_at_call 25; refine P.mono ?_; rintro e w' ⟨rfl, rfl⟩)
  go_quiet (fail)
  go_wp2_with fail
  go_quiet (fail)
  generalize hw2 : World.drewN (World.drewN (w.alloc (.cells #[.int .u64 k, .int .u64 x, .bool true] 27)) _) _ = w2
  have L2 : Below w.heap.size w w2 := by rw [← hw2]; exact drewN_below (drewN_below (below_new (Below.refl _ _) _) _) _
  have R2 : Blk w2 w.heap.size 27 #[.int .u64 k, .int .u64 x, .bool true] := by rw [← hw2]; exact R9
  clear hw2 c0 c1 q0 q1 q2 f0 f1 f2 R9
  have c1 : w2.cell? ⟨b, 1, none⟩ = some (.slice (some ⟨g, 0, none⟩) es.length cap) := (HW.out.below L2).blk.cell 1
  go_wp2_with (first | (at_builtin; refine wpList_append_any _ rfl (.tmp 53) (.tmp 59) 22 (by rfl) w.heap.size 27 i0 _ 3 24 Try.underlying22 hi hz0 hz1 hz2 rfl (by omega) (.slice none 0 0) 0 [] (by rfl) (World.ownsRow_nil _ _ _ _) w2.heap.size (some ⟨g, 0, none⟩) (rk k es) cap (flat (es.take (rk k es))) (by rfl) (Row.readsTake (HW.out.below L2).row hi1) FT.out (by unfold maxLen; omega) (by omega) L2.size ?_; intro v1 w3 hown1 hg1 hat1; have A1 := Lib.hid (app1 L2 hown1 hg1); obtain ⟨q0, q1, q2, -, -, -⟩ := Blk.cells3 (R2.chg A1.out.2.1 (fun h => h)); clear hown1 hg1 hat1) | (at_builtin; refine wpList_append_any _ rfl (.tmp 61) (.tmp 63) 22 (by rfl) w.heap.size 27 i0 _ 3 24 Try.underlying22 hi hz0 hz1 hz2 rfl (by omega) v1 (rk k es) (flat (es.take (rk k es))) (by rfl) (own_chg A1.out.1 ((Chg.refl (fun _ => False) w3).alloc _) (fun _ _ h => h)) (w3.heap.size + 1) (some ⟨w3.heap.size, 0, none⟩) 1 1 (ecells (k, x, true)) (by rfl) (Reads.of_blk (Blk.new _ _ _) (Nat.lt_succ_self _)) FE.out (by unfold maxLen; omega) (by omega) (below_new A1.out.2.2 _).size ?_; intro v2 w4 hown2 hg2 hat2; have A2 := Lib.hid (app2 A1.out.2.2 A1.out.1 hg2); have O2 := Lib.hid hown2; have c1 : w4.cell? ⟨b, 1, none⟩ = some (.slice (some ⟨g, 0, none⟩) es.length cap) := (HW.out.below A2.out).blk.cell 1; clear hown2 hg2 hat2) | (at_builtin; refine wpList_append_any _ rfl (.tmp 69) (.tmp 75) 22 (by rfl) w.heap.size 27 i0 _ 3 24 Try.underlying22 hi hz0 hz1 hz2 rfl (by omega) v2 (rk k es + 1) (flat (es.take (rk k es)) ++ ecells (k, x, true)) (by rfl) O2.out w4.heap.size (some ⟨g, (rk k es) * 3, none⟩) (es.length - (rk k es)) (cap - (rk k es)) (flat (es.drop (rk k es))) (by rfl) (Row.readsAt (HW.out.below A2.out).row (by omega)) FD.out (by unfold maxLen; omega) (by omega) A2.out.size ?_; intro v3 w5 hown3 hg3 hat3; have A3 := Lib.hid (app3 (s := rk k es) hi1 (by omega) A2.out O2.out (by omega) hown3 hg3); obtain ⟨A9, n9, c9, hv9⟩ := A3.out.1; subst hv9; have f1 : w5.frozen? ⟨b, 1, none⟩ = false := (HW.out.below A3.out.2.2).blk.free 1; have c2 : w5.cell? ⟨b, 1, none⟩ = some (.slice (some ⟨g, 0, none⟩) es.length cap) := (HW.out.below A3.out.2.2).blk.cell 1; clear hown3 hg3 hat3))
  go_ret
  exact RLeft.taken E.out HW.out A3.out.2.2 rfl A3.out.2.1

set_option maxHeartbeats 4000000 in
theorem rput_fZ (b most : Nat) (k x : Int) (hbad : bad (k, x, false) = false) (hne : 0 ≠ most) (w : World) (hw : Ref w b most [] (.slice none 0 0)) :
    Calls Try.prog 18 #[.pointer (some ⟨b, 0, none⟩), .agg #[.int .u64 k, .int .u64 x, .bool false]] w (RLeft b most [] (.slice none 0 0) (k, x, false) w) := by
  obtain ⟨i0, hi, hz0, hz1, hz2⟩ := info_parts infoE
  have hw1 := hw.below (below_new (Below.refl _ _) (.cells #[.int .u64 k, .int .u64 x, .bool false] 27))
  have P := rplace_any b most [] _ k (by simp) _ hw1
  have e0 : ((rk k [] : Nat) : Int) = 0 := rfl
  rw [e0] at P
  clear e0
  have R9 := Blk.new w 27 #[.int .u64 k, .int .u64 x, .bool false]
  obtain ⟨q0, q1, q2, f0, f1, f2⟩ := Blk.cells3 R9
  have c0 : (w.alloc (.cells #[.int .u64 k, .int .u64 x, .bool false] 27)).cell? ⟨b, 0, none⟩ = some (.int .i64 most) := hw1.blk.cell 0
  have c1 : (w.alloc (.cells #[.int .u64 k, .int .u64 x, .bool false] 27)).cell? ⟨b, 1, none⟩ = some (.slice none 0 0) := hw1.blk.cell 1
  have E : Hid (putL most [] (k, x, false) = ([].take 0 ++ (k, x, false) :: [].drop 0, 0)) := Lib.hid (putL_new (es := []) hbad rfl (by simpa using hne))
  have hf : ((0 : Int) == (most : Int)) = false := beq_eq_false_iff_ne.2 (by omega)
  have FT : Hid (∀ u ∈ flat [], u.oneCell' = true) := Lib.hid (flat_one [])
  have FE := Lib.hid (eone (k, x, false))
  have FD := Lib.hid (flat_one (([] : List Ent).drop 0))
  have HW := Lib.hid hw
  clear hw hw1 hbad hne
  go_enter Try.func18, Try.ntmps18
  go_wp2_with (go_at_call 25; refine P.mono ?_; rintro e w' ⟨rfl, rfl⟩)
  go_quiet (fail)
  go_wp2_with fail
  go_quiet (fail)
  generalize hw2 : World.drewN (World.drewN (w.alloc (.cells #[.int .u64 k, .int .u64 x, .bool false] 27)) _) _ = w2
  have L2 : Below w.heap.size w w2 := by rw [← hw2]; exact drewN_below (drewN_below (below_new (Below.refl _ _) _) _) _
  have R2 : Blk w2 w.heap.size 27 #[.int .u64 k, .int .u64 x, .bool false] := by rw [← hw2]; exact R9
  clear hw2 c0 c1 q0 q1 q2 f0 f1 f2 R9
  obtain ⟨q0, q1, q2, -, -, -⟩ := Blk.cells3 R2
  have c1 : w2.cell? ⟨b, 1, none⟩ = some (.slice none 0 0) := (HW.out.below L2).blk.cell 1
  go_wp2_with (first | (at_builtin; refine wpList_append_any _ rfl (.tmp 61) (.tmp 63) 22 (by rfl) w.heap.size 27 i0 _ 3 24 Try.underlying22 hi hz0 hz1 hz2 rfl (by omega) (.slice none 0 0) 0 [] (by rfl) (World.ownsRow_nil _ _ _ _) (w2.heap.size + 1) (some ⟨w2.heap.size, 0, none⟩) 1 1 (ecells (k, x, false)) (by rfl) (Reads.of_blk (Blk.new _ _ _) (Nat.lt_succ_self _)) FE.out (by unfold maxLen; omega) (by omega) (below_new L2 _).size ?_; intro v2 w4 hown2 hg2 hat2; have A2 := Lib.hid (app2 (i := 0) (cs := []) L2 (World.ownsRow_nil _ _ _ _) hg2); have O2 := Lib.hid hown2; have c1 : w4.cell? ⟨b, 1, none⟩ = some (.slice none 0 0) := (HW.out.below A2.out).blk.cell 1; clear hown2 hg2 hat2) | (at_builtin; refine wpList_append_any _ rfl (.tmp 69) (.tmp 75) 22 (by rfl) w.heap.size 27 i0 _ 3 24 Try.underlying22 hi hz0 hz1 hz2 rfl (by omega) v2 (0 + 1) ([] ++ ecells (k, x, false)) (by rfl) O2.out w4.heap.size none 0 0 [] (by rfl) Reads.none_ (fun _ h => absurd h (by simp)) (by unfold maxLen; omega) (by omega) A2.out.size ?_; intro v3 w5 hown3 hg3 hat3; have A3 := Lib.hid (app3 (es := []) (i := 0) (s := 0) (m := 0) (Nat.le_refl _) (Nat.le_refl _) A2.out O2.out rfl hown3 hg3); obtain ⟨A9, n9, c9, hv9⟩ := A3.out.1; subst hv9; have f1 : w5.frozen? ⟨b, 1, none⟩ = false := (HW.out.below A3.out.2.2).blk.free 1; have c2 : w5.cell? ⟨b, 1, none⟩ = some (.slice none 0 0) := (HW.out.below A3.out.2.2).blk.cell 1; clear hown3 hg3 hat3))
  go_ret
  exact RLeft.taken E.out HW.out A3.out.2.2 rfl A3.out.2.1

set_option maxHeartbeats 4000000 in
theorem rput_tZ (b most : Nat) (k x : Int) (hbad : bad (k, x, true) = false) (hne : 0 ≠ most) (w : World) (hw : Ref w b most [] (.slice none 0 0)) :
    Calls Try.prog 18 #[.pointer (some ⟨b, 0, none⟩), .agg #[.int .u64 k, .int .u64 x, .bool true]] w (RLeft b most [] (.slice none 0 0) (k, x, true) w) := by
  obtain ⟨i0, hi, hz0, hz1, hz2⟩ := info_parts infoE
  have hw1 := hw.below (below_new (Below.refl _ _) (.cells #[.int .u64 k, .int .u64 x, .bool true] 27))
  have P := rplace_any b most [] _ k (by simp) _ hw1
  have e0 : ((rk k [] : Nat) : Int) = 0 := rfl
  rw [e0] at P
  clear e0
  have R9 := Blk.new w 27 #[.int .u64 k, .int .u64 x, .bool true]
  obtain ⟨q0, q1, q2, f0, f1, f2⟩ := Blk.cells3 R9
  have c0 : (w.alloc (.cells #[.int .u64 k, .int .u64 x, .bool true] 27)).cell? ⟨b, 0, none⟩ = some (.int .i64 most) := hw1.blk.cell 0
  have c1 : (w.alloc (.cells #[.int .u64 k, .int .u64 x, .bool true] 27)).cell? ⟨b, 1, none⟩ = some (.slice none 0 0) := hw1.blk.cell 1
  have E : Hid (putL most [] (k, x, true) = ([].take 0 ++ (k, x, true) :: [].drop 0, 0)) := Lib.hid (putL_new (es := []) hbad rfl (by simpa using hne))
  have hf : ((0 : Int) == (most : Int)) = false := beq_eq_false_iff_ne.2 (by omega)
  have hx : (x != 0) = false := by simpa [bad] using hbad
  have FT : Hid (∀ u ∈ flat [], u.oneCell' = true) := Lib.hid (flat_one [])
  have FE := Lib.hid (eone (k, x, true))
  have FD := Lib.hid (flat_one (([] : List Ent).drop 0))
  have HW := Lib.hid hw
  clear hw hw1 hbad hne
  go_enter Try.func18, Try.ntmps18
  go_wp2_with (go_at_call 25; refine P.mono ?_; rintro e w' ⟨rfl, rfl⟩)
  go_quiet (fail)
  go_wp2_with fail
  go_quiet (fail)
  generalize hw2 : World.drewN (World.drewN (w.alloc (.cells #[.int .u64 k, .int .u64 x, .bool true] 27)) _) _ = w2
  have L2 : Below w.heap.size w w2 := by rw [← hw2]; exact drewN_below (drewN_below (below_new (Below.refl _ _) _) _) _
  have R2 : Blk w2 w.heap.size 27 #[.int .u64 k, .int .u64 x, .bool true] := by rw [← hw2]; exact R9
  clear hw2 c0 c1 q0 q1 q2 f0 f1 f2 R9
  obtain ⟨q0, q1, q2, -, -, -⟩ := Blk.cells3 R2
  have c1 : w2.cell? ⟨b, 1, none⟩ = some (.slice none 0 0) := (HW.out.below L2).blk.cell 1
  go_wp2_with (first | (at_builtin; refine wpList_append_any _ rfl (.tmp 61) (.tmp 63) 22 (by rfl) w.heap.size 27 i0 _ 3 24 Try.underlying22 hi hz0 hz1 hz2 rfl (by omega) (.slice none 0 0) 0 [] (by rfl) (World.ownsRow_nil _ _ _ _) (w2.heap.size + 1) (some ⟨w2.heap.size, 0, none⟩) 1 1 (ecells (k, x, true)) (by rfl) (Reads.of_blk (Blk.new _ _ _) (Nat.lt_succ_self _)) FE.out (by unfold maxLen; omega) (by omega) (below_new L2 _).size ?_; intro v2 w4 hown2 hg2 hat2; have A2 := Lib.hid (app2 (i := 0) (cs := []) L2 (World.ownsRow_nil _ _ _ _) hg2); have O2 := Lib.hid hown2; have c1 : w4.cell? ⟨b, 1, none⟩ = some (.slice none 0 0) := (HW.out.below A2.out).blk.cell 1; clear hown2 hg2 hat2) | (at_builtin; refine wpList_append_any _ rfl (.tmp 69) (.tmp 75) 22 (by rfl) w.heap.size 27 i0 _ 3 24 Try.underlying22 hi hz0 hz1 hz2 rfl (by omega) v2 (0 + 1) ([] ++ ecells (k, x, true)) (by rfl) O2.out w4.heap.size none 0 0 [] (by rfl) Reads.none_ (fun _ h => absurd h (by simp)) (by unfold maxLen; omega) (by omega) A2.out.size ?_; intro v3 w5 hown3 hg3 hat3; have A3 := Lib.hid (app3 (es := []) (i := 0) (s := 0) (m := 0) (Nat.le_refl _) (Nat.le_refl _) A2.out O2.out rfl hown3 hg3); obtain ⟨A9, n9, c9, hv9⟩ := A3.out.1; subst hv9; have f1 : w5.frozen? ⟨b, 1, none⟩ = false := (HW.out.below A3.out.2.2).blk.free 1; have c2 : w5.cell? ⟨b, 1, none⟩ = some (.slice none 0 0) := (HW.out.below A3.out.2.2).blk.cell 1; clear hown3 hg3 hat3))
  go_ret
  exact RLeft.taken E.out HW.out A3.out.2.2 rfl A3.out.2.1

/-- Whatever the entry: what the reference's put does. -/
theorem rput_any (b most : Nat) (es : List Ent) (v : Value) (e : Ent) (hlen : (es.length + 1) * 24 ≤ 140737488355328) (w : World) (hw : Ref w b most es v) :
    Calls Try.prog 18 #[.pointer (some ⟨b, 0, none⟩), .agg #[.int .u64 e.1, .int .u64 e.2.1, .bool e.2.2]] w (RLeft b most es v e w) := by
  obtain ⟨k, x, z⟩ := e
  by_cases hb : bad (k, x, z) = true
  · cases z
    · simp [bad] at hb
    · exact rput_bad b most es v k x (by simpa [bad] using hb) w hw
  have hb : bad (k, x, z) = false := by simpa using hb
  by_cases hff : there k es = false ∧ es.length = most
  · exact rput_full b most es v k x z (by omega) hb hff.1 hff.2 w hw
  rcases hw.row.form with ⟨rfl, rfl⟩ | ⟨g, cap, rfl, _⟩
  · have hne : 0 ≠ most := fun h => hff ⟨rfl, by simpa using h⟩
    cases z
    · exact rput_fZ b most k x hb hne w hw
    · exact rput_tZ b most k x hb hne w hw
  by_cases ht : there k es = true
  · have hl := there_lt ht
    by_cases hc : cap = rk k es + 1
    · subst hc
      cases z
      · exact rput_fTlc b most es k x hlen hb hl ht w g hw
      · exact rput_tTlc b most es k x hlen hb hl ht w g hw
    · cases z
      · exact rput_fTld b most es k x hlen hb hl ht w g cap hc hw
      · exact rput_tTld b most es k x hlen hb hl ht w g cap hc hw
  · have ht : there k es = false := by simpa using ht
    have hne : es.length ≠ most := fun h => hff ⟨ht, h⟩
    by_cases hl : rk k es < es.length
    · have hc : cap ≠ rk k es := by have := hw.row.cur.2; obtain ⟨-, -, hcap, -⟩ := this; omega
      cases z
      · exact rput_fNld b most es k x hlen hb hl ht hne w g cap hc hw
      · exact rput_tNld b most es k x hlen hb hl ht hne w g cap hc hw
    · by_cases hc : cap = rk k es
      · subst hc
        cases z
        · exact rput_fNec b most es k x hlen hb hl ht hne w g hw
        · exact rput_tNec b most es k x hlen hb hl ht hne w g hw
      · cases z
        · exact rput_fNed b most es k x hlen hb hl ht hne w g cap hc hw
        · exact rput_tNed b most es k x hlen hb hl ht hne w g cap hc hw
end Go.Proofs.Ytalhfjcopkmmlaa
