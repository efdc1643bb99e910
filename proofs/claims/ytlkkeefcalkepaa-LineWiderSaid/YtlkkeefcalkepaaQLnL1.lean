/-
  The laws LineOf, LineAt, LineFits: their walks.
-/
import Derived.Test.YtlkkeefcalkepaaQLnShown
import Derived.Test.YtlkkeefcalkepaaQG6
import Derived.Test.YtlkkeefcalkepaaQG5
namespace Go.Proofs.Ytlkkeefcalkepaa
open Go.RowKit
set_option linter.unusedVariables false
set_option linter.unusedSimpArgs false

attribute [local go_sem high] eqLine
theorem of_post {A : Option Addr} {c : Nat} {L : List Int} {eps : Int} {w : World} (hL : U64s L) (hn : L.length ≤ 17592186044416) (hA : ArgU w A L) {r : Ln × Int} (hr : lineOf L eps = r) :
    Calls Try.prog 12 #[.slice A L.length c, .int .i64 eps] w fun e w' => e = .returned (.tuple #[.agg #[.int .u64 r.1.1, .int .u64 r.1.2.1, .int .i64 r.1.2.2], .int .i64 r.2]) ∧ Below w.heap.size w w' := by
  have := Of_any A c L eps hL hn w hA
  unfold OfPost at this
  rwa [hr] at this
theorem refOf_post {A : Option Addr} {c : Nat} {L : List Int} {eps : Int} {w : World} (hL : U64s L) (hn : L.length ≤ 17592186044416) (hA : ArgU w A L) {r : Ln × Int} (hr : lineOf L eps = r) :
    Calls Try.prog 13 #[.slice A L.length c, .int .i64 eps] w fun e w' => e = .returned (.tuple #[.agg #[.int .u64 r.1.1, .int .u64 r.1.2.1, .int .i64 r.1.2.2], .int .i64 r.2]) ∧ Below w.heap.size w w' := by
  have := refOf_any A c L eps hL hn w hA
  unfold OfPost at this
  rwa [hr] at this
set_option maxHeartbeats 4000000 in
set_option maxRecDepth 10000 in
theorem lineOf_walk (A : Option Addr) (c : Nat) (L : List Int) (hL : U64s L) (hn : L.length ≤ 17592186044416) (eps : Int) (w : World) (hA : ArgU w A L) :
    Calls Try.prog 3 #[.slice A L.length c, .int .i64 eps] w fun e w' => e = .returned (.bool true) ∧ Below w.heap.size w w' := by
  have SH := shown5 w
  have HA := Lib.hid hA
  have HU := Lib.hid hL
  obtain ⟨r, hr⟩ : ∃ r, lineOf L eps = r := ⟨_, rfl⟩
  have HR := Lib.hid hr
  clear hA hL hr
  go_enter Try.func3, Try.ntmps3
  go_wp2_with fail
  refine SH.mono ?_
  rintro e w1 ⟨rfl, b1⟩
  have H1 := Lib.hid b1
  have LT := lent_any A c L hn w1 (HA.out.below b1)
  clear SH b1
  go_wp2_with fail
  refine LT.mono ?_
  rintro e w2 ⟨g, rfl, hg, B2, b2⟩
  have H2 := Lib.hid (And.intro B2 (below_next H1.out b2))
  have O1 := of_post (c := L.length + 3) HU.out hn (lent_arg B2) HR.out
  clear LT B2 b2 hg H1
  go_wp2_with fail
  refine O1.mono ?_
  rintro e w3 ⟨rfl, b3⟩
  have H3 := Lib.hid (And.intro ((H2.out.1.below b3).alloc (.cells #[.int .u64 r.1.1, .int .u64 r.1.2.1, .int .i64 r.1.2.2] 27)) (And.intro (below_new (below_next H2.out.2 b3) (.cells #[.int .u64 r.1.1, .int .u64 r.1.2.1, .int .i64 r.1.2.2] 27)) (Blk.new w3 27 #[.int .u64 r.1.1, .int .u64 r.1.2.1, .int .i64 r.1.2.2])))
  have O2 := refOf_post (c := c) HU.out hn (HA.out.below H3.out.2.1) HR.out
  clear O1 b3 H2
  go_wp2_with fail
  refine O2.mono ?_
  rintro e w4 ⟨rfl, b4⟩
  have k4 := below_new b4 (.cells #[.int .u64 r.1.1, .int .u64 r.1.2.1, .int .i64 r.1.2.2] 27)
  have H4 := Lib.hid (And.intro (H3.out.1.below k4) (And.intro (below_next H3.out.2.1 k4) (And.intro (H3.out.2.2.below k4) (Blk.new w4 27 #[.int .u64 r.1.1, .int .u64 r.1.2.1, .int .i64 r.1.2.2]))))
  have KP := kept_any A c g L hn _ (HA.out.below H4.out.2.1) H4.out.1
  clear O2 b4 k4 H3
  go_wp2_with fail
  refine KP.mono ?_
  rintro e w5 ⟨rfl, b5⟩
  have H5 := Lib.hid (And.intro (below_next H4.out.2.1 b5) (And.intro (H4.out.2.2.1.below b5) (H4.out.2.2.2.below b5)))
  obtain ⟨p0, p1, p2, _, _, _⟩ := H5.out.2.1.cells3
  obtain ⟨q0, q1, q2, _, _, _⟩ := H5.out.2.2.cells3
  clear KP b5 H4
  go_wp2_with fail
  go_ret
  exact ⟨by simp, H5.out.1⟩
set_option maxHeartbeats 4000000 in
set_option maxRecDepth 10000 in
theorem lineAt_walk (x : Ln) (hx : LnOk x) (d : Int) (hd : u64ok d) (w : World) :
    Calls Try.prog 4 #[.agg #[.int .u64 x.1, .int .u64 x.2.1, .int .i64 x.2.2], .int .u64 d] w fun e w' => e = .returned (.bool true) ∧ Below w.heap.size w w' := by
  have SH := shown5 (w.alloc (.cells #[.int .u64 x.1, .int .u64 x.2.1, .int .i64 x.2.2] 27))
  have A1 := fun w => At_any x d hx.p hx.q hx.b hd w
  have A2 := fun w => refAt_any x d hx.p hx.q hx.b hd w
  have H0 := Lib.hid (And.intro (Blk.new w 27 #[.int .u64 x.1, .int .u64 x.2.1, .int .i64 x.2.2]) (below_new (Below.refl w.heap.size w) (.cells #[.int .u64 x.1, .int .u64 x.2.1, .int .i64 x.2.2] 27)))
  generalize lineAt x d = r at *
  clear hx hd
  go_enter Try.func4, Try.ntmps4
  go_wp2_with fail
  refine SH.mono ?_
  rintro e w1 ⟨rfl, b1⟩
  have H1 := Lib.hid (And.intro (H0.out.1.below b1) (below_next H0.out.2 b1))
  obtain ⟨p0, p1, p2, _, _, _⟩ := H1.out.1.cells3
  clear SH b1 H0
  go_wp2_with fail
  refine (A1 _).mono ?_
  rintro e w2 ⟨rfl, b2⟩
  have H2 := Lib.hid (And.intro (H1.out.1.below b2) (below_next H1.out.2 b2))
  obtain ⟨q0, q1, q2, _, _, _⟩ := H2.out.1.cells3
  clear A1 b2 H1 p0 p1 p2
  go_wp2_with fail
  refine (A2 _).mono ?_
  rintro e w3 ⟨rfl, b3⟩
  have H3 := Lib.hid (below_next H2.out.2 b3)
  clear A2 b3 H2 q0 q1 q2
  go_wp2_with fail
  go_ret
  exact ⟨by simp, H3.out⟩
set_option maxHeartbeats 4000000 in
set_option maxRecDepth 10000 in
theorem lineFits_walk (x : Ln) (hx : LnOk x) (A : Option Addr) (c : Nat) (L : List Int) (hL : U64s L) (hn : L.length ≤ 17592186044416) (eps : Int) (w : World) (hA : ArgU w A L) :
    Calls Try.prog 5 #[.agg #[.int .u64 x.1, .int .u64 x.2.1, .int .i64 x.2.2], .slice A L.length c, .int .i64 eps] w fun e w' => e = .returned (.bool true) ∧ Below w.heap.size w w' := by
  have SH := shown5 (w.alloc (.cells #[.int .u64 x.1, .int .u64 x.2.1, .int .i64 x.2.2] 27))
  have HA := Lib.hid hA
  have HU := Lib.hid hL
  have HX := Lib.hid hx
  have H0 := Lib.hid (And.intro (Blk.new w 27 #[.int .u64 x.1, .int .u64 x.2.1, .int .i64 x.2.2]) (below_new (Below.refl w.heap.size w) (.cells #[.int .u64 x.1, .int .u64 x.2.1, .int .i64 x.2.2] 27)))
  obtain ⟨r, hr⟩ : ∃ r, fitsB x L eps = r := ⟨_, rfl⟩
  have HR := Lib.hid hr
  clear hA hL hx hr
  go_enter Try.func5, Try.ntmps5
  go_wp2_with fail
  refine SH.mono ?_
  rintro e w1 ⟨rfl, b1⟩
  have H1 := Lib.hid (And.intro (H0.out.1.below b1) (below_next H0.out.2 b1))
  have LT := lent_any A c L hn w1 (HA.out.below H1.out.2)
  clear SH b1 H0
  go_wp2_with fail
  refine LT.mono ?_
  rintro e w2 ⟨g, rfl, hg, B2, b2⟩
  have H2 := Lib.hid (And.intro B2 (And.intro (H1.out.1.below b2) (below_next H1.out.2 b2)))
  obtain ⟨p0, p1, p2, _, _, _⟩ := H2.out.2.1.cells3
  have F1 := Fits_any x HX.out (some ⟨g, 0, none⟩) (L.length + 3) L eps HU.out hn w2 (lent_arg B2)
  rw [HR.out] at F1
  clear LT B2 b2 hg H1
  go_wp2_with fail
  refine F1.mono ?_
  rintro e w3 ⟨rfl, b3⟩
  have H3 := Lib.hid (And.intro (H2.out.1.below b3) (And.intro (H2.out.2.1.below b3) (below_next H2.out.2.2 b3)))
  obtain ⟨q0, q1, q2, _, _, _⟩ := H3.out.2.1.cells3
  have F2 := refFits_any x HX.out A c L eps HU.out hn w3 (HA.out.below H3.out.2.2)
  rw [HR.out] at F2
  clear F1 b3 H2 p0 p1 p2
  go_wp2_with fail
  refine F2.mono ?_
  rintro e w4 ⟨rfl, b4⟩
  have H4 := Lib.hid (And.intro (H3.out.1.below b4) (below_next H3.out.2.2 b4))
  have KP := kept_any A c g L hn _ (HA.out.below H4.out.2) H4.out.1
  clear F2 b4 H3 q0 q1 q2
  go_wp2_with fail
  refine KP.mono ?_
  rintro e w5 ⟨rfl, b5⟩
  have H5 := Lib.hid (below_next H4.out.2 b5)
  clear KP b5 H4
  go_wp2_with fail
  go_ret
  exact ⟨by simp, H5.out⟩
end Go.Proofs.Ytlkkeefcalkepaa
