/-
  The law: moved.
-/
import Derived.Test.YtnccgpdniigekaaQLvL2
import Derived.Test.YtnccgpdniigekaaQLvSame
import Derived.Test.YtnccgpdniigekaaQLvMovP
import Derived.Test.YtnccgpdniigekaaQLvOwn
namespace Go.Proofs.Ytnccgpdniigekaa
open Go.RowKit
set_option linter.unusedVariables false
set_option linter.unusedSimpArgs false
attribute [local go_sem high] run_store_float

/-- What Build answers for keys and for moved keys. -/
theorem build_both (eps : Int) {K : List Int} {fr : Int} (hK : U64s K) (hn : K.length ≤ 4294967296) (hu : K.Pairwise (· < ·)) (h0 : 0 ≤ fr) (hf : ∀ k ∈ K, k + fr ≤ 18446744073709551615) :
    ∃ (LA : List (List Sg)) (er : Int), (∀ A c w, K.length ≤ c → ArgU w A K → Calls Try.prog 17 #[.slice A K.length c, .int .i64 eps] w fun e w2 => ∃ v gs, e = .returned (.tuple #[v, .int .i64 er]) ∧ LLm w v gs LA w2) ∧
      (∀ A c w, K.length ≤ c → ArgU w A (K.map (· + fr)) → Calls Try.prog 17 #[.slice A K.length c, .int .i64 eps] w fun e w2 => ∃ v gs, e = .returned (.tuple #[v, .int .i64 er]) ∧ LLm w v gs (LA.map (List.map (mvS fr))) w2) ∧
      (∀ l ∈ LA, l.length ≤ K.length) ∧ LA.length ≤ K.length ∧ (∀ l ∈ LA, ∀ s ∈ l, u64ok (s.first + fr)) := by
  by_cases hb : eps < 2 ∨ 64 < eps
  · refine ⟨[], 1, fun A c w _ _ => (build_bad eps hb A K.length c w).mono ?_, fun A c w _ _ => (build_bad eps hb A K.length c w).mono ?_, fun l hl => absurd hl (by simp), Nat.zero_le _, fun l hl => absurd hl (by simp)⟩
    · rintro e w2 ⟨rfl, rfl⟩; exact ⟨_, [], rfl, LLm.nil _⟩
    · rintro e w2 ⟨rfl, rfl⟩; exact ⟨_, [], rfl, LLm.nil _⟩
  · have h1 : 2 ≤ eps := by omega
    have h2 : eps ≤ 64 := by omega
    have hl : (K.map (· + fr)).length = K.length := List.length_map _
    have hM := hK.mv h0 hf
    have hum := up_mv hu fr
    obtain ⟨s1, s2⟩ := build_segs h1 h2 hK hn hu
    obtain ⟨m1, m2⟩ := build_segs h1 h2 hM (by rw [hl]; exact hn) hum
    have he := buildL_mv (far := fr) h1 h2 _ K rfl hK hn hu
    rw [he] at m1
    refine ⟨buildL eps K, 0, fun A c w hc hA => build_good eps h1 h2 A c K hK hn hc hu w hA, fun A c w hc hA => ?_, fun l hl => (s1 l hl).2, s2, fun l hl s hs => ?_⟩
    · have := build_good eps h1 h2 A c (K.map (· + fr)) hM (by rw [hl]; exact hn) (by rw [hl]; exact hc) hum w hA
      rwa [hl, he] at this
    · exact ((m1 _ (List.mem_map.2 ⟨l, hl, rfl⟩)).1 _ (List.mem_map.2 ⟨s, hs, rfl⟩)).hf
/-- Both answers in memory, the first under way to the second. -/
structure MM (w2 : World) (m : Nat) (va : Value) (gs : List Nat) (cur : List (List Sg)) (vb : Value) (hs : List Nat) (LB : List (List Sg)) (wr : World) : Prop where
  a : LLm w2 va gs cur wr
  b : LLm w2 vb hs LB wr
  lo : ∀ g ∈ gs, g < m
  hi : ∀ g ∈ hs, m ≤ g
  ho : ∀ g, vb.ownBlock = some g → m ≤ g
section
variable {w2 wr wx : World} {m : Nat} {va vb : Value} {gs hs : List Nat} {cur LB : List (List Sg)}
theorem MM.below (h : MM w2 m va gs cur vb hs LB wr) (k : Below wr.heap.size wr wx) : MM w2 m va gs cur vb hs LB wx := ⟨h.a.below k, h.b.below k, h.lo, h.hi, h.ho⟩
theorem MM.put (h : MM w2 m va gs cur vb hs LB wr) {i : Nat} (hi : i < cur.length) {l : List Sg} (hl : l.length = (cur.getD i []).length) (C : Chg (fun k => k = gs.getD i 0) wr wx) (hb : Blk wx (gs.getD i 0) 33 (sflat l).toArray) : MM w2 m va gs (cur.set i l) vb hs LB wx := by
  have hg : gs.getD i 0 ∈ gs := gs_getD (by rw [h.a.len]; exact hi)
  have hlt := h.lo _ hg
  exact ⟨h.a.put hi hl C hb, h.b.chg C (fun g hg' hk => by have := h.ho g hg'; omega) (fun g hg' hk => by have := h.hi g hg'; omega) (fun g hk => by rw [hk]; exact (h.a.inn i hi).2), h.lo, h.hi, h.ho⟩
end
theorem LLm.row_at {w0 w : World} {A : Option Addr} {n c : Nat} {gs : List Nat} {ll : List (List Sg)} (h : LLm w0 (.slice A n c) gs ll w) {i : Nat} (hi : i < ll.length) : ∃ b, A = some ⟨b, 0, none⟩ ∧ w.cell? ⟨b, i, none⟩ = some (.slice (some ⟨gs.getD i 0, 0, none⟩) (ll.getD i []).length (ll.getD i []).length) := by
  rcases h.row.2 with ⟨hv, h0⟩ | ⟨g, cap, cur, hv, hr⟩
  · omega
  · injection hv with e1 e2 e3
    subst e1
    have hc := World.ownsRow.cells h.row (g := g) rfl i _ (svs_get h.len hi)
    rw [Addr.add_mid, Nat.zero_add] at hc
    exact ⟨g, rfl, hc⟩
/-- The next segment moved. -/
theorem MM.next {w2 wr : World} {m : Nat} {va vb : Value} {gs hs : List Nat} {LA LB : List (List Sg)} {far : Int} {i k : Nat} {l : List Sg} (hi : i < LA.length) (hl : LA.getD i [] = l) (hk : k < l.length)
    (h : MM w2 m va gs ((mvI far LA i).set i (mvK far l k)) vb hs LB wr) :
    wr.cell? ⟨gs.getD i 0, k * 5, none⟩ = some (.int .u64 (l.getD k zS).first) ∧ wr.frozen? ⟨gs.getD i 0, k * 5, none⟩ = false ∧
      MM w2 m va gs ((mvI far LA i).set i (mvK far l (k + 1))) vb hs LB (wr.setCell ⟨gs.getD i 0, k * 5, none⟩ (.int .u64 ((l.getD k zS).first + far))) := by
  have hi' : i < (mvI far LA i).length := by rw [mvI_len]; exact hi
  have hi2 : i < ((mvI far LA i).set i (mvK far l k)).length := by rw [List.length_set]; exact hi'
  have hb := (h.a.inn i hi2).1
  rw [set_getD [] hi', if_pos rfl] at hb
  have hk' : k < (mvK far l k).length := by rw [mvK_len]; exact hk
  obtain ⟨c0, _⟩ := seg_at_blk hb hk'
  rw [mvK_get far l hk] at c0
  refine ⟨c0, hb.free _, ?_⟩
  have hb2 := hb.set (k * 5) (.int .u64 ((l.getD k zS).first + far))
  have e := sflat_set1 (mvK far l k) k far hk'
  rw [mvK_get far l hk] at e
  rw [List.setIfInBounds_toArray, e, mvK_set far l hk] at hb2
  have := h.put hi2 (l := mvK far l (k + 1)) (by rw [set_getD [] hi', if_pos rfl, mvK_len, mvK_len]) ((Chg.refl (fun j => j = gs.getD i 0) wr).setCell (p := ⟨gs.getD i 0, k * 5, none⟩) (fun _ => rfl) _) hb2
  rwa [List.set_set] at this

theorem wrap_nx7 {i n : Nat} (h : i < n) (hn : n ≤ 4294967296) : wrap64 ((i : Int) + 1) = (i : Int) + 1 := by unfold wrap64; omega
set_option maxHeartbeats 8000000 in
set_option maxRecDepth 100000 in
theorem lvMoved_walk (A : Option Addr) (c : Nat) (K : List Int) (hK : U64s K) (hn : K.length ≤ 4294967296) (hc : K.length ≤ c) (eps : Int) (far : Int) (hfar : u64ok far) (w : World) (hA : ArgU w A K) :
    Calls Try.prog 11 #[.slice A K.length c, .int .i64 eps, .int .u64 far] w fun e w' => e = .returned (.bool true) ∧ Below w.heap.size w w' := by
  have SH := shown8 w
  have HA := Lib.hid hA
  have RR := fun w' (h : ArgU w' A K) => ref_Rising A c K (by omega) w' h
  by_cases h0 : K.length = 0
  · have g0 : ((K.length : Int) == 0) = true := by simp [h0]
    clear hA h0 RR
    go_enter Try.func11, Try.ntmps11
    go_wp2_with fail
    refine SH.mono ?_
    rintro e w1 ⟨rfl, b1⟩
    have B1 := Lib.hid b1
    clear b1
    go_wp2_with fail
    go_ret
    exact ⟨rfl, B1.out⟩
  have g0 : ((K.length : Int) == 0) = false := beq_eq_false_iff_ne.2 (by omega)
  by_cases hu : K.Pairwise (· < ·)
  case neg =>
    rw [decide_eq_false hu] at RR
    clear hA hu h0
    go_enter Try.func11, Try.ntmps11
    go_wp2_with fail
    refine SH.mono ?_
    rintro e w1 ⟨rfl, b1⟩
    have B1 := Lib.hid b1
    clear b1
    go_wp2_with fail
    refine (RR _ (HA.out.below B1.out)).mono ?_
    rintro e w2 ⟨rfl, b2⟩
    have B2 := Lib.hid (below_next B1.out b2)
    clear b2
    go_wp2_with fail
    go_ret
    exact ⟨rfl, B2.out⟩
  case pos =>
    rw [decide_eq_true hu] at RR
    have HN := Lib.hid hn
    have HU := Lib.hid hK
    have HUP := Lib.hid hu
    have HC := Lib.hid hc
    have BB := Lib.hid (fun fr h1 h2 => build_both eps (K := K) (fr := fr) hK hn hu h1 h2)
    obtain ⟨i0, hi, hz0, hz1, hz2⟩ := info_parts infoU
    obtain ⟨b, o, rfl, hbl, hcl⟩ := HA.out (by omega)
    obtain ⟨last, hlast⟩ : ∃ last, K[K.length - 1]'(by omega) = last := ⟨_, rfl⟩
    have hlu := hK.at (i := K.length - 1) (by omega)
    have hl0 := hcl (K.length - 1) (by omega)
    rw [hlast] at hlu hl0
    have HLC := Lib.hid (show ∀ w', Below w.heap.size w w' → w'.cell? ⟨b, o + (K.length - 1), none⟩ = some (.int .u64 last) from fun w' k => (k.cell (p := ⟨b, _, none⟩) hbl).trans hl0)
    have e0 : (0 : Int) ≤ (K.length : Int) - 1 := by omega
    have e1 : (K.length : Int) - 1 < (K.length : Int) := by omega
    have e2 : ((K.length : Int) - 1).toNat = K.length - 1 := by omega
    have e3 : wrap64 ((K.length : Int) - 1) = (K.length : Int) - 1 := by unfold wrap64; omega
    have hlu' := hlu
    have hfu := hfar
    unfold u64ok at hlu' hfu
    have u1 : IntKind.u64.wrap (18446744073709551615 - last) = 18446744073709551615 - last := by rw [IntKind.wrap_u64]; omega
    have HFO := Lib.hid (farIn_ok hlu hfar)
    have HLA := Lib.hid hlast
    have HCL := Lib.hid (And.intro hbl hcl)
    clear hlu hlast hl0 hcl hbl hA hK hu hc
    obtain ⟨room, hroom⟩ : ∃ room, 18446744073709551615 - last = room := ⟨_, rfl⟩
    have hr1 : 0 ≤ room := by omega
    have hr2 : room ≤ 18446744073709551615 := by omega
    rw [hroom] at u1
    have FARV : Hid (farIn last far = if room < 18446744073709551615 then far % (room + 1) else far) := Lib.hid (by unfold farIn; rw [hroom])
    go_enter Try.func11, Try.ntmps11
    go_wp2_with fail
    refine SH.mono ?_
    rintro e w1 ⟨rfl, b1⟩
    have B1 := Lib.hid b1
    clear b1
    go_wp2_with fail
    refine (RR _ (HA.out.below B1.out)).mono ?_
    rintro e w2 ⟨rfl, b2⟩
    have HB2 := Lib.hid (below_next B1.out b2)
    clear b2
    have hl2 := HLC.out _ HB2.out
    clear RR SH
    go_upto_if 37 with fail
    go_cut [2] (fun x2 wx => x2 = .int .u64 (farIn last far) ∧ w2 = wx)
    case first =>
      by_cases hrm : room < 18446744073709551615
      · have g1 : decide (room < 18446744073709551615) = true := by simpa using hrm
        have u2 : IntKind.u64.wrap (room + 1) = room + 1 := by rw [IntKind.wrap_u64]; omega
        have u3 : ((room + 1 : Int) == 0) = false := beq_eq_false_iff_ne.2 (by omega)
        have u4 : far.tmod (room + 1) = far % (room + 1) := Int.tmod_eq_emod_of_nonneg hfu.1
        have FV : Hid (far % (room + 1) = farIn last far) := Lib.hid (by rw [FARV.out, if_pos hrm])
        have u5 : (room + 1 : Int) ≠ 0 := by omega
        have u6 : 0 ≤ far % (room + 1) := Int.emod_nonneg _ u5
        have u7 : far % (room + 1) < room + 1 := Int.emod_lt_of_pos _ (by omega)
        clear hroom
        go_wp2_with fail
        go_meet
        case rel => exact ⟨by rw [FV.out], rfl⟩
      · have g1 : decide (room < 18446744073709551615) = false := by simpa using hrm
        have FV : Hid (far = farIn last far) := Lib.hid (by rw [FARV.out, if_neg hrm])
        clear hroom
        go_wp2_with fail
        go_meet
        case rel => exact ⟨by rw [← FV.out], rfl⟩
    case rest =>
      obtain ⟨rfl, rfl⟩ := hcut
      obtain ⟨fr, hfr⟩ : ∃ fr, farIn last far = fr := ⟨_, rfl⟩
      rw [hfr] at HFO ⊢
      have BOUND : Hid (∀ k ∈ K, k + fr ≤ 18446744073709551615) := Lib.hid (fun k hk => by
        obtain ⟨j, hj, rfl⟩ := List.mem_iff_getElem.1 hk
        have h2 := up_last HUP.out hj
        rw [HLA.out] at h2
        have h3 := HFO.out
        omega)
      obtain ⟨LA, er, BA, BM, LS1, LS2, LS3⟩ := BB.out fr HFO.out.1 BOUND.out
      have HBA := Lib.hid BA
      have HBM := Lib.hid BM
      have HS1 := Lib.hid LS1
      have HS2 := Lib.hid LS2
      have HS3 := Lib.hid LS3
      have START := Lib.hid (Us.new HB2.out)
      clear hfr FARV u1 hroom hr1 hr2 e0 e1 e2 e3 hl2 hlu' hfu BA BM LS1 LS2 LS3 BB
      go_wp2_with fail
      go_loopw [9, 10] (fun x9 x10 wr => ∃ i : Nat, i ≤ K.length ∧ x10 = .int .i64 i ∧ Hid (Us w x9 ((K.take i).map (· + fr)) wr)) (fun _ x _ => K.length - (intOf x).toNat)
      case atStart => exact ⟨0, Nat.zero_le _, rfl, START⟩
      case round =>
        obtain ⟨i, hi2, rfl, HV⟩ := hrel
        by_cases hlt : i < K.length
        · have i0' : (0 : Int) ≤ (i : Int) := by omega
          have i1 : (i : Int) < (K.length : Int) := by omega
          have hcc := (HV.out.2.2.cell (p := ⟨b, o + i, none⟩) HCL.out.1).trans (HCL.out.2 i hlt)
          have hu1 := HU.out.at hlt
          have hul := BOUND.out _ (List.getElem_mem hlt)
          obtain ⟨k, hk⟩ : ∃ k, K[i] = k := ⟨_, rfl⟩
          rw [hk] at hcc hu1 hul
          have HK : Hid ((K.take (i + 1)).map (· + fr) = (K.take i).map (· + fr) ++ [k + fr]) := Lib.hid (by
            rw [List.take_succ_eq_append_getElem hlt, List.map_append, hk]; rfl)
          unfold u64ok at hu1
          have hf1 := HFO.out
          have u1 : IntKind.u64.wrap (k + fr) = k + fr := by rw [IntKind.wrap_u64]; omega
          have v1 : wrap64 ((i : Int) + 1) = (i : Int) + 1 := by unfold wrap64; omega
          have hil : ((K.take i).map (· + fr)).length = i := by simp; omega
          have HIL := Lib.hid hil
          have HFOn : Hid (∀ u ∈ ([.int .u64 (k + fr)] : List Value), u.oneCell' = true) := Lib.hid (by intro u hu; simp at hu; rcases hu with rfl; rfl)
          have HO1 : Hid ((wr.alloc (.cells #[.int .u64 (k + fr)] 24)).ownsRow 0 24 1 u9 i (((K.take i).map (· + fr)).map (Value.int .u64))) := Lib.hid (by
            have := own_chg HV.out.1 ((Chg.refl (fun _ => False) wr).alloc (.cells #[.int .u64 (k + fr)] 24)) (fun _ _ h => h)
            rwa [hil] at this)
          clear hk hil hi2 hu1 hul hf1
          go_wp2_with (at_builtin; go_loud (refine wpList_append_lies _ rfl (.tmp 49) (.tmp 56) 22 (by rfl) 0 24 i0 _ 1 8 Try.underlying22 hi hz0 hz1 hz2 rfl (by omega) u9 i (((K.take i).map (· + fr)).map (Value.int .u64)) (by rfl) HO1.out ⟨wr.heap.size, 0, none⟩ 1 1 [.int .u64 (k + fr)] (by rfl) (by rfl) (World.news_of_block (Blk.new wr 24 #[.int .u64 (k + fr)])) HFOn.out (by omega) (by unfold maxLen; omega) (by omega) (Nat.zero_le _) (wr.heap.size + 1) (by simp) ?_; intro gn capn wn hown hgr hat hltn; have HG2 := Lib.hid (HV.out.grown' HIL.out hown hgr hat); clear hown hgr hat hltn))
          go_roundw
          case rel => exact ⟨i + 1, Nat.succ_le_of_lt hlt, (by first | (rw [v1]; rfl) | rfl), by rw [HK.out]; exact HG2⟩
          case measure => first | (rw [v1]; exact meas_next hlt) | exact meas_next hlt
        · obtain rfl : i = K.length := by omega
          have i1 : ¬ (K.length : Int) < (K.length : Int) := by omega
          obtain ⟨A2, c2, hv2, hA2⟩ := HV.out.arg
          rw [List.take_length] at hv2 hA2
          have hl9 : (K.map (· + fr)).length = K.length := List.length_map _
          rw [hl9] at hv2
          subst hv2
          have hcap : K.length ≤ c2 := by
            rcases HV.out.1.2 with ⟨hv, h1⟩ | ⟨g', cap', cur, hv, _, _, hn', _⟩
            · injection hv with _ h2 _; omega
            · injection hv with h1 h2 h3
              rw [List.take_length, hl9] at hn'
              omega
          have VB := Lib.hid (And.intro HV.out.2.2 hA2)
          have HCP := Lib.hid hcap
          clear HV hA2 hl9 hcap hlt
          have E1 := HBA.out (some ⟨b, o, none⟩) c wr HC.out (HA.out.below VB.out.1)
          go_wp2_with fail
          refine E1.mono ?_
          rintro e w4 ⟨va, ga, rfl, hLa⟩
          obtain ⟨Aa, ca, rfl, _⟩ := hLa.arg
          have LA4 := Lib.hid hLa
          have E2 := HBM.out A2 c2 w4 HCP.out (VB.out.2.below hLa.bel)
          clear E1 hLa
          go_wp2_with fail
          refine E2.mono ?_
          rintro e w5 ⟨vb, gb, rfl, hLb⟩
          have hlb := hLb.arg
          rw [List.length_map] at hlb
          obtain ⟨Ab, cb, rfl, hAb⟩ := hlb
          have M5 : Hid (MM wr w4.heap.size (.slice Aa LA.length ca) ga (mvI fr LA 0) (.slice Ab LA.length cb) gb (LA.map (List.map (mvS fr))) w5) := Lib.hid ⟨by rw [mvI_zero]; exact LA4.out.below hLb.bel, hLb.base LA4.out.bel, LA4.out.lt, fun g hg => by
            obtain ⟨j, hj, rfl⟩ := List.mem_iff_getElem.1 hg
            have := (hLb.inn j (by rw [← hLb.len]; exact hj)).2
            rwa [List.getD_eq_getElem?_getD, List.getElem?_eq_getElem hj] at this, hLb.own⟩
          have HBE := Lib.hid (below_next VB.out.1 (below_next LA4.out.bel hLb.bel))
          clear E2 hLb hAb LA4
          go_wp2_with fail
          go_loopw [15] (fun x wx => ∃ j : Nat, j ≤ LA.length ∧ x = .int .i64 j ∧ Hid (MM wr w4.heap.size (.slice Aa LA.length ca) ga (mvI fr LA j) (.slice Ab LA.length cb) gb (LA.map (List.map (mvS fr))) wx)) (fun x _ => LA.length - (intOf x).toNat)
          case atStart => exact ⟨0, Nat.zero_le _, rfl, M5⟩
          case round =>
            obtain ⟨wi, rfl⟩ : ∃ wi : World, wi = wr := ⟨_, rfl⟩
            obtain ⟨j, hj', rfl, M⟩ := hrel
            clear M5
            by_cases hjl : j < LA.length
            · have j0 : (0 : Int) ≤ (j : Int) := by omega
              have j1 : (j : Int) < (LA.length : Int) := by omega
              obtain ⟨l, hl⟩ : ∃ l, LA.getD j [] = l := ⟨_, rfl⟩
              have hmem := mem_getD hjl hl
              have LL1 := HS1.out l hmem
              have LL3 := Lib.hid (HS3.out l hmem)
              have v0 := wrap_nx7 hjl (Nat.le_trans HS2.out HN.out)
              have HLL := Lib.hid hl
              have M0 : Hid (MM wr w4.heap.size (.slice Aa LA.length ca) ga ((mvI fr LA j).set j (mvK fr l 0)) (.slice Ab LA.length cb) gb (LA.map (List.map (mvS fr))) wi) := Lib.hid (by
                rw [mvK_zero, ← hl, ← mvI_get fr LA hjl, set_self [] (by rw [mvI_len]; exact hjl)]; exact M.out)
              have MN : Hid (∀ wx, MM wr w4.heap.size (.slice Aa LA.length ca) ga ((mvI fr LA j).set j (mvK fr l l.length)) (.slice Ab LA.length cb) gb (LA.map (List.map (mvS fr))) wx → MM wr w4.heap.size (.slice Aa LA.length ca) ga (mvI fr LA (j + 1)) (.slice Ab LA.length cb) gb (LA.map (List.map (mvS fr))) wx) := Lib.hid (fun wx h => by
                rw [mvK_all, ← hl, mvI_set fr LA hjl] at h; exact h)
              have RA : Hid (∀ wx k, MM wr w4.heap.size (.slice Aa LA.length ca) ga ((mvI fr LA j).set j (mvK fr l k)) (.slice Ab LA.length cb) gb (LA.map (List.map (mvS fr))) wx → ∃ b', Aa = some ⟨b', 0, none⟩ ∧ wx.cell? ⟨b', j, none⟩ = some (.slice (some ⟨ga.getD j 0, 0, none⟩) l.length l.length)) := Lib.hid (fun wx k h => by
                have := h.a.row_at (i := j) (by rw [List.length_set, mvI_len]; exact hjl)
                rwa [set_getD [] (by rw [mvI_len]; exact hjl), if_pos rfl, mvK_len] at this)
              obtain ⟨gj, hgj⟩ : ∃ gj, ga.getD j 0 = gj := ⟨_, rfl⟩
              rw [hgj] at RA
              have HGJ := Lib.hid hgj
              obtain ⟨ba, rfl, xa⟩ := RA.out _ _ M0.out
              have SL := Lib.hid (And.intro hjl LL1)
              clear M hl hmem LL1 hgj
              go_wp2_with fail
              go_loopw [16] (fun x wx => ∃ k : Nat, k ≤ l.length ∧ x = .int .i64 k ∧ Hid (MM wr w4.heap.size (.slice (some ⟨ba, 0, none⟩) LA.length ca) ga ((mvI fr LA j).set j (mvK fr l k)) (.slice Ab LA.length cb) gb (LA.map (List.map (mvS fr))) wx)) (fun x _ => l.length - (intOf x).toNat)
              case atStart => exact ⟨0, Nat.zero_le _, rfl, M0⟩
              case round =>
                obtain ⟨wk, rfl⟩ : ∃ wk : World, wk = wr := ⟨_, rfl⟩
                obtain ⟨k, hk', rfl, J⟩ := hrel
                clear M0 xa
                obtain ⟨ba', hba, xa⟩ := RA.out _ _ J.out
                injection hba with hba
                injection hba with hba
                subst hba
                by_cases hkl : k < l.length
                · have k0 : (0 : Int) ≤ (k : Int) := by omega
                  have k1 : (k : Int) < (l.length : Int) := by omega
                  have JD := Lib.hid (J.out.below ((Below.refl wk.heap.size wk).drew))
                  obtain ⟨x0, x1, _⟩ := J.out.next SL.out.1 HLL.out hkl
                  have MX := Lib.hid (JD.out.next SL.out.1 HLL.out hkl)
                  obtain ⟨_, xd⟩ := RA.out _ _ JD.out
                  have fo := LL3.out _ (mem_getD (z := zS) hkl rfl)
                  obtain ⟨f, hf⟩ : ∃ f, (l.getD k zS).first = f := ⟨_, rfl⟩
                  rw [hf] at x0 MX fo
                  rw [HGJ.out] at x0 x1 MX
                  unfold u64ok at fo
                  have u1 : IntKind.u64.wrap (f + fr) = f + fr := by rw [IntKind.wrap_u64]; omega
                  have v1 := wrap_nx7 hkl (Nat.le_trans SL.out.2 HN.out)
                  clear hf fo xd
                  go_wp2_with fail
                  go_still_tail 17, (by kernel_rfl)
                  change wpList _ _ _ _ _ wk.drew
                  clear x0 x1
                  obtain ⟨x0, x1, _⟩ := MX.out
                  generalize wk.drew = wd at *
                  go_wp2_with fail
                  go_roundw
                  case rel => exact ⟨k + 1, Nat.succ_le_of_lt hkl, (by first | (rw [v1]; rfl) | rfl), Lib.hid MX.out.2.2⟩
                  case measure => first | (rw [v1]; exact meas_next hkl) | exact meas_next hkl
                · obtain rfl : k = l.length := by omega
                  have k1 : ¬ (l.length : Int) < (l.length : Int) := by omega
                  have M9 := Lib.hid (MN.out _ J.out)
                  clear hkl
                  go_wp2_with fail
                  go_roundw
                  case rel => exact ⟨j + 1, Nat.succ_le_of_lt SL.out.1, (by first | (rw [v0]; rfl) | rfl), M9⟩
                  case measure => first | (rw [v0]; exact meas_next SL.out.1) | exact meas_next SL.out.1
            · obtain rfl : j = LA.length := by omega
              have j1 : ¬ (LA.length : Int) < (LA.length : Int) := by omega
              have hM := M.out
              rw [mvI_all] at hM
              have ha := hM.a.arg
              have hb := hM.b.arg
              have hlm : (LA.map (List.map (mvS fr))).length = LA.length := List.length_map _
              rw [hlm] at ha hb
              obtain ⟨A8, c8, e8, s8⟩ := ha
              obtain ⟨A9, c9, e9, s9⟩ := hb
              injection e8 with e1 e2 e3
              subst e1 e3
              injection e9 with e1 e2 e3
              subst e1 e3
              have SA := same8 Aa Ab ca cb (LA.map (List.map (mvS fr))) (LA.map (List.map (mvS fr))) (by rw [hlm]; have := HS2.out; omega) (fun l hl => by
                obtain ⟨l', hl', rfl⟩ := List.mem_map.1 hl
                rw [List.length_map]
                have := HS1.out l' hl'; omega) wi s8 s9
              rw [hlm] at SA
              have BI := Lib.hid hM.a.bel
              have ee : (er == er) = true := by simp
              clear hM s8 s9 hlm hjl
              go_wp2_with fail
              refine SA.mono ?_
              rintro e w8 ⟨t, rfl, ht, b8⟩
              obtain rfl : t = true := ht.2 rfl
              have B8 := Lib.hid (below_next VB.out.1 (below_next BI.out b8))
              clear SA ht b8
              go_wp2_with fail
              go_ret
              exact ⟨rfl, B8.out⟩
end Go.Proofs.Ytnccgpdniigekaa
