/-
  The law: any levels over any keys.
-/
import Derived.Test.YtnccgpdniigekaaQLvStill
import Derived.Test.YtnccgpdniigekaaQLvArgs
import Derived.Test.YtnccgpdniigekaaQLvOwn
namespace Go.Proofs.Ytnccgpdniigekaa
open Go.RowKit
set_option linter.unusedVariables false
set_option linter.unusedSimpArgs false
attribute [local go_sem high] run_store_float

theorem own_num {n c : Nat} (h : n + 1 ≤ c) : (0 : Int) ≤ (n : Int) ∧ (n : Int) ≤ (c : Int) ∧ ((n : Int)).toNat = n ∧ (n : Int) < ((n + 1 : Nat) : Int) ∧ (n : Int) < (n : Int) + 1 := by omega
set_option maxHeartbeats 4000000 in
set_option maxRecDepth 100000 in
theorem lvChecks_walk (A : Option Addr) (c : Nat) (K : List Int) (hK : U64s K) (hn : K.length ≤ 17592186043904) (hc : K.length ≤ c) (eps : Int) (B : Option Addr) (d : Nat) (ll : List (List Sg)) (w : World) (hA : ArgU w A K) (hB : LvArg w B d ll) :
    Calls Try.prog 4 #[.slice A K.length c, .int .i64 eps, .slice B ll.length d] w fun e w' => e = .returned (.bool true) ∧ Below w.heap.size w w' := by
  have SH := shown8 w
  have RC := Lib.hid (fun w' (k : Below w.heap.size w w') => rcheck_lv A c K eps B d ll w' ⟨hK, by omega, hc, hA.below k, hB.segs, hB.lens, hB.count, hB.arg.below k⟩)
  have CC := Lib.hid (fun A' c' w' (hc' : K.length ≤ c') (ha : ArgU w' A' K) B' d' (hb : ArgSS w' B' ll) => check_lv A' c' K eps B' d' ll w' ⟨hK, by omega, hc', ha, hB.segs, hB.lens, hB.count, hb⟩)
  have LE := Lib.hid (fun w' (k : Below w.heap.size w w') => lent8_any B d ll hB.lens7 hB.count7 w' (hB.arg.below k))
  have ST := Lib.hid (fun g w0 w' (h : LentW w0 g ll w') (k : Below w.heap.size w w') => still8 g B d ll hB.lens hB.count w0 w' h (hB.arg.below k))
  have HA := Lib.hid hA
  have HN := Lib.hid hn
  have CNT := hB.count
  obtain ⟨i0, hi, hz0, hz1, hz2⟩ := info_parts infoU
  obtain ⟨r, hr⟩ : ∃ r, chkI K eps ll = r := ⟨_, rfl⟩
  rw [hr] at RC CC
  have rr : (r != r) = false := by simp
  clear hA hB hr hK hc
  go_enter Try.func4, Try.ntmps4
  go_wp2_with fail
  refine SH.mono ?_
  rintro e w1 ⟨rfl, b1⟩
  have HB1 := Lib.hid b1
  clear SH b1
  have U0 := Lib.hid (Us.new HB1.out)
  have RD := Lib.hid (reads_u (c := c) (HA.out.below (below_new HB1.out (.cells #[] 24))))
  go_upto_region 5 with (first | (at_builtin; refine wpList_append_any _ rfl (.tmp 15) (.tmp 16) 22 (by rfl) 0 24 i0 _ 1 8 Try.underlying22 hi hz0 hz1 hz2 rfl (by omega) (.slice (some ⟨w1.heap.size, 0, none⟩) 0 0) 0 [] (by rfl) U0.out.1 _ A K.length c (K.map (Value.int .u64)) (by rfl) RD.out (ones_u K) (by unfold maxLen; omega) (by omega) (Nat.zero_le _) ?_; intro v1 wa hown hgr hat; have U1 := Lib.hid (U0.out.first hown hgr hat); clear hown hgr hat) | (at_builtin; refine wpList_append_lies _ rfl (.tmp 17) (.tmp 18) 22 (by rfl) 0 24 i0 _ 1 8 Try.underlying22 hi hz0 hz1 hz2 rfl (by omega) v1 K.length (K.map (Value.int .u64)) (by rfl) (U1.out.second _) ⟨wa.heap.size, 0, none⟩ 1 1 [.int .u64 77] (by rfl) (by rfl) (World.news_of_block (Blk.new wa 24 #[.int .u64 77])) ones_77 (by omega) (by unfold maxLen; omega) (by omega) (Nat.zero_le _) (wa.heap.size + 1) (by simp) ?_; intro go capo wo hown hgr hat hlt; have U2 := Lib.hid (U1.out.grown' rfl hown hgr hat); clear hown hgr hat hlt))
  have hcapo : K.length + 1 ≤ capo := by have := U2.out.cap; simpa using this
  have OK0 : Hid (OwnK w go K wo) := Lib.hid ⟨U2.out.arg', U2.out.2.2⟩
  obtain ⟨k0, k1, k2, k3, k4⟩ := own_num hcapo
  clear U0 U1 RD U2
  have E5 := LE.out wo OK0.out.bel
  go_wp2_with fail
  refine E5.mono ?_
  rintro e w5 ⟨g, rfl, hL5⟩
  have L5 := Lib.hid hL5
  have OK5 := Lib.hid (OK0.out.below hL5.bel)
  clear E5 LE hL5 OK0
  have E6 := CC.out (some ⟨go, 0, none⟩) capo w5 (by omega) OK5.out.arg.left _ (ll.length + 1) L5.out.arg
  go_wp2_with fail
  refine E6.mono ?_
  rintro e w6 ⟨rfl, b6⟩
  have L6 := Lib.hid (L5.out.below b6)
  have OK6 := Lib.hid (OK5.out.below b6)
  clear E6 CC b6 L5 OK5
  go_wp2_with fail
  refine (RC.out _ OK6.out.bel).mono ?_
  rintro e w7 ⟨rfl, b7⟩
  have L7 := Lib.hid (L6.out.below b7)
  have OK7 := Lib.hid (OK6.out.below b7)
  clear RC b7 L6 OK6
  go_wp2_with fail
  refine (ST.out _ _ _ L7.out OK7.out.bel).mono ?_
  rintro e w8 ⟨rfl, b8⟩
  have OK8 := Lib.hid (OK7.out.below b8)
  clear ST b8 L7 OK7
  have h77 := OK8.out.mark
  go_wp2_with fail
  go_loopw [11] (fun x wr => ∃ i : Nat, i ≤ K.length ∧ x = .int .i64 i ∧ Hid (OwnK w go K wr)) (fun x _ => K.length - (intOf x).toNat)
  case atStart => exact ⟨0, Nat.zero_le _, rfl, OK8⟩
  case round =>
    obtain ⟨i, hi', rfl, I⟩ := hrel
    clear h77
    by_cases hlt : i < K.length
    · have i0' : (0 : Int) ≤ (i : Int) := by omega
      have i1 : (i : Int) < (K.length : Int) := by omega
      have i2 : (i : Int) < ((K.length + 1 : Nat) : Int) := by omega
      have i3 : (i : Int) < (K.length : Int) + 1 := by omega
      obtain ⟨kb, ko, rfl, hb2, z2⟩ := (HA.out.below I.out.bel).at hlt
      have z1 := I.out.at_ hlt
      obtain ⟨x, hx⟩ : ∃ x, K[i] = x := ⟨_, rfl⟩
      rw [hx] at z1 z2
      have hn2 := HN.out
      have v1 : wrap64 ((i : Int) + 1) = (i : Int) + 1 := by unfold wrap64; omega
      clear hx hn2 hb2
      go_wp2_with fail
      go_quiet (fail)
      have I9 := Lib.hid (I.out.below (drewN_below (Below.refl _ _) nq))
      go_wp2_with fail
      go_roundw
      case rel => exact ⟨i + 1, Nat.succ_le_of_lt hlt, (by first | (rw [v1]; rfl) | rfl), I9⟩
      case measure => first | (rw [v1]; exact meas_next hlt) | exact meas_next hlt
    · obtain rfl : i = K.length := by omega
      have i1 : ¬ (K.length : Int) < (K.length : Int) := by omega
      go_wp2_with fail
      go_ret
      exact ⟨rfl, I.out.bel⟩
end Go.Proofs.Ytnccgpdniigekaa
