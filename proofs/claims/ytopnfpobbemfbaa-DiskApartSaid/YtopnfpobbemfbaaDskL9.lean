/- The walk of DiskApart (printed by gen_dskL9.py). -/
import Derived.Test.YtopnfpobbemfbaaDskL8
namespace Go.Proofs.Ytopnfpobbemfbaa
open Go.RowKit

theorem row_three (W : World) (n m o : Int) : Row .i64 (W.alloc (.cells #[.int .i64 n, .int .i64 m, .int .i64 o] 3)) (some ⟨W.heap.size, 0, none⟩) 3 3 [n, m, o] := Row.made .i64 W 3 [n, m, o] rfl (by unfold maxLen; simp)
theorem info_str : (Try.prog.info? 9).map (fun i => (i.zero, i.size, i.bytes)) = some (some (.string ByteArray.empty), 1, 16) := by kernel_rfl
theorem row_nat {w : World} {base : Nat} {e : TypeId} {a : Option Addr} {n cap : Nat} {l : List Nat} (h : w.ownsRow base e 1 (.slice a n cap) n (l.map fun n : Nat => Value.int .i64 (n : Int))) : Row .i64 w a n cap (l.map fun n : Nat => (n : Int)) := by
  obtain ⟨a', cap', e1, e2⟩ := Row.of_own (k := .i64) (l := l.map fun n : Nat => (n : Int)) (by rw [List.map_map]; exact h)
  cases e1; exact e2
def ApRel (B : Nat) (w : World) (da db kk n : Nat) (wr : World) : Prop := ∃ M d e, M ≤ 2 * n ∧ Two B wr da db M d e ∧ ApGood kk d e ∧ Below w.heap.size w wr
set_option maxRecDepth 100000 in
set_option maxHeartbeats 8000000 in
theorem lApart {w : World} {a : Option Addr} {len cap : Nat} {l : List Stp} (h : Stps w a len cap l) (A : Nat) (hA : A < 256) :
    Calls Try.prog 7 #[.slice a len cap, .int .u8 (A : Int)] w fun e w' => e = .returned (.bool true) ∧ Below w.heap.size w w' := by
  have AW := awake_any w
  have hm : len ≤ 9223372036854775807 := by have := h.2.1; have := h.2.2.1; unfold maxLen at this; omega
  have HL := Lib.hid h.1
  have H := Lib.hid h
  cases hs : smallB l with
  | false =>
    clear h
    go_enter Try.func7, Try.ntmps7
    go_wp2_with fail
    refine AW.mono ?_
    rintro e w1 ⟨rfl, hb1⟩
    have C := small_any (H.out.below (Nat.le_refl _) hb1)
    rw [hs] at C
    clear hs
    go_wp2_with fail
    refine C.mono ?_
    rintro e w2 ⟨rfl, rfl⟩
    go_wp2_with fail
    go_ret
    exact ⟨rfl, hb1⟩
  | true =>
    have h40 : len ≤ 40 := by
      have := HL.out
      unfold smallB at hs
      simp at hs
      omega
    have HSM : Hid (∀ y ∈ l, y.kl ≤ 8) := Lib.hid (by
      unfold smallB at hs
      simp at hs
      exact hs.1)
    clear h
    go_enter Try.func7, Try.ntmps7
    go_wp2_with fail
    refine AW.mono ?_
    rintro e w1 ⟨rfl, hb1⟩
    have C := small_any (H.out.below (Nat.le_refl _) hb1)
    rw [hs] at C
    have N := new_ok (row_three w1 4 4 4) (by decide)
    obtain ⟨kk, hkk, HKK⟩ : ∃ kk : Nat, kk < 3 ∧ (A : Int) % 3 = (kk : Int) := ⟨A % 3, by omega, by omega⟩
    clear hs AW
    go_wp2_with fail
    refine C.mono ?_
    rintro e w1' ⟨rfl, rfl⟩
    go_wp2_with fail
    refine N.mono ?_
    rintro e w2 ⟨da, rfl, hd2, hb2⟩
    have HK := Lib.hid HKK
    clear HKK
    generalize hB : (w1.alloc (.cells #[.int .i64 4, .int .i64 4, .int .i64 4] 3)).heap.size = B at *
    have hBw : w.heap.size ≤ B := by rw [← hB]; have := hb1.size; simp; omega
    have hw2 : Below w.heap.size w w2 := (hb1.alloc hb1.size _).trans (hb2.mono hBw)
    have N2 := new_two (hd2.below ((Below.refl _ _).alloc (Nat.le_refl _) (.cells #[.int .i64 4, .int .i64 4, .int .i64 4] 3))) (row_three w2 4 4 4) (by decide)
    have hsz2 := hw2.size
    clear N hB hb1 hb2 hd2 C
    go_wp2_with fail
    refine N2.mono ?_
    rintro e w3 ⟨db, rfl, hd3, hb3⟩
    have hw3 : Below w.heap.size w w3 := (hw2.alloc hsz2 _).trans (hb3.mono (by simp; omega))
    clear N2 hb3 hw2 hsz2
    go_wp2_with fail
    go_loopw [12] (fun i wr => ∃ k : Nat, k ≤ len ∧ i = .int .i64 k ∧ ApRel B w da db kk k wr) (fun i _ => len - (intOf i).toNat)
    case atStart => exact ⟨0, Nat.zero_le _, rfl, 0, _, _, Nat.le_refl _, hd3, apGood_new kk hkk, hw3⟩
    case round =>
      clear hd3 hw3
      obtain ⟨k, hk, rfl, M, d, e, hM, hd, hg, hbw⟩ := hrel
      by_cases hlt : k < len
      · obtain ⟨b, off, y, rfl, hb, hy, hks, hyp, hrg⟩ := H.out.stepAt hbw hlt
        have c0 : wr.cell? ⟨b, off + k * 6, none⟩ = some (.int .i64 y.kind) := hrg 0 _ rfl
        have c1 : wr.cell? ⟨b, off + k * 6 + 1, none⟩ = some (.int .i64 y.region) := hrg 1 _ rfl
        have c2 : wr.cell? ⟨b, off + k * 6 + 2, none⟩ = some (.int .i64 y.page) := hrg 2 _ rfl
        have c3 : wr.cell? ⟨b, off + k * 6 + 3, none⟩ = some (.int .u8 (y.fill.toNat : Int)) := hrg 3 _ rfl
        have c4 : wr.cell? ⟨b, off + k * 6 + 4, none⟩ = some (.bool y.short) := hrg 4 _ rfl
        have c5 : wr.cell? ⟨b, off + k * 6 + 5, none⟩ = some (.slice y.ka y.kl y.kc) := hrg 5 _ rfl
        have hsw := hbw.size
        have HBX : Boxes (wr.alloc (.cells #[.int .i64 y.kind, .int .i64 y.region, .int .i64 y.page, .int .u8 (y.fill.toNat : Int), .bool y.short, .slice y.ka y.kl y.kc] 33)) [(wr.heap.size, scells y)] := (Boxes.nil wr).alloc _ _ rfl
        have hdx : TwoK B [wr.heap.size] (wr.alloc (.cells #[.int .i64 y.kind, .int .i64 y.region, .int .i64 y.page, .int .u8 (y.fill.toNat : Int), .bool y.short, .slice y.ka y.kl y.kc] 33)) da db M d e := hd.k.add ((Below.refl _ _).alloc (Nat.le_refl _) _) _ (Nat.le_refl _) (by simp)
        have HYY := Lib.hid hy
        clear hrg hy
        by_cases k3 : y.kind = 3
        · have q3 : (y.kind == 3) = true := by simp [k3]
          clear k3
          have hks1 : Txs (wr.alloc (.cells #[.int .i64 y.kind, .int .i64 y.region, .int .i64 y.page, .int .u8 (y.fill.toNat : Int), .bool y.short, .slice y.ka y.kl y.kc] 33)) y.ka y.kl y.kc y.keep := TabR.below (Nat.le_refl _) (hbw.alloc hsw _) hks
          have hF : ∀ g off, y.kl ≠ 0 → y.ka = some ⟨g, off, none⟩ → g < w.heap.size := by
            intro g off hne hg
            obtain ⟨b', o', s', e1, e2, _⟩ := hks.at (k := 0) (by omega)
            rw [hg] at e1; cases e1; exact e2
          have C := crash_o hdx.opens (by omega) hks1 (fun g off hne hg => .inl (by have := hF g off hne hg; omega))
          have hG := ap_crash hg y.keep
          have hkl : y.keep.length = y.kl := hks.1
          have hkm : y.kl ≤ 9223372036854775807 := by have := hks.2.1; have := hks.2.2.1; unfold maxLen at this; omega
          have hk8 : y.kl ≤ 8 := HSM.out y (by exact List.mem_of_getElem? HYY.out)
          rw [hkl] at hG
          have HGG := Lib.hid hG
          have HBX' := Lib.hid HBX
          have HKL := Lib.hid hkl
          have HKS := Lib.hid hks
          obtain ⟨i0, hi0, hz0, hz1, hz2⟩ := info_parts info_str
          clear hd hdx hg HBX hks1 hF hG hkl hks
          have HI := Lib.hid (show _ ∧ _ ∧ _ ∧ _ from ⟨hi0, hz0, hz1, hz2⟩)
          clear hi0 hz0 hz1 hz2
          go_wp2_with fail
          refine C.mono ?_
          rintro e' w7 ⟨rfl, hd7, hb7, hk7⟩
          have hS7 := hk7.boxes HBX'.out (by simp)
          obtain ⟨_, _, _, _, _, b5⟩ := stp_cells hS7
          have hw7 : Below w.heap.size w w7 := (hbw.alloc hsw _).trans (hb7.mono hBw)
          have HS7 := Lib.hid hS7
          have HD7 := Lib.hid hd7
          have HW7 := Lib.hid hw7
          clear C hk7 hb7 hbw hd7 hw7 hS7 c0 c1 c2 c3 c4 c5
          go_wp2_with fail
          clear b5
          go_loopw [14, 15] (fun v i wx => ∃ n : Nat, n ≤ y.kl ∧ i = .int .i64 n ∧ wx.ownsRow w7.heap.size 9 1 v n ((keepL kk y.keep n).map fun s => Value.string (strOf s)) ∧ Below w7.heap.size w7 wx) (fun _ i _ => y.kl - (intOf i).toNat)
          case atStart => exact ⟨0, Nat.zero_le _, rfl, World.ownsRow_nil _ _ _ _, Below.refl _ _⟩
          case round =>
            obtain ⟨n, hn, rfl, hox, hbx⟩ := hrel
            have hSx := HS7.out.step hbx
            obtain ⟨_, _, _, _, _, b5⟩ := stp_cells hSx
            have hwx := HW7.out.trans (hbx.mono HW7.out.size)
            by_cases hln : n < y.kl
            · obtain ⟨g, og, s', hga, hgl, hs', hgc⟩ := HKS.out.at hln
              rw [hga] at b5
              have cS := (hwx.cell (p := ⟨g, og + n, none⟩) hgl).trans hgc
              have hge : s' = y.keep[n]?.getD [] := by rw [hs']; rfl
              have KS := keepL_succ kk y.keep n
              obtain ⟨hi0, hz0, hz1, hz2⟩ := HI.out
              have hsx := hbx.size
              by_cases hnk : n = kk
              · have qk : ((n : Int) == (kk : Int)) = true := by simp [hnk]
                have qk' : (n == kk) = true := by simp [hnk]
                rw [if_pos hnk, ← hge] at KS
                obtain ⟨v', w8, hr9, ho9, hg9, _⟩ := run_append_new (P := Try.prog) w7.heap.size 31 9 i0 _ 1 16 Try.underlying31 hi0 hz0 hz1 hz2 rfl (by decide) hox #[.string (strOf s')] rfl (by intro u hu; simp at hu; subst hu; rfl) (by unfold maxLen; omega) (by omega) hsx
                have hb8 : Below w7.heap.size w7 w8 := hbx.grown hg9 hsx (own_ge hox)
                have END := Lib.hid (show w8.ownsRow w7.heap.size 9 1 v' (n + 1) ((keepL kk y.keep (n + 1)).map fun s => Value.string (strOf s)) ∧ Below w7.heap.size w7 w8 from ⟨by rw [KS]; simpa using ho9, hb8⟩)
                clear KS hox hbx hg9 ho9 hb8 hnk hge hgc hs' hga hgl hSx hwx hi0 hz0 hz1 hz2 hsx
                go_wp2_with (at_builtin; refine wpList_append_run rfl _ _ _ _ rfl rfl rfl hr9 ?_)
                go_roundw
                case rel => exact ⟨n + 1, hln, by go_num, END.out⟩
                case measure => simp [intOf]; omega
              · have qk : ((n : Int) == (kk : Int)) = false := by simp; omega
                have qk' : (n == kk) = false := by simp [hnk]
                rw [if_neg hnk] at KS
                obtain ⟨v', w8, hr9, ho9, hg9, _⟩ := run_append_new (P := Try.prog) w7.heap.size 31 9 i0 _ 1 16 Try.underlying31 hi0 hz0 hz1 hz2 rfl (by decide) hox #[.string (strOf [255, 255])] rfl (by intro u hu; simp at hu; subst hu; rfl) (by unfold maxLen; omega) (by omega) hsx
                have hb8 : Below w7.heap.size w7 w8 := hbx.grown hg9 hsx (own_ge hox)
                have END := Lib.hid (show w8.ownsRow w7.heap.size 9 1 v' (n + 1) ((keepL kk y.keep (n + 1)).map fun s => Value.string (strOf s)) ∧ Below w7.heap.size w7 w8 from ⟨by rw [KS]; simpa using ho9, hb8⟩)
                clear KS hox hbx hg9 ho9 hb8 hnk hge hgc hs' hga hgl hSx hwx hi0 hz0 hz1 hz2 hsx cS
                go_wp2_with (at_builtin; refine wpList_append_run rfl _ _ _ _ rfl rfl rfl hr9 ?_)
                go_roundw
                case rel => exact ⟨n + 1, hln, by go_num, END.out⟩
                case measure => simp [intOf]; omega
            · obtain rfl : n = y.kl := by omega
              have hlk : (keepL kk y.keep y.kl).length = y.kl := by simp [keepL]
              rw [← hlk] at hox
              rw [hlk] at hox
              obtain ⟨ax, cx, hvx, htx⟩ := txs_own (ks := keepL kk y.keep y.kl) (by rw [hlk]; exact hox)
              rw [hlk] at hvx htx
              subst hvx
              have hgx := own_ge hox
              have C := crash_o (HD7.out.swap.opens.below hbx) (by omega) htx (fun g off _ hg => by subst hg; exact .inr (hgx g rfl))
              clear hox hgx htx hlk hSx
              go_wp2_with fail
              refine C.mono ?_
              rintro e' w9 ⟨rfl, hd9, hb9, _⟩
              have hZ := hd9.swap.two
              have hG := HGG.out
              have hV : Below w.heap.size w w9 := HW7.out.trans (hb9.mono hBw)
              have hMM : M ≤ 2 * (k + 1) := by omega
              clear C hd9 hb9 hbx hwx b5
              have HZ := Lib.hid hZ
              have HG := Lib.hid hG
              have HV := Lib.hid hV
              have HM := Lib.hid hMM

              clear hZ hG hV hMM
              go_wp2_with fail
              go_loopw [16] (fun i wr => ∃ p : Nat, p ≤ 4 ∧ i = .int .i64 p ∧ Two B wr da db (M) (crashD d y.keep) (crashD e (keepL kk y.keep y.kl)) ∧ Below w.heap.size w wr) (fun i _ => 4 - (intOf i).toNat)
              case atStart => exact ⟨0, by omega, rfl, HZ.out, HV.out⟩
              case round =>
                clear HZ HV
                obtain ⟨p, hp, rfl, hdp, hbp⟩ := hrel
                have hM9 : M ≤ 900000 := by have := HM.out; omega
                by_cases hlp : p < 4
                · obtain ⟨z, hz⟩ : ∃ z, z = readB (crashD d y.keep) kk p := ⟨_, rfl⟩
                  obtain ⟨er, her⟩ : ∃ er, er = pagedE (crashD d y.keep) kk p := ⟨_, rfl⟩
                  have C := read_o hdp.left kk p
                  rw [← hz, ← her] at C
                  have hz2 : readB (crashD e (keepL kk y.keep y.kl)) kk p = z := by rw [hz, ap_readB HG.out]
                  have her2 : pagedE (crashD e (keepL kk y.keep y.kl)) kk p = er := by rw [her, ap_pagedE HG.out]
                  have HZ2 := Lib.hid hz2
                  have HE2 := Lib.hid her2
                  clear hz her hz2 her2
                  go_wp2_with fail
                  refine C.mono ?_
                  rintro e' wa ⟨va, rfl, hoa, hba⟩
                  obtain ⟨aa, ca, rfl, hra⟩ := Bs.of_own hoa
                  have hda := hdp.below hba
                  have hwa : Below w.heap.size w wa := hbp.trans (hba.mono hbp.size)
                  have C := read_o hda.swap.left kk p
                  rw [HZ2.out, HE2.out] at C
                  have HRA := Lib.hid hra
                  have HZ := Lib.hid hda
                  have HW := Lib.hid hwa
                  clear hoa hba hdp hbp hra hda hwa HZ2 HE2
                  go_wp2_with fail
                  refine C.mono ?_
                  rintro e' wb ⟨vb, rfl, hob, hbb⟩
                  obtain ⟨ab, cb, rfl, hrb⟩ := Bs.of_own hob
                  have hra2 := HRA.out.below (Nat.le_refl _) hbb
                  have K1 := conv_string (P := Try.prog) Try.underlying22 Try.underlying5 Try.underlying9 hra2
                  have K2 := conv_string (P := Try.prog) Try.underlying22 Try.underlying5 Try.underlying9 hrb
                  have hst := strOf_toList z
                  have qer : (er == er) = true := by simp
                  have hdb' := Lib.hid (HZ.out.below hbb)
                  have hwb := Lib.hid (HW.out.trans (hbb.mono HW.out.size))
                  clear C hra2 hrb hob hbb HZ HW HRA hM9
                  go_wp2_with fail
                  go_roundw
                  case rel => exact ⟨p + 1, hlp, by go_num, hdb'.out, hwb.out⟩
                  case measure => simp [intOf]; omega
                · obtain rfl : p = 4 := by omega
                  obtain ⟨x, hx, hxe⟩ : ∃ x, (crashD d y.keep)[kk]? = some x ∧ (crashD e (keepL kk y.keep y.kl))[kk]? = some x := by
                    obtain ⟨_, _, h3, x, hx, _⟩ := HG.out
                    exact ⟨x, hx, by rw [← h3]; exact hx⟩
                  have C := loose_o hdp.left hM9 kk x hx
                  have D1 := Lib.hid (ap_downB HG.out)
                  have HX := Lib.hid hxe
                  have HZ := Lib.hid hdp
                  have HW := Lib.hid hbp
                  clear hx hxe hdp hbp
                  go_wp2_with fail
                  refine C.mono ?_
                  rintro e' wa ⟨va, rfl, hoa, hba⟩
                  have hda := HZ.out.below hba
                  have hwa := HW.out.trans (hba.mono HW.out.size)
                  have C := loose_o hda.swap.left hM9 kk x HX.out
                  have hln : (x.loose.map (·.1)).length = x.loose.length := List.length_map _
                  rw [hln] at hoa
                  have HLN := Lib.hid hln
                  have HOA := Lib.hid hoa
                  have HDA := Lib.hid hda
                  have HWA := Lib.hid hwa
                  obtain ⟨aa, ca, rfl, _⟩ := own_slice hoa
                  clear hoa hba hda hwa HZ HW HX hln
                  go_wp2_with fail
                  refine C.mono ?_
                  rintro e' wb ⟨vb, rfl, hob, hbb⟩
                  rw [HLN.out] at hob
                  obtain ⟨ab, cb, rfl, _⟩ := own_slice hob
                  have hA := row_nat (own_step HOA.out hbb)
                  have hB := row_nat hob
                  have I := ints_any hA hB
                  have hdb' := HDA.out.below hbb
                  have hwb := HWA.out.trans (hbb.mono HWA.out.size)
                  have HDB := Lib.hid hdb'
                  have HWB := Lib.hid hwb
                  rw [decide_eq_true rfl] at I
                  clear C hob hbb HDA HWA hA hB hdb' hwb HOA
                  go_wp2_with fail
                  refine I.mono ?_
                  rintro e' wc ⟨rfl, j, rfl⟩
                  have hdc := HDB.out.below (w' := wb.drewN j) ⟨rfl, rfl, rfl, Nat.le_refl _, fun _ _ => rfl⟩
                  have D2 := down_o hdc.left kk
                  have D3 := down_o hdc.swap.left kk
                  rw [← D1.out] at D3
                  have HR := Lib.hid (show ApRel B w da db kk (k + 1) (wb.drewN j) from ⟨M, _, _, HM.out, hdc, HG.out, HWB.out.trans ⟨rfl, rfl, rfl, Nat.le_refl _, fun _ _ => rfl⟩⟩)
                  clear I hdc HDB HWB D1
                  generalize downB (crashD d y.keep) kk = dn at *
                  have qdn : (dn == dn) = true := by simp
                  go_wp2_with fail
                  refine D2.mono ?_
                  rintro e' wd ⟨rfl, rfl⟩
                  go_wp2_with fail
                  refine D3.mono ?_
                  rintro e' wd ⟨rfl, rfl⟩
                  clear D2 D3
                  go_wp2_with fail
                  go_roundw
                  case rel => exact ⟨k + 1, hlt, by go_num, HR.out⟩
                  case measure => simp [intOf]; omega
        · have q3 : (y.kind == 3) = false := by simp [k3]
          clear k3
          by_cases hyr : y.region = (kk : Int)
          · have qr : (y.region == (kk : Int)) = true := by simp [hyr]
            have qn : (y.region != (kk : Int)) = false := by simp [hyr]
            clear hyr
            by_cases k0 : y.kind = 0
            · have q0 : (y.kind == 0) = true := by simp [k0]
              clear k0 hks
              go_wp2_with fail
              refine wp_region_noPanic ?_
              refine wp_region_held_drew (S := fun W => Boxes W [(wr.heap.size, scells y)]) (by kernel_rfl) (by exact HBX.drew) (fun hHeld => ?_)
              refine wpAnyH_take (i := 0) (oi := { dst := some 95, op := Op.move (Operand.tmp 8), type := 24, pos := "law.go:171", after := #[], guard := none }) (v := ?_) rfl (by kernel_rfl) (by kernel_rfl) (by kernel_rfl) (fun _ _ _ h => h) (Or.inl ⟨by rfl, ?_⟩) (by assumption) ?_
              rotate_left
              · (intro W hW; obtain ⟨e0, e1, e2, e3, e4, e5⟩ := stp_cells hW; go_simp <;> (with_reducible rfl))
              try simp only [Act.put, List.setIfInBounds_toArray, List.set_cons_zero, List.set_cons_succ]
              refine wpAnyH_take (i := 1) (oi := { dst := some 96, op := Op.move (Operand.tmp 7), type := 3, pos := "law.go:171", after := #[], guard := none }) (v := ?_) rfl (by kernel_rfl) (by kernel_rfl) (by kernel_rfl) (fun _ _ _ h => h) (Or.inl ⟨by rfl, ?_⟩) (by assumption) ?_
              rotate_left
              · (intro W hW; obtain ⟨e0, e1, e2, e3, e4, e5⟩ := stp_cells hW; go_simp <;> (with_reducible rfl))
              try simp only [Act.put, List.setIfInBounds_toArray, List.set_cons_zero, List.set_cons_succ]
              refine wpAnyH_take (i := 2) (oi := { dst := some 97, op := Op.fieldAddr 33 (Operand.tmp 13) 2, type := 0, pos := "law.go:171", after := #[], guard := none }) (v := ?_) rfl (by kernel_rfl) (by kernel_rfl) (by kernel_rfl) (fun _ _ _ h => h) (Or.inl ⟨by rfl, ?_⟩) (by assumption) ?_
              rotate_left
              · (intro W hW; obtain ⟨e0, e1, e2, e3, e4, e5⟩ := stp_cells hW; go_simp <;> (with_reducible rfl))
              try simp only [Act.put, List.setIfInBounds_toArray, List.set_cons_zero, List.set_cons_succ]
              refine wpAnyH_take (i := 3) (oi := { dst := some 98, op := Op.load 3 (Operand.tmp 97), type := 3, pos := "law.go:171", after := #[{ on := 2, ground := Ground.data }], guard := none }) (v := ?_) rfl (by kernel_rfl) (by kernel_rfl) (by kernel_rfl) (fun _ _ _ h => h) (Or.inl ⟨by rfl, ?_⟩) (by assumption) ?_
              rotate_left
              · (intro W hW; obtain ⟨e0, e1, e2, e3, e4, e5⟩ := stp_cells hW; go_simp <;> (with_reducible rfl))
              try simp only [Act.put, List.setIfInBounds_toArray, List.set_cons_zero, List.set_cons_succ]
              refine wpAnyH_take (i := 4) (oi := { dst := some 99, op := Op.load 33 (Operand.tmp 13), type := 33, pos := "law.go:171", after := #[], guard := none }) (v := ?_) rfl (by kernel_rfl) (by kernel_rfl) (by kernel_rfl) (fun _ _ _ h => h) (Or.inl ⟨by rfl, ?_⟩) (by assumption) ?_
              rotate_left
              · (intro W hW; obtain ⟨e0, e1, e2, e3, e4, e5⟩ := stp_cells hW; go_simp <;> (with_reducible rfl))
              try simp only [Act.put, List.setIfInBounds_toArray, List.set_cons_zero, List.set_cons_succ]
              refine wpAnyH_take (i := 7) (oi := { dst := some 102, op := Op.move (Operand.tmp 10), type := 24, pos := "law.go:171", after := #[], guard := none }) (v := ?_) rfl (by kernel_rfl) (by kernel_rfl) (by kernel_rfl) (fun _ _ _ h => h) (Or.inl ⟨by rfl, ?_⟩) (by assumption) ?_
              rotate_left
              · (intro W hW; obtain ⟨e0, e1, e2, e3, e4, e5⟩ := stp_cells hW; go_simp <;> (with_reducible rfl))
              try simp only [Act.put, List.setIfInBounds_toArray, List.set_cons_zero, List.set_cons_succ]
              refine wpAnyH_take (i := 8) (oi := { dst := some 103, op := Op.move (Operand.tmp 7), type := 3, pos := "law.go:171", after := #[], guard := none }) (v := ?_) rfl (by kernel_rfl) (by kernel_rfl) (by kernel_rfl) (fun _ _ _ h => h) (Or.inl ⟨by rfl, ?_⟩) (by assumption) ?_
              rotate_left
              · (intro W hW; obtain ⟨e0, e1, e2, e3, e4, e5⟩ := stp_cells hW; go_simp <;> (with_reducible rfl))
              try simp only [Act.put, List.setIfInBounds_toArray, List.set_cons_zero, List.set_cons_succ]
              refine wpAnyH_take (i := 9) (oi := { dst := some 104, op := Op.fieldAddr 33 (Operand.tmp 13) 2, type := 0, pos := "law.go:171", after := #[], guard := none }) (v := ?_) rfl (by kernel_rfl) (by kernel_rfl) (by kernel_rfl) (fun _ _ _ h => h) (Or.inl ⟨by rfl, ?_⟩) (by assumption) ?_
              rotate_left
              · (intro W hW; obtain ⟨e0, e1, e2, e3, e4, e5⟩ := stp_cells hW; go_simp <;> (with_reducible rfl))
              try simp only [Act.put, List.setIfInBounds_toArray, List.set_cons_zero, List.set_cons_succ]
              refine wpAnyH_take (i := 10) (oi := { dst := some 105, op := Op.load 3 (Operand.tmp 104), type := 3, pos := "law.go:171", after := #[{ on := 9, ground := Ground.data }], guard := none }) (v := ?_) rfl (by kernel_rfl) (by kernel_rfl) (by kernel_rfl) (fun _ _ _ h => h) (Or.inl ⟨by rfl, ?_⟩) (by assumption) ?_
              rotate_left
              · (intro W hW; obtain ⟨e0, e1, e2, e3, e4, e5⟩ := stp_cells hW; go_simp <;> (with_reducible rfl))
              try simp only [Act.put, List.setIfInBounds_toArray, List.set_cons_zero, List.set_cons_succ]
              refine wpAnyH_take (i := 11) (oi := { dst := some 106, op := Op.load 33 (Operand.tmp 13), type := 33, pos := "law.go:171", after := #[], guard := none }) (v := ?_) rfl (by kernel_rfl) (by kernel_rfl) (by kernel_rfl) (fun _ _ _ h => h) (Or.inl ⟨by rfl, ?_⟩) (by assumption) ?_
              rotate_left
              · (intro W hW; obtain ⟨e0, e1, e2, e3, e4, e5⟩ := stp_cells hW; go_simp <;> (with_reducible rfl))
              try simp only [Act.put, List.setIfInBounds_toArray, List.set_cons_zero, List.set_cons_succ]
              refine wpAnyH_ready (rs := [5]) (by kernel_rfl) (by simp) (AllReadyH.cons (o := { dst := some 100, op := Op.call { callee := Callee.value (Operand.func 11), args := #[Operand.tmp 99], argTypes := #[33] }, type := 22, pos := "law.go:171", after := #[{ on := 4, ground := Ground.data }], guard := none }) rfl (fun K hK => ?_) AllReadyH.nil)
              rw [if_pos (by rfl)]
              go_wp2_with fail
              refine (page_lit y _).mono ?_
              rintro e w6 ⟨v6, rfl, ho6, hb6⟩
              obtain ⟨a6, c6, rfl, hr6⟩ := Bs.of_own ho6
              have hg6 := own_ge ho6
              have hS6 : Boxes w6 [(wr.heap.size, scells y)] := HBX.drew.step hb6
              have C7 := write_o (hdx.drew.opens.below hb6) hr6 (fun g off hg => by subst hg; exact .inr (hg6 g rfl)) (by omega) kk y.page
              refine hK.out _ _ (by exact hS6) (fun hHeld => ?_)
              clear hK K
              try simp only [Act.put, List.setIfInBounds_toArray, List.set_cons_zero, List.set_cons_succ]
              refine wpAnyH_ready (rs := [6]) (by kernel_rfl) (by simp) (AllReadyH.cons (o := { dst := some 101, op := Op.call { callee := Callee.value (Operand.func 10), args := #[Operand.tmp 95, Operand.tmp 96, Operand.tmp 98, Operand.tmp 100], argTypes := #[24, 3, 3, 22] }, type := 25, pos := "law.go:171", after := #[{ on := 0, ground := Ground.data }, { on := 1, ground := Ground.data }, { on := 3, ground := Ground.data }, { on := 5, ground := Ground.data }, { on := 5, ground := Ground.chain }], guard := none }) rfl (fun K hK => ?_) AllReadyH.nil)
              rw [if_pos (by rfl)]
              go_wp2_with fail
              refine C7.mono ?_
              rintro e w7 ⟨rfl, hd7, hb7, hk7⟩
              have hS7 : Boxes w7 [(wr.heap.size, scells y)] := hk7.boxes HBX.drew (by simp)
              clear C7 hr6 ho6 hg6 hb6 hS6 hk7
              refine hK.out _ _ (by exact hS7) (fun hHeld => ?_)
              clear hK K
              try simp only [Act.put, List.setIfInBounds_toArray, List.set_cons_zero, List.set_cons_succ]
              refine wpAnyH_ready (rs := [12]) (by kernel_rfl) (by simp) (AllReadyH.cons (o := { dst := some 107, op := Op.call { callee := Callee.value (Operand.func 11), args := #[Operand.tmp 106], argTypes := #[33] }, type := 22, pos := "law.go:171", after := #[{ on := 11, ground := Ground.data }, { on := 6, ground := Ground.chain }], guard := none }) rfl (fun K hK => ?_) AllReadyH.nil)
              rw [if_pos (by rfl)]
              go_wp2_with fail
              refine (page_lit y _).mono ?_
              rintro e w8 ⟨v8, rfl, ho8, hb8⟩
              obtain ⟨a8, c8, rfl, hr8⟩ := Bs.of_own ho8
              have hg8 := own_ge ho8
              have hS8 : Boxes w8 [(wr.heap.size, scells y)] := hS7.step hb8
              have C9 := write_o (hd7.swap.opens.below hb8) hr8 (fun g off hg => by subst hg; exact .inr (hg8 g rfl)) (by omega) kk y.page
              refine hK.out _ _ (by exact hS8) (fun hHeld => ?_)
              clear hK K
              try simp only [Act.put, List.setIfInBounds_toArray, List.set_cons_zero, List.set_cons_succ]
              refine wpAnyH_ready (rs := [13]) (by kernel_rfl) (by simp) (AllReadyH.cons (o := { dst := some 108, op := Op.call { callee := Callee.value (Operand.func 10), args := #[Operand.tmp 102, Operand.tmp 103, Operand.tmp 105, Operand.tmp 107], argTypes := #[24, 3, 3, 22] }, type := 25, pos := "law.go:171", after := #[{ on := 7, ground := Ground.data }, { on := 8, ground := Ground.data }, { on := 10, ground := Ground.data }, { on := 12, ground := Ground.data }, { on := 12, ground := Ground.chain }], guard := none }) rfl (fun K hK => ?_) AllReadyH.nil)
              rw [if_pos (by rfl)]
              go_wp2_with fail
              refine C9.mono ?_
              rintro e w9 ⟨rfl, hd9, hb9, hk9⟩
              have hS9 : Boxes w9 [(wr.heap.size, scells y)] := hk9.boxes hS7 (by simp)
              clear C9 hr8 ho8 hg8 hb8 hS8 hk9
              refine hK.out _ _ (by exact hS9) (fun hHeld => ?_)
              clear hK K
              try simp only [Act.put, List.setIfInBounds_toArray, List.set_cons_zero, List.set_cons_succ]
              refine wpAnyH_take (i := 14) (oi := { dst := some 109, op := Op.binOp BinOp.neq 25 (Operand.tmp 101) (Operand.tmp 108) 25, type := 4, pos := "law.go:171", after := #[{ on := 6, ground := Ground.data }, { on := 13, ground := Ground.data }], guard := none }) (v := ?_) rfl (by kernel_rfl) (by kernel_rfl) (by kernel_rfl) (fun _ _ _ h => h) (Or.inl ⟨by rfl, ?_⟩) (by assumption) ?_
              rotate_left
              · (intro W hW; obtain ⟨e0, e1, e2, e3, e4, e5⟩ := stp_cells hW; go_simp <;> (with_reducible rfl))
              try simp only [Act.put, List.setIfInBounds_toArray, List.set_cons_zero, List.set_cons_succ]
              refine wpAnyH_done (by kernel_rfl) ?_ _
              refine NoPanic.normal ?_
              clear hHeld
              have hE := ap_writeE hg y.page (pageB y)
              have hG := ap_write hg y.page (pageB y)
              have hZ := hd9.swap.two
              have hV : Below w.heap.size w w9 := ((hbw.alloc hsw _).trans (Below.mono (show Below B _ w7 from ⟨hb7.os, hb7.tape, hb7.output, hb7.size, hb7.block⟩) hBw)).trans (hb9.mono hBw)
              have hMM : M + 1 + 1 ≤ 2 * (k + 1) := by omega
              rw [← hE]
              generalize writeE d kk y.page (pageB y) = er9 at *
              have q9 : (er9 == er9) = true := by simp
              have q9' : (er9 != er9) = false := by simp
              rw [q9']
              clear hE hd9 hd7 hb7 hb9 hS7 hS9 hd hdx hg hbw hM HBX c0 c1 c2 c3 c4 c5

              have HZ := Lib.hid hZ
              have HG := Lib.hid hG
              have HV := Lib.hid hV
              have HM := Lib.hid hMM

              clear hZ hG hV hMM
              go_wp2_with fail
              go_loopw [16] (fun i wr => ∃ p : Nat, p ≤ 4 ∧ i = .int .i64 p ∧ Two B wr da db (M + 1 + 1) (writeD d kk y.page (pageB y)) (writeD e kk y.page (pageB y)) ∧ Below w.heap.size w wr) (fun i _ => 4 - (intOf i).toNat)
              case atStart => exact ⟨0, by omega, rfl, HZ.out, HV.out⟩
              case round =>
                clear HZ HV
                obtain ⟨p, hp, rfl, hdp, hbp⟩ := hrel
                have hM9 : M + 1 + 1 ≤ 900000 := by have := HM.out; omega
                by_cases hlp : p < 4
                · obtain ⟨z, hz⟩ : ∃ z, z = readB (writeD d kk y.page (pageB y)) kk p := ⟨_, rfl⟩
                  obtain ⟨er, her⟩ : ∃ er, er = pagedE (writeD d kk y.page (pageB y)) kk p := ⟨_, rfl⟩
                  have C := read_o hdp.left kk p
                  rw [← hz, ← her] at C
                  have hz2 : readB (writeD e kk y.page (pageB y)) kk p = z := by rw [hz, ap_readB HG.out]
                  have her2 : pagedE (writeD e kk y.page (pageB y)) kk p = er := by rw [her, ap_pagedE HG.out]
                  have HZ2 := Lib.hid hz2
                  have HE2 := Lib.hid her2
                  clear hz her hz2 her2
                  go_wp2_with fail
                  refine C.mono ?_
                  rintro e' wa ⟨va, rfl, hoa, hba⟩
                  obtain ⟨aa, ca, rfl, hra⟩ := Bs.of_own hoa
                  have hda := hdp.below hba
                  have hwa : Below w.heap.size w wa := hbp.trans (hba.mono hbp.size)
                  have C := read_o hda.swap.left kk p
                  rw [HZ2.out, HE2.out] at C
                  have HRA := Lib.hid hra
                  have HZ := Lib.hid hda
                  have HW := Lib.hid hwa
                  clear hoa hba hdp hbp hra hda hwa HZ2 HE2
                  go_wp2_with fail
                  refine C.mono ?_
                  rintro e' wb ⟨vb, rfl, hob, hbb⟩
                  obtain ⟨ab, cb, rfl, hrb⟩ := Bs.of_own hob
                  have hra2 := HRA.out.below (Nat.le_refl _) hbb
                  have K1 := conv_string (P := Try.prog) Try.underlying22 Try.underlying5 Try.underlying9 hra2
                  have K2 := conv_string (P := Try.prog) Try.underlying22 Try.underlying5 Try.underlying9 hrb
                  have hst := strOf_toList z
                  have qer : (er == er) = true := by simp
                  have hdb' := Lib.hid (HZ.out.below hbb)
                  have hwb := Lib.hid (HW.out.trans (hbb.mono HW.out.size))
                  clear C hra2 hrb hob hbb HZ HW HRA hM9
                  go_wp2_with fail
                  go_roundw
                  case rel => exact ⟨p + 1, hlp, by go_num, hdb'.out, hwb.out⟩
                  case measure => simp [intOf]; omega
                · obtain rfl : p = 4 := by omega
                  obtain ⟨x, hx, hxe⟩ : ∃ x, (writeD d kk y.page (pageB y))[kk]? = some x ∧ (writeD e kk y.page (pageB y))[kk]? = some x := by
                    obtain ⟨_, _, h3, x, hx, _⟩ := HG.out
                    exact ⟨x, hx, by rw [← h3]; exact hx⟩
                  have C := loose_o hdp.left hM9 kk x hx
                  have D1 := Lib.hid (ap_downB HG.out)
                  have HX := Lib.hid hxe
                  have HZ := Lib.hid hdp
                  have HW := Lib.hid hbp
                  clear hx hxe hdp hbp
                  go_wp2_with fail
                  refine C.mono ?_
                  rintro e' wa ⟨va, rfl, hoa, hba⟩
                  have hda := HZ.out.below hba
                  have hwa := HW.out.trans (hba.mono HW.out.size)
                  have C := loose_o hda.swap.left hM9 kk x HX.out
                  have hln : (x.loose.map (·.1)).length = x.loose.length := List.length_map _
                  rw [hln] at hoa
                  have HLN := Lib.hid hln
                  have HOA := Lib.hid hoa
                  have HDA := Lib.hid hda
                  have HWA := Lib.hid hwa
                  obtain ⟨aa, ca, rfl, _⟩ := own_slice hoa
                  clear hoa hba hda hwa HZ HW HX hln
                  go_wp2_with fail
                  refine C.mono ?_
                  rintro e' wb ⟨vb, rfl, hob, hbb⟩
                  rw [HLN.out] at hob
                  obtain ⟨ab, cb, rfl, _⟩ := own_slice hob
                  have hA := row_nat (own_step HOA.out hbb)
                  have hB := row_nat hob
                  have I := ints_any hA hB
                  have hdb' := HDA.out.below hbb
                  have hwb := HWA.out.trans (hbb.mono HWA.out.size)
                  have HDB := Lib.hid hdb'
                  have HWB := Lib.hid hwb
                  rw [decide_eq_true rfl] at I
                  clear C hob hbb HDA HWA hA hB hdb' hwb HOA
                  go_wp2_with fail
                  refine I.mono ?_
                  rintro e' wc ⟨rfl, j, rfl⟩
                  have hdc := HDB.out.below (w' := wb.drewN j) ⟨rfl, rfl, rfl, Nat.le_refl _, fun _ _ => rfl⟩
                  have D2 := down_o hdc.left kk
                  have D3 := down_o hdc.swap.left kk
                  rw [← D1.out] at D3
                  have HR := Lib.hid (show ApRel B w da db kk (k + 1) (wb.drewN j) from ⟨M + 1 + 1, _, _, HM.out, hdc, HG.out, HWB.out.trans ⟨rfl, rfl, rfl, Nat.le_refl _, fun _ _ => rfl⟩⟩)
                  clear I hdc HDB HWB D1
                  generalize downB (writeD d kk y.page (pageB y)) kk = dn at *
                  have qdn : (dn == dn) = true := by simp
                  go_wp2_with fail
                  refine D2.mono ?_
                  rintro e' wd ⟨rfl, rfl⟩
                  go_wp2_with fail
                  refine D3.mono ?_
                  rintro e' wd ⟨rfl, rfl⟩
                  clear D2 D3
                  go_wp2_with fail
                  go_roundw
                  case rel => exact ⟨k + 1, hlt, by go_num, HR.out⟩
                  case measure => simp [intOf]; omega
            · have q0 : (y.kind == 0) = false := by simp [k0]
              clear k0
              by_cases k1 : y.kind = 1
              · have q1 : (y.kind == 1) = true := by simp [k1]
                clear k1 hks
                have C := sync_o hdx.opens (by omega) kk
                have hE := ap_syncE hg
                have hG := ap_sync hg
                go_wp2_with fail
                refine C.mono ?_
                rintro e' w7 ⟨rfl, hd7, hb7, _⟩
                have C := sync_o hd7.swap.opens (by omega) kk
                rw [← hE] at C
                have HE := Lib.hid hE
                clear hE hd hdx hg HBX c0 c1 c2 c3 c4 c5
                go_wp2_with fail
                refine C.mono ?_
                rintro e' w9 ⟨rfl, hd9, hb9, _⟩
                have hZ := hd9.swap.two
                have hV : Below w.heap.size w w9 := ((hbw.alloc hsw _).trans (hb7.mono hBw)).trans (hb9.mono hBw)
                have hMM : M ≤ 2 * (k + 1) := by omega
                generalize syncE d kk = er9 at *
                have q9 : (er9 == er9) = true := by simp
                clear C hd7 hd9 hb7 hb9 hbw hM HE

                have HZ := Lib.hid hZ
                have HG := Lib.hid hG
                have HV := Lib.hid hV
                have HM := Lib.hid hMM

                clear hZ hG hV hMM
                go_wp2_with fail
                go_loopw [16] (fun i wr => ∃ p : Nat, p ≤ 4 ∧ i = .int .i64 p ∧ Two B wr da db (M) (syncD d kk) (syncD e kk) ∧ Below w.heap.size w wr) (fun i _ => 4 - (intOf i).toNat)
                case atStart => exact ⟨0, by omega, rfl, HZ.out, HV.out⟩
                case round =>
                  clear HZ HV
                  obtain ⟨p, hp, rfl, hdp, hbp⟩ := hrel
                  have hM9 : M ≤ 900000 := by have := HM.out; omega
                  by_cases hlp : p < 4
                  · obtain ⟨z, hz⟩ : ∃ z, z = readB (syncD d kk) kk p := ⟨_, rfl⟩
                    obtain ⟨er, her⟩ : ∃ er, er = pagedE (syncD d kk) kk p := ⟨_, rfl⟩
                    have C := read_o hdp.left kk p
                    rw [← hz, ← her] at C
                    have hz2 : readB (syncD e kk) kk p = z := by rw [hz, ap_readB HG.out]
                    have her2 : pagedE (syncD e kk) kk p = er := by rw [her, ap_pagedE HG.out]
                    have HZ2 := Lib.hid hz2
                    have HE2 := Lib.hid her2
                    clear hz her hz2 her2
                    go_wp2_with fail
                    refine C.mono ?_
                    rintro e' wa ⟨va, rfl, hoa, hba⟩
                    obtain ⟨aa, ca, rfl, hra⟩ := Bs.of_own hoa
                    have hda := hdp.below hba
                    have hwa : Below w.heap.size w wa := hbp.trans (hba.mono hbp.size)
                    have C := read_o hda.swap.left kk p
                    rw [HZ2.out, HE2.out] at C
                    have HRA := Lib.hid hra
                    have HZ := Lib.hid hda
                    have HW := Lib.hid hwa
                    clear hoa hba hdp hbp hra hda hwa HZ2 HE2
                    go_wp2_with fail
                    refine C.mono ?_
                    rintro e' wb ⟨vb, rfl, hob, hbb⟩
                    obtain ⟨ab, cb, rfl, hrb⟩ := Bs.of_own hob
                    have hra2 := HRA.out.below (Nat.le_refl _) hbb
                    have K1 := conv_string (P := Try.prog) Try.underlying22 Try.underlying5 Try.underlying9 hra2
                    have K2 := conv_string (P := Try.prog) Try.underlying22 Try.underlying5 Try.underlying9 hrb
                    have hst := strOf_toList z
                    have qer : (er == er) = true := by simp
                    have hdb' := Lib.hid (HZ.out.below hbb)
                    have hwb := Lib.hid (HW.out.trans (hbb.mono HW.out.size))
                    clear C hra2 hrb hob hbb HZ HW HRA hM9
                    go_wp2_with fail
                    go_roundw
                    case rel => exact ⟨p + 1, hlp, by go_num, hdb'.out, hwb.out⟩
                    case measure => simp [intOf]; omega
                  · obtain rfl : p = 4 := by omega
                    obtain ⟨x, hx, hxe⟩ : ∃ x, (syncD d kk)[kk]? = some x ∧ (syncD e kk)[kk]? = some x := by
                      obtain ⟨_, _, h3, x, hx, _⟩ := HG.out
                      exact ⟨x, hx, by rw [← h3]; exact hx⟩
                    have C := loose_o hdp.left hM9 kk x hx
                    have D1 := Lib.hid (ap_downB HG.out)
                    have HX := Lib.hid hxe
                    have HZ := Lib.hid hdp
                    have HW := Lib.hid hbp
                    clear hx hxe hdp hbp
                    go_wp2_with fail
                    refine C.mono ?_
                    rintro e' wa ⟨va, rfl, hoa, hba⟩
                    have hda := HZ.out.below hba
                    have hwa := HW.out.trans (hba.mono HW.out.size)
                    have C := loose_o hda.swap.left hM9 kk x HX.out
                    have hln : (x.loose.map (·.1)).length = x.loose.length := List.length_map _
                    rw [hln] at hoa
                    have HLN := Lib.hid hln
                    have HOA := Lib.hid hoa
                    have HDA := Lib.hid hda
                    have HWA := Lib.hid hwa
                    obtain ⟨aa, ca, rfl, _⟩ := own_slice hoa
                    clear hoa hba hda hwa HZ HW HX hln
                    go_wp2_with fail
                    refine C.mono ?_
                    rintro e' wb ⟨vb, rfl, hob, hbb⟩
                    rw [HLN.out] at hob
                    obtain ⟨ab, cb, rfl, _⟩ := own_slice hob
                    have hA := row_nat (own_step HOA.out hbb)
                    have hB := row_nat hob
                    have I := ints_any hA hB
                    have hdb' := HDA.out.below hbb
                    have hwb := HWA.out.trans (hbb.mono HWA.out.size)
                    have HDB := Lib.hid hdb'
                    have HWB := Lib.hid hwb
                    rw [decide_eq_true rfl] at I
                    clear C hob hbb HDA HWA hA hB hdb' hwb HOA
                    go_wp2_with fail
                    refine I.mono ?_
                    rintro e' wc ⟨rfl, j, rfl⟩
                    have hdc := HDB.out.below (w' := wb.drewN j) ⟨rfl, rfl, rfl, Nat.le_refl _, fun _ _ => rfl⟩
                    have D2 := down_o hdc.left kk
                    have D3 := down_o hdc.swap.left kk
                    rw [← D1.out] at D3
                    have HR := Lib.hid (show ApRel B w da db kk (k + 1) (wb.drewN j) from ⟨M, _, _, HM.out, hdc, HG.out, HWB.out.trans ⟨rfl, rfl, rfl, Nat.le_refl _, fun _ _ => rfl⟩⟩)
                    clear I hdc HDB HWB D1
                    generalize downB (syncD d kk) kk = dn at *
                    have qdn : (dn == dn) = true := by simp
                    go_wp2_with fail
                    refine D2.mono ?_
                    rintro e' wd ⟨rfl, rfl⟩
                    go_wp2_with fail
                    refine D3.mono ?_
                    rintro e' wd ⟨rfl, rfl⟩
                    clear D2 D3
                    go_wp2_with fail
                    go_roundw
                    case rel => exact ⟨k + 1, hlt, by go_num, HR.out⟩
                    case measure => simp [intOf]; omega
              · have q1 : (y.kind == 1) = false := by simp [k1]
                clear k1
                by_cases k2 : y.kind = 2
                · have q2 : (y.kind == 2) = true := by simp [k2]
                  clear k2 hks
                  have C := stop_o hdx.opens kk y.page hyp
                  have hG := ap_stop hg y.page
                  go_wp2_with fail
                  refine C.mono ?_
                  rintro e' w7 ⟨rfl, hd7, hb7, hk7⟩
                  have HB7 : Boxes w7 [(wr.heap.size, scells y)] := hk7.boxes HBX (by simp)
                  obtain ⟨_, _, b2, _⟩ := stp_cells HB7
                  have C := stop_o hd7.swap.opens kk y.page hyp
                  clear hd hdx hg HBX c0 c1 c2 c3 c4 c5 hk7 HB7
                  go_wp2_with fail
                  refine C.mono ?_
                  rintro e' w9 ⟨rfl, hd9, hb9, _⟩
                  have hZ := hd9.swap.two
                  have hV : Below w.heap.size w w9 := ((hbw.alloc hsw _).trans (hb7.mono hBw)).trans (hb9.mono hBw)
                  have hMM : M ≤ 2 * (k + 1) := by omega
                  clear C hd7 hd9 hb7 hb9 hbw hM b2

                  have HZ := Lib.hid hZ
                  have HG := Lib.hid hG
                  have HV := Lib.hid hV
                  have HM := Lib.hid hMM

                  clear hZ hG hV hMM
                  go_wp2_with fail
                  go_loopw [16] (fun i wr => ∃ p : Nat, p ≤ 4 ∧ i = .int .i64 p ∧ Two B wr da db (M) (stopD d kk y.page) (stopD e kk y.page) ∧ Below w.heap.size w wr) (fun i _ => 4 - (intOf i).toNat)
                  case atStart => exact ⟨0, by omega, rfl, HZ.out, HV.out⟩
                  case round =>
                    clear HZ HV
                    obtain ⟨p, hp, rfl, hdp, hbp⟩ := hrel
                    have hM9 : M ≤ 900000 := by have := HM.out; omega
                    by_cases hlp : p < 4
                    · obtain ⟨z, hz⟩ : ∃ z, z = readB (stopD d kk y.page) kk p := ⟨_, rfl⟩
                      obtain ⟨er, her⟩ : ∃ er, er = pagedE (stopD d kk y.page) kk p := ⟨_, rfl⟩
                      have C := read_o hdp.left kk p
                      rw [← hz, ← her] at C
                      have hz2 : readB (stopD e kk y.page) kk p = z := by rw [hz, ap_readB HG.out]
                      have her2 : pagedE (stopD e kk y.page) kk p = er := by rw [her, ap_pagedE HG.out]
                      have HZ2 := Lib.hid hz2
                      have HE2 := Lib.hid her2
                      clear hz her hz2 her2
                      go_wp2_with fail
                      refine C.mono ?_
                      rintro e' wa ⟨va, rfl, hoa, hba⟩
                      obtain ⟨aa, ca, rfl, hra⟩ := Bs.of_own hoa
                      have hda := hdp.below hba
                      have hwa : Below w.heap.size w wa := hbp.trans (hba.mono hbp.size)
                      have C := read_o hda.swap.left kk p
                      rw [HZ2.out, HE2.out] at C
                      have HRA := Lib.hid hra
                      have HZ := Lib.hid hda
                      have HW := Lib.hid hwa
                      clear hoa hba hdp hbp hra hda hwa HZ2 HE2
                      go_wp2_with fail
                      refine C.mono ?_
                      rintro e' wb ⟨vb, rfl, hob, hbb⟩
                      obtain ⟨ab, cb, rfl, hrb⟩ := Bs.of_own hob
                      have hra2 := HRA.out.below (Nat.le_refl _) hbb
                      have K1 := conv_string (P := Try.prog) Try.underlying22 Try.underlying5 Try.underlying9 hra2
                      have K2 := conv_string (P := Try.prog) Try.underlying22 Try.underlying5 Try.underlying9 hrb
                      have hst := strOf_toList z
                      have qer : (er == er) = true := by simp
                      have hdb' := Lib.hid (HZ.out.below hbb)
                      have hwb := Lib.hid (HW.out.trans (hbb.mono HW.out.size))
                      clear C hra2 hrb hob hbb HZ HW HRA hM9
                      go_wp2_with fail
                      go_roundw
                      case rel => exact ⟨p + 1, hlp, by go_num, hdb'.out, hwb.out⟩
                      case measure => simp [intOf]; omega
                    · obtain rfl : p = 4 := by omega
                      obtain ⟨x, hx, hxe⟩ : ∃ x, (stopD d kk y.page)[kk]? = some x ∧ (stopD e kk y.page)[kk]? = some x := by
                        obtain ⟨_, _, h3, x, hx, _⟩ := HG.out
                        exact ⟨x, hx, by rw [← h3]; exact hx⟩
                      have C := loose_o hdp.left hM9 kk x hx
                      have D1 := Lib.hid (ap_downB HG.out)
                      have HX := Lib.hid hxe
                      have HZ := Lib.hid hdp
                      have HW := Lib.hid hbp
                      clear hx hxe hdp hbp
                      go_wp2_with fail
                      refine C.mono ?_
                      rintro e' wa ⟨va, rfl, hoa, hba⟩
                      have hda := HZ.out.below hba
                      have hwa := HW.out.trans (hba.mono HW.out.size)
                      have C := loose_o hda.swap.left hM9 kk x HX.out
                      have hln : (x.loose.map (·.1)).length = x.loose.length := List.length_map _
                      rw [hln] at hoa
                      have HLN := Lib.hid hln
                      have HOA := Lib.hid hoa
                      have HDA := Lib.hid hda
                      have HWA := Lib.hid hwa
                      obtain ⟨aa, ca, rfl, _⟩ := own_slice hoa
                      clear hoa hba hda hwa HZ HW HX hln
                      go_wp2_with fail
                      refine C.mono ?_
                      rintro e' wb ⟨vb, rfl, hob, hbb⟩
                      rw [HLN.out] at hob
                      obtain ⟨ab, cb, rfl, _⟩ := own_slice hob
                      have hA := row_nat (own_step HOA.out hbb)
                      have hB := row_nat hob
                      have I := ints_any hA hB
                      have hdb' := HDA.out.below hbb
                      have hwb := HWA.out.trans (hbb.mono HWA.out.size)
                      have HDB := Lib.hid hdb'
                      have HWB := Lib.hid hwb
                      rw [decide_eq_true rfl] at I
                      clear C hob hbb HDA HWA hA hB hdb' hwb HOA
                      go_wp2_with fail
                      refine I.mono ?_
                      rintro e' wc ⟨rfl, j, rfl⟩
                      have hdc := HDB.out.below (w' := wb.drewN j) ⟨rfl, rfl, rfl, Nat.le_refl _, fun _ _ => rfl⟩
                      have D2 := down_o hdc.left kk
                      have D3 := down_o hdc.swap.left kk
                      rw [← D1.out] at D3
                      have HR := Lib.hid (show ApRel B w da db kk (k + 1) (wb.drewN j) from ⟨M, _, _, HM.out, hdc, HG.out, HWB.out.trans ⟨rfl, rfl, rfl, Nat.le_refl _, fun _ _ => rfl⟩⟩)
                      clear I hdc HDB HWB D1
                      generalize downB (stopD d kk y.page) kk = dn at *
                      have qdn : (dn == dn) = true := by simp
                      go_wp2_with fail
                      refine D2.mono ?_
                      rintro e' wd ⟨rfl, rfl⟩
                      go_wp2_with fail
                      refine D3.mono ?_
                      rintro e' wd ⟨rfl, rfl⟩
                      clear D2 D3
                      go_wp2_with fail
                      go_roundw
                      case rel => exact ⟨k + 1, hlt, by go_num, HR.out⟩
                      case measure => simp [intOf]; omega
                · have q2 : (y.kind == 2) = false := by simp [k2]
                  clear k2 hks
                  have hZ := hdx.two
                  have hG := hg
                  have hV : Below w.heap.size w (wr.alloc (.cells #[.int .i64 y.kind, .int .i64 y.region, .int .i64 y.page, .int .u8 (y.fill.toNat : Int), .bool y.short, .slice y.ka y.kl y.kc] 33)) := hbw.alloc hsw _
                  have hMM : M ≤ 2 * (k + 1) := by omega
                  clear hd hdx hg hbw hM HBX

                  have HZ := Lib.hid hZ
                  have HG := Lib.hid hG
                  have HV := Lib.hid hV
                  have HM := Lib.hid hMM

                  clear hZ hG hV hMM
                  go_wp2_with fail
                  go_loopw [16] (fun i wr => ∃ p : Nat, p ≤ 4 ∧ i = .int .i64 p ∧ Two B wr da db (M) (d) (e) ∧ Below w.heap.size w wr) (fun i _ => 4 - (intOf i).toNat)
                  case atStart => exact ⟨0, by omega, rfl, HZ.out, HV.out⟩
                  case round =>
                    clear HZ HV
                    obtain ⟨p, hp, rfl, hdp, hbp⟩ := hrel
                    have hM9 : M ≤ 900000 := by have := HM.out; omega
                    by_cases hlp : p < 4
                    · obtain ⟨z, hz⟩ : ∃ z, z = readB (d) kk p := ⟨_, rfl⟩
                      obtain ⟨er, her⟩ : ∃ er, er = pagedE (d) kk p := ⟨_, rfl⟩
                      have C := read_o hdp.left kk p
                      rw [← hz, ← her] at C
                      have hz2 : readB (e) kk p = z := by rw [hz, ap_readB HG.out]
                      have her2 : pagedE (e) kk p = er := by rw [her, ap_pagedE HG.out]
                      have HZ2 := Lib.hid hz2
                      have HE2 := Lib.hid her2
                      clear hz her hz2 her2
                      go_wp2_with fail
                      refine C.mono ?_
                      rintro e' wa ⟨va, rfl, hoa, hba⟩
                      obtain ⟨aa, ca, rfl, hra⟩ := Bs.of_own hoa
                      have hda := hdp.below hba
                      have hwa : Below w.heap.size w wa := hbp.trans (hba.mono hbp.size)
                      have C := read_o hda.swap.left kk p
                      rw [HZ2.out, HE2.out] at C
                      have HRA := Lib.hid hra
                      have HZ := Lib.hid hda
                      have HW := Lib.hid hwa
                      clear hoa hba hdp hbp hra hda hwa HZ2 HE2
                      go_wp2_with fail
                      refine C.mono ?_
                      rintro e' wb ⟨vb, rfl, hob, hbb⟩
                      obtain ⟨ab, cb, rfl, hrb⟩ := Bs.of_own hob
                      have hra2 := HRA.out.below (Nat.le_refl _) hbb
                      have K1 := conv_string (P := Try.prog) Try.underlying22 Try.underlying5 Try.underlying9 hra2
                      have K2 := conv_string (P := Try.prog) Try.underlying22 Try.underlying5 Try.underlying9 hrb
                      have hst := strOf_toList z
                      have qer : (er == er) = true := by simp
                      have hdb' := Lib.hid (HZ.out.below hbb)
                      have hwb := Lib.hid (HW.out.trans (hbb.mono HW.out.size))
                      clear C hra2 hrb hob hbb HZ HW HRA hM9
                      go_wp2_with fail
                      go_roundw
                      case rel => exact ⟨p + 1, hlp, by go_num, hdb'.out, hwb.out⟩
                      case measure => simp [intOf]; omega
                    · obtain rfl : p = 4 := by omega
                      obtain ⟨x, hx, hxe⟩ : ∃ x, (d)[kk]? = some x ∧ (e)[kk]? = some x := by
                        obtain ⟨_, _, h3, x, hx, _⟩ := HG.out
                        exact ⟨x, hx, by rw [← h3]; exact hx⟩
                      have C := loose_o hdp.left hM9 kk x hx
                      have D1 := Lib.hid (ap_downB HG.out)
                      have HX := Lib.hid hxe
                      have HZ := Lib.hid hdp
                      have HW := Lib.hid hbp
                      clear hx hxe hdp hbp
                      go_wp2_with fail
                      refine C.mono ?_
                      rintro e' wa ⟨va, rfl, hoa, hba⟩
                      have hda := HZ.out.below hba
                      have hwa := HW.out.trans (hba.mono HW.out.size)
                      have C := loose_o hda.swap.left hM9 kk x HX.out
                      have hln : (x.loose.map (·.1)).length = x.loose.length := List.length_map _
                      rw [hln] at hoa
                      have HLN := Lib.hid hln
                      have HOA := Lib.hid hoa
                      have HDA := Lib.hid hda
                      have HWA := Lib.hid hwa
                      obtain ⟨aa, ca, rfl, _⟩ := own_slice hoa
                      clear hoa hba hda hwa HZ HW HX hln
                      go_wp2_with fail
                      refine C.mono ?_
                      rintro e' wb ⟨vb, rfl, hob, hbb⟩
                      rw [HLN.out] at hob
                      obtain ⟨ab, cb, rfl, _⟩ := own_slice hob
                      have hA := row_nat (own_step HOA.out hbb)
                      have hB := row_nat hob
                      have I := ints_any hA hB
                      have hdb' := HDA.out.below hbb
                      have hwb := HWA.out.trans (hbb.mono HWA.out.size)
                      have HDB := Lib.hid hdb'
                      have HWB := Lib.hid hwb
                      rw [decide_eq_true rfl] at I
                      clear C hob hbb HDA HWA hA hB hdb' hwb HOA
                      go_wp2_with fail
                      refine I.mono ?_
                      rintro e' wc ⟨rfl, j, rfl⟩
                      have hdc := HDB.out.below (w' := wb.drewN j) ⟨rfl, rfl, rfl, Nat.le_refl _, fun _ _ => rfl⟩
                      have D2 := down_o hdc.left kk
                      have D3 := down_o hdc.swap.left kk
                      rw [← D1.out] at D3
                      have HR := Lib.hid (show ApRel B w da db kk (k + 1) (wb.drewN j) from ⟨M, _, _, HM.out, hdc, HG.out, HWB.out.trans ⟨rfl, rfl, rfl, Nat.le_refl _, fun _ _ => rfl⟩⟩)
                      clear I hdc HDB HWB D1
                      generalize downB (d) kk = dn at *
                      have qdn : (dn == dn) = true := by simp
                      go_wp2_with fail
                      refine D2.mono ?_
                      rintro e' wd ⟨rfl, rfl⟩
                      go_wp2_with fail
                      refine D3.mono ?_
                      rintro e' wd ⟨rfl, rfl⟩
                      clear D2 D3
                      go_wp2_with fail
                      go_roundw
                      case rel => exact ⟨k + 1, hlt, by go_num, HR.out⟩
                      case measure => simp [intOf]; omega
          · have qr : (y.region == (kk : Int)) = false := by simp [hyr]
            have qn : (y.region != (kk : Int)) = true := by simp [hyr]
            clear hks
            have C := other_any hdx.opens (by omega) y hyp
            have hG := ap_otherD hg y hyr
            clear hd hg HBX hyr hdx
            go_wp2_with fail
            refine C.mono ?_
            rintro e' w7 ⟨rfl, M7, hM7, hM7', hd7, hb7, _⟩
            have hZ := hd7.two
            have hV : Below w.heap.size w w7 := (hbw.alloc hsw _).trans (hb7.mono hBw)
            have hMM : M7 ≤ 2 * (k + 1) := by omega
            clear C hd7 hbw hM hM7 hM7' hb7

            have HZ := Lib.hid hZ
            have HG := Lib.hid hG
            have HV := Lib.hid hV
            have HM := Lib.hid hMM

            clear hZ hG hV hMM
            go_wp2_with fail
            go_loopw [16] (fun i wr => ∃ p : Nat, p ≤ 4 ∧ i = .int .i64 p ∧ Two B wr da db (M7) (otherD d y) (e) ∧ Below w.heap.size w wr) (fun i _ => 4 - (intOf i).toNat)
            case atStart => exact ⟨0, by omega, rfl, HZ.out, HV.out⟩
            case round =>
              clear HZ HV
              obtain ⟨p, hp, rfl, hdp, hbp⟩ := hrel
              have hM9 : M7 ≤ 900000 := by have := HM.out; omega
              by_cases hlp : p < 4
              · obtain ⟨z, hz⟩ : ∃ z, z = readB (otherD d y) kk p := ⟨_, rfl⟩
                obtain ⟨er, her⟩ : ∃ er, er = pagedE (otherD d y) kk p := ⟨_, rfl⟩
                have C := read_o hdp.left kk p
                rw [← hz, ← her] at C
                have hz2 : readB (e) kk p = z := by rw [hz, ap_readB HG.out]
                have her2 : pagedE (e) kk p = er := by rw [her, ap_pagedE HG.out]
                have HZ2 := Lib.hid hz2
                have HE2 := Lib.hid her2
                clear hz her hz2 her2
                go_wp2_with fail
                refine C.mono ?_
                rintro e' wa ⟨va, rfl, hoa, hba⟩
                obtain ⟨aa, ca, rfl, hra⟩ := Bs.of_own hoa
                have hda := hdp.below hba
                have hwa : Below w.heap.size w wa := hbp.trans (hba.mono hbp.size)
                have C := read_o hda.swap.left kk p
                rw [HZ2.out, HE2.out] at C
                have HRA := Lib.hid hra
                have HZ := Lib.hid hda
                have HW := Lib.hid hwa
                clear hoa hba hdp hbp hra hda hwa HZ2 HE2
                go_wp2_with fail
                refine C.mono ?_
                rintro e' wb ⟨vb, rfl, hob, hbb⟩
                obtain ⟨ab, cb, rfl, hrb⟩ := Bs.of_own hob
                have hra2 := HRA.out.below (Nat.le_refl _) hbb
                have K1 := conv_string (P := Try.prog) Try.underlying22 Try.underlying5 Try.underlying9 hra2
                have K2 := conv_string (P := Try.prog) Try.underlying22 Try.underlying5 Try.underlying9 hrb
                have hst := strOf_toList z
                have qer : (er == er) = true := by simp
                have hdb' := Lib.hid (HZ.out.below hbb)
                have hwb := Lib.hid (HW.out.trans (hbb.mono HW.out.size))
                clear C hra2 hrb hob hbb HZ HW HRA hM9
                go_wp2_with fail
                go_roundw
                case rel => exact ⟨p + 1, hlp, by go_num, hdb'.out, hwb.out⟩
                case measure => simp [intOf]; omega
              · obtain rfl : p = 4 := by omega
                obtain ⟨x, hx, hxe⟩ : ∃ x, (otherD d y)[kk]? = some x ∧ (e)[kk]? = some x := by
                  obtain ⟨_, _, h3, x, hx, _⟩ := HG.out
                  exact ⟨x, hx, by rw [← h3]; exact hx⟩
                have C := loose_o hdp.left hM9 kk x hx
                have D1 := Lib.hid (ap_downB HG.out)
                have HX := Lib.hid hxe
                have HZ := Lib.hid hdp
                have HW := Lib.hid hbp
                clear hx hxe hdp hbp
                go_wp2_with fail
                refine C.mono ?_
                rintro e' wa ⟨va, rfl, hoa, hba⟩
                have hda := HZ.out.below hba
                have hwa := HW.out.trans (hba.mono HW.out.size)
                have C := loose_o hda.swap.left hM9 kk x HX.out
                have hln : (x.loose.map (·.1)).length = x.loose.length := List.length_map _
                rw [hln] at hoa
                have HLN := Lib.hid hln
                have HOA := Lib.hid hoa
                have HDA := Lib.hid hda
                have HWA := Lib.hid hwa
                obtain ⟨aa, ca, rfl, _⟩ := own_slice hoa
                clear hoa hba hda hwa HZ HW HX hln
                go_wp2_with fail
                refine C.mono ?_
                rintro e' wb ⟨vb, rfl, hob, hbb⟩
                rw [HLN.out] at hob
                obtain ⟨ab, cb, rfl, _⟩ := own_slice hob
                have hA := row_nat (own_step HOA.out hbb)
                have hB := row_nat hob
                have I := ints_any hA hB
                have hdb' := HDA.out.below hbb
                have hwb := HWA.out.trans (hbb.mono HWA.out.size)
                have HDB := Lib.hid hdb'
                have HWB := Lib.hid hwb
                rw [decide_eq_true rfl] at I
                clear C hob hbb HDA HWA hA hB hdb' hwb HOA
                go_wp2_with fail
                refine I.mono ?_
                rintro e' wc ⟨rfl, j, rfl⟩
                have hdc := HDB.out.below (w' := wb.drewN j) ⟨rfl, rfl, rfl, Nat.le_refl _, fun _ _ => rfl⟩
                have D2 := down_o hdc.left kk
                have D3 := down_o hdc.swap.left kk
                rw [← D1.out] at D3
                have HR := Lib.hid (show ApRel B w da db kk (k + 1) (wb.drewN j) from ⟨M7, _, _, HM.out, hdc, HG.out, HWB.out.trans ⟨rfl, rfl, rfl, Nat.le_refl _, fun _ _ => rfl⟩⟩)
                clear I hdc HDB HWB D1
                generalize downB (otherD d y) kk = dn at *
                have qdn : (dn == dn) = true := by simp
                go_wp2_with fail
                refine D2.mono ?_
                rintro e' wd ⟨rfl, rfl⟩
                go_wp2_with fail
                refine D3.mono ?_
                rintro e' wd ⟨rfl, rfl⟩
                clear D2 D3
                go_wp2_with fail
                go_roundw
                case rel => exact ⟨k + 1, hlt, by go_num, HR.out⟩
                case measure => simp [intOf]; omega
      · obtain rfl : len = k := by omega
        have END := Lib.hid hbw
        clear hd hg hbw hM
        go_wp2_with fail
        go_ret
        exact ⟨rfl, END.out⟩
end Go.Proofs.Ytopnfpobbemfbaa
