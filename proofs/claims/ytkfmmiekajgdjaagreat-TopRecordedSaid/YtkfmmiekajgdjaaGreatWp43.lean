/- Package auditor: derive. -/
import Derived.Test.YtkfmmiekajgdjaaGreatPd43
namespace Go.Proofs.YtkfmmiekajgdjaaGreat
open Go.RowKit
attribute [local go_sem] Oper.semAt_some

/-- What derive leaves. -/
def DerOut (w0 w : World) (g : Nat) (c : ClA) (b : BilA) (r : Int) (e : Ending) (w' : World) : Prop :=
  Agr w w' [g] ∧ ((derOk c.rds = true ∧ e = .returned (.tuple #[]) ∧ ∃ o cap, ExM w0 w' g c ⟨derF c.rds, derT c.rds, derE c.rds, o, cap, derL c.rds⟩ b r ∧ TwosS [g] w' o (derL c.rds)) ∨ (derOk c.rds = false ∧ e = .panicked [wrongP 3] ∧ ∃ s, ExM w0 w' g c s b r))
theorem DBx.below {w2 W : World} {f t e : Int} {l : List (Int × Int)} (h : DBx w2 W f t e l) : Below w2.heap.size w2 W := by
  obtain ⟨o, cap, hg⟩ := h
  exact hg.below
theorem DBx.later {w2 W w' : World} {f t e : Int} {l : List (Int × Int)} (h : DBx w2 W f t e l) (hb : Below W.heap.size W w') : DBx w2 w' f t e l := by
  obtain ⟨o, cap, hg⟩ := h
  exact ⟨o, cap, hg.later hb⟩

set_option maxRecDepth 100000 in
set_option maxHeartbeats 32000000 in
theorem derive_any (w0 w : World) (g : Nat) (c : ClA) (b : BilA) (r : Int) (h : ExM w0 w g c SesA.zero b r) (hc : ChOk c.rds) : Calls Tryz.prog 48 #[.pointer (some ⟨g, 0, none⟩)] w (DerOut w0 w g c b r) := by
  have HX := Lib.hid h
  have HC := Lib.hid hc
  have hn1 := hc.n1
  have hn64 := hc.n64
  clear h hc
  have HNO := Lib.hid (fun (w' : World) (s : SesA) (hv : derOk c.rds = false) (hag : Agr w w' [g]) (hx : ExM w0 w' g c s b r) => show DerOut w0 w g c b r (.panicked [wrongP 3]) w' from ⟨hag, .inr ⟨hv, rfl, s, hx⟩⟩)
  have HOK := Lib.hid (fun (w' : World) o cap (hv : derOk c.rds = true) (hag : Agr w w' [g]) (hx : ExM w0 w' g c ⟨derF c.rds, derT c.rds, derE c.rds, o, cap, derL c.rds⟩ b r) (ht : TwosS [g] w' o (derL c.rds)) => show DerOut w0 w g c b r (.returned (.tuple #[])) w' from ⟨hag, .inl ⟨hv, rfl, o, cap, hx, ht⟩⟩)
  obtain ⟨OUT, hOUT⟩ : ∃ O, DerOut w0 w g c b r = O := ⟨_, rfl⟩
  rw [hOUT] at HNO HOK ⊢
  clear hOUT
  have HRD := Lib.hid HX.out.here.rds
  obtain ⟨br, fr, hor, p0, p1, p2, p3, p4⟩ := HRD.out 0 (by omega)
  obtain ⟨br', fr', hor', q0, q1, q2, q3, q4⟩ := HRD.out (c.rds.length - 1) (by omega)
  rw [hor] at hor'
  injection hor' with hor'
  injection hor' with hb' hf'
  subst hb' hf'
  clear p0 p1 p3 p4 q0 q1 q3 q4
  have HOR := Lib.hid hor
  clear hor
  obtain ⟨N, hN⟩ : ∃ N, c.rds.length = N := ⟨_, rfl⟩
  have HN := Lib.hid hN
  rw [hN] at q2 hn1 hn64
  clear hN
  obtain ⟨M, hM⟩ : ∃ M, N - 1 = M := ⟨_, rfl⟩
  have hM2 : (N : Int) - 1 = (M : Int) := by omega
  have hMw : IntKind.i64.wrap ((N : Int) - 1) = (M : Int) := by rw [hM2]; exact IntWalk.i64_in _ (by omega)
  have hM3 : (M : Int) < (N : Int) := by omega
  have hM0 : (0 : Int) ≤ (M : Int) := by omega
  have hN0 : (0 : Int) < (N : Int) := by omega
  have HM := Lib.hid hM
  rw [hM] at q2
  clear hM
  have HFT := Lib.hid (show (getR c.rds 0).m = derF c.rds ∧ (getR c.rds M).m = derT c.rds from ⟨rfl, by rw [← HM.out, ← HN.out]; rfl⟩)
  rw [HFT.out.1] at p2
  rw [HFT.out.2] at q2
  replace p2 : w.cell? ⟨br, fr + 2, none⟩ = some (.int .i64 (derF c.rds)) := by simpa using p2
  have x5 : w.cell? ⟨g, 5, none⟩ = some (.slice (some ⟨br, fr, none⟩) N c.cd) := by have := HX.out.blk.cell 5; rw [← HN.out, ← HOR.out]; exact this
  have r5 : ∀ o, (w.alloc o).cell? ⟨g, 5, none⟩ = some (.slice (some ⟨br, fr, none⟩) N c.cd) := fun o => cell_kept (below_alloc (Below.refl _ _) o) x5
  have rp : ∀ o, (w.alloc o).cell? ⟨br, fr + 2, none⟩ = some (.int .i64 (derF c.rds)) := fun o => cell_kept (below_alloc (Below.refl _ _) o) p2
  have rq : ∀ o, (w.alloc o).cell? ⟨br, fr + M * 5 + 2, none⟩ = some (.int .i64 (derT c.rds)) := fun o => cell_kept (below_alloc (Below.refl _ _) o) q2
  go_enter Tryz.func48, Tryz.ntmps48
  go_upto_region 1 with (fail)
  go_region
  obtain ⟨W1, hW1⟩ : ∃ W1, W1 = (w.alloc (.cells #[.int .i64 (derF c.rds), .int .i64 (derT c.rds), .int .i64 0, .slice none 0 0] 35)).drew := ⟨_, rfl⟩
  rw [← hW1]
  have HG1 := Lib.hid (show Grow w W1 50 2 35 #[.int .i64 (derF c.rds), .int .i64 (derT c.rds), .int .i64 0, .slice none 0 0] (.slice none 0 0) 0 [] by rw [hW1]; exact (Grow.new ..).later (Below.refl _ _).drew)
  clear hW1 x5 r5 rp rq p2 q2
  have HG2 := Lib.hid (HG1.out.store 2 (.int .i64 (derF c.rds)))
  have f2 := HG1.out.blk.frozen 2
  have g2 : W1.cell? ⟨w.heap.size, 2, none⟩ = some (.int .i64 0) := HG1.out.blk.cell 2
  have g0 : W1.cell? ⟨w.heap.size, 0, none⟩ = some (.int .i64 (derF c.rds)) := HG1.out.blk.cell 0
  have HB0 := Lib.hid (show ∃ B, w.heap.size = B from ⟨_, rfl⟩)
  obtain ⟨B, hB⟩ := HB0.out
  have HB := Lib.hid hB
  rw [hB] at f2 g2 g0 HG2 ⊢
  clear hB HB0
  go_upto_region 4 with (fail)
  obtain ⟨W2, hW2⟩ : ∃ W2 : World, W2 = W1.setCell ⟨B, 2, none⟩ (.int .i64 (derF c.rds)) := ⟨_, rfl⟩
  rw [← hW2] at HG2 ⊢
  have HD := Lib.hid (show DBx w W2 (derF c.rds) (derT c.rds) (derP c.rds 0).1 (derP c.rds 0).2 from ⟨none, 0, HG2.out.cast (by simp [derP, derF]) rfl rfl⟩)
  clear hW2 f2 g2 g0 HG1 HG2
  have HINV := Lib.hid (fun k hk => derP_inv HC.out k hk)
  have HL1 := Lib.hid (show derP c.rds (c.rds.length - 1) = (derE c.rds, derL c.rds) from rfl)
  rw [HN.out] at HL1
  have HSTEP := Lib.hid (fun k => show derP c.rds (k + 1) = if (getR c.rds (k + 1)).s = (getR c.rds k).s ∧ derF c.rds < (getR c.rds (k + 1)).m then addP ((getR c.rds (k + 1)).m - 1) ((getR c.rds (k + 1)).r - (getR c.rds k).r) (derP c.rds k) else derP c.rds k from rfl)
  have HSES := Lib.hid (fun hd o cap => derOk_ses HC.out hd o cap)
  have HOKD := Lib.hid (show derOk c.rds = (derHd c.rds && derSm c.rds) from rfl)
  have HHD := Lib.hid (show derHd c.rds = (decide (derF c.rds < derT c.rds) && (decide (derT c.rds - derF c.rds ≤ 2880) && decide (((derL c.rds).length : Int) ≤ 48))) from rfl)
  have HFB := Lib.hid (HC.out.m 0 (by rw [HN.out]; omega))
  have HTB := Lib.hid (HC.out.m M (by rw [HN.out]; omega))
  rw [HFT.out.1] at HFB
  rw [HFT.out.2] at HTB
  have HRB := Lib.hid (fun k (hk : k < N) => And.intro (HC.out.m k (by rw [HN.out]; exact hk)) (HC.out.r k (by rw [HN.out]; exact hk)))
  have HFOL := Lib.hid (fun k (hk : k + 1 < N) hs => follows_r (HC.out.fl k (by rw [HN.out]; exact hk)) hs)
  have HINV2 := Lib.hid (fun k (hk : k < N) => HINV.out k (by rw [HN.out]; exact hk))
  have HRD2 := Lib.hid (fun k (hk : k < N) => HRD.out k (by rw [HN.out]; exact hk))
  have hf0 := HFB.out.1
  have hf1 := HFB.out.2
  have ht0 := HTB.out.1
  have ht1 := HTB.out.2
  obtain ⟨FF, hFF⟩ : ∃ x, derF c.rds = x := ⟨_, rfl⟩
  obtain ⟨TT, hTT⟩ : ∃ x, derT c.rds = x := ⟨_, rfl⟩
  have HFE := Lib.hid (show derF c.rds = FF ∧ derT c.rds = TT from ⟨hFF, hTT⟩)
  rw [hFF] at HD HSTEP HHD HINV2 hf0 hf1
  rw [hTT] at HD HHD ht0 ht1
  rw [hFF, hTT] at HOK HSES
  try rw [hFF]
  try rw [hTT]
  clear hFF hTT HFT HFB HTB HINV HRD
  go_wp2_with fail
  try go_wp2
  go_loopw [5] (fun i wr => ∃ J : Nat, 1 ≤ J ∧ J ≤ N ∧ i = .int .i64 (J : Int) ∧ DBx w wr FF TT (derP c.rds (J - 1)).1 (derP c.rds (J - 1)).2) (fun i _ => N - (intOf i).toNat)
  case atStart => exact ⟨1, Nat.le_refl _, hn1, rfl, HD.out⟩
  case round =>
    obtain ⟨J, hJ1, hJN, rfl, hd⟩ := hrel
    clear HD
    obtain ⟨wA, rfl⟩ : ∃ wA : World, wA = wr := ⟨_, rfl⟩
    have HD := Lib.hid hd
    clear hd
    by_cases hlt : J < N
    · obtain ⟨k, hk⟩ : ∃ k, J - 1 = k := ⟨_, rfl⟩
      have hJk : J = k + 1 := by omega
      have HK := Lib.hid hJk
      have hkN : k < N := by omega
      have hJ2 : (J : Int) - 1 = (k : Int) := by omega
      have hJw : IntKind.i64.wrap ((J : Int) - 1) = (k : Int) := by rw [hJ2]; exact IntWalk.i64_in _ (by omega)
      have HSK := Lib.hid (HSTEP.out k)
      have HIK := Lib.hid (HINV2.out k hkN)
      have HRJ := Lib.hid (HRB.out J hlt)
      have HRK := Lib.hid (HRB.out k hkN)
      have HFK := Lib.hid (HFOL.out k (by omega))
      rw [← hJk] at HSK HFK
      rw [hk] at HD
      have HBW := Lib.hid HD.out.below
      obtain ⟨b1, f1, ho1, a0, a1, a2, a3, a4⟩ := HRD2.out k hkN
      obtain ⟨b2, f2, ho2, e0, e1, e2, e3, e4⟩ := HRD2.out J hlt
      rw [HOR.out] at ho1 ho2
      injection ho1 with ho1
      injection ho1 with h1 h2
      subst h1 h2
      injection ho2 with ho2
      injection ho2 with h1 h2
      subst h1 h2
      clear hk hJk
      obtain ⟨x, hx⟩ : ∃ x, getR c.rds k = x := ⟨_, rfl⟩
      obtain ⟨y, hy⟩ : ∃ y, getR c.rds J = y := ⟨_, rfl⟩
      rw [hx] at a0 a1 a2 a3 a4 HSK HRK HFK
      rw [hy] at e0 e1 e2 e3 e4 HSK HRJ HFK
      clear hx hy
      replace a0 := cell_kept HBW.out a0
      replace a1 := cell_kept HBW.out a1
      replace a2 := cell_kept HBW.out a2
      replace a3 := cell_kept HBW.out a3
      replace a4 := cell_kept HBW.out a4
      replace e0 := cell_kept HBW.out e0
      replace e1 := cell_kept HBW.out e1
      replace e2 := cell_kept HBW.out e2
      replace e3 := cell_kept HBW.out e3
      replace e4 := cell_kept HBW.out e4
      have x5 : wA.cell? ⟨g, 5, none⟩ = some (.slice (some ⟨br, fr, none⟩) N c.cd) := by have := (HX.out.later HBW.out).blk.cell 5; rw [← HN.out, ← HOR.out]; exact this
      have hz1 : (0 : Int) ≤ (k : Int) := by omega
      have hz2 : (k : Int) < (N : Int) := by omega
      have hz3 : (0 : Int) ≤ (J : Int) := by omega
      have hz4 : (J : Int) < (N : Int) := by omega

      go_upto_region 7 with (fail)
      go_cut [6, 7] (fun a b wx => ∃ H1 H2, a = .pointer (some ⟨H1, 0, none⟩) ∧ b = .pointer (some ⟨H2, 0, none⟩) ∧ Below wA.heap.size wA wx ∧ RdB wx H1 x ∧ RdB wx H2 y)
      case first =>
        have qx5 : ∀ o, (wA.alloc o).cell? ⟨g, 5, none⟩ = some (.slice (some ⟨br, fr, none⟩) N c.cd) := fun o => cell_kept (below_alloc (Below.refl _ _) o) x5
        have rx5 : ∀ o o', ((wA.alloc o).alloc o').cell? ⟨g, 5, none⟩ = some (.slice (some ⟨br, fr, none⟩) N c.cd) := fun o o' => cell_kept (below_alloc (Below.refl _ _) o') (qx5 o)
        have qa0 : ∀ o, (wA.alloc o).cell? ⟨br, fr + k * 5, none⟩ = some (.int .i64 x.s) := fun o => cell_kept (below_alloc (Below.refl _ _) o) a0
        have ra0 : ∀ o o', ((wA.alloc o).alloc o').cell? ⟨br, fr + k * 5, none⟩ = some (.int .i64 x.s) := fun o o' => cell_kept (below_alloc (Below.refl _ _) o') (qa0 o)
        have qa1 : ∀ o, (wA.alloc o).cell? ⟨br, fr + k * 5 + 1, none⟩ = some (.int .i64 x.n) := fun o => cell_kept (below_alloc (Below.refl _ _) o) a1
        have ra1 : ∀ o o', ((wA.alloc o).alloc o').cell? ⟨br, fr + k * 5 + 1, none⟩ = some (.int .i64 x.n) := fun o o' => cell_kept (below_alloc (Below.refl _ _) o') (qa1 o)
        have qa2 : ∀ o, (wA.alloc o).cell? ⟨br, fr + k * 5 + 2, none⟩ = some (.int .i64 x.m) := fun o => cell_kept (below_alloc (Below.refl _ _) o) a2
        have ra2 : ∀ o o', ((wA.alloc o).alloc o').cell? ⟨br, fr + k * 5 + 2, none⟩ = some (.int .i64 x.m) := fun o o' => cell_kept (below_alloc (Below.refl _ _) o') (qa2 o)
        have qa3 : ∀ o, (wA.alloc o).cell? ⟨br, fr + k * 5 + 3, none⟩ = some (.int .i64 x.r) := fun o => cell_kept (below_alloc (Below.refl _ _) o) a3
        have ra3 : ∀ o o', ((wA.alloc o).alloc o').cell? ⟨br, fr + k * 5 + 3, none⟩ = some (.int .i64 x.r) := fun o o' => cell_kept (below_alloc (Below.refl _ _) o') (qa3 o)
        have qa4 : ∀ o, (wA.alloc o).cell? ⟨br, fr + k * 5 + 4, none⟩ = some (.int .u64 x.k) := fun o => cell_kept (below_alloc (Below.refl _ _) o) a4
        have ra4 : ∀ o o', ((wA.alloc o).alloc o').cell? ⟨br, fr + k * 5 + 4, none⟩ = some (.int .u64 x.k) := fun o o' => cell_kept (below_alloc (Below.refl _ _) o') (qa4 o)
        have qe0 : ∀ o, (wA.alloc o).cell? ⟨br, fr + J * 5, none⟩ = some (.int .i64 y.s) := fun o => cell_kept (below_alloc (Below.refl _ _) o) e0
        have re0 : ∀ o o', ((wA.alloc o).alloc o').cell? ⟨br, fr + J * 5, none⟩ = some (.int .i64 y.s) := fun o o' => cell_kept (below_alloc (Below.refl _ _) o') (qe0 o)
        have qe1 : ∀ o, (wA.alloc o).cell? ⟨br, fr + J * 5 + 1, none⟩ = some (.int .i64 y.n) := fun o => cell_kept (below_alloc (Below.refl _ _) o) e1
        have re1 : ∀ o o', ((wA.alloc o).alloc o').cell? ⟨br, fr + J * 5 + 1, none⟩ = some (.int .i64 y.n) := fun o o' => cell_kept (below_alloc (Below.refl _ _) o') (qe1 o)
        have qe2 : ∀ o, (wA.alloc o).cell? ⟨br, fr + J * 5 + 2, none⟩ = some (.int .i64 y.m) := fun o => cell_kept (below_alloc (Below.refl _ _) o) e2
        have re2 : ∀ o o', ((wA.alloc o).alloc o').cell? ⟨br, fr + J * 5 + 2, none⟩ = some (.int .i64 y.m) := fun o o' => cell_kept (below_alloc (Below.refl _ _) o') (qe2 o)
        have qe3 : ∀ o, (wA.alloc o).cell? ⟨br, fr + J * 5 + 3, none⟩ = some (.int .i64 y.r) := fun o => cell_kept (below_alloc (Below.refl _ _) o) e3
        have re3 : ∀ o o', ((wA.alloc o).alloc o').cell? ⟨br, fr + J * 5 + 3, none⟩ = some (.int .i64 y.r) := fun o o' => cell_kept (below_alloc (Below.refl _ _) o') (qe3 o)
        have qe4 : ∀ o, (wA.alloc o).cell? ⟨br, fr + J * 5 + 4, none⟩ = some (.int .u64 y.k) := fun o => cell_kept (below_alloc (Below.refl _ _) o) e4
        have re4 : ∀ o o', ((wA.alloc o).alloc o').cell? ⟨br, fr + J * 5 + 4, none⟩ = some (.int .u64 y.k) := fun o o' => cell_kept (below_alloc (Below.refl _ _) o') (qe4 o)
        go_region
        all_goals (go_wp2_with fail; go_meet)
        · refine ⟨wA.heap.size, wA.heap.size + 1, rfl, rfl, ?_, ?_, ?_⟩
          · exact below_step (below_alloc (below_alloc (Below.refl _ _) _) _) (Below.refl _ _).drew
          · exact (RdB.new wA x).later (below_step (below_alloc (Below.refl _ _) _) (Below.refl _ _).drew)
          · have := RdB.new (wA.alloc (.cells #[.int .i64 x.s, .int .i64 x.n, .int .i64 x.m, .int .i64 x.r, .int .u64 x.k] 55)) y
            rw [World.size_alloc] at this
            exact this.later (Below.refl _ _).drew
        · refine ⟨wA.heap.size + 1, wA.heap.size, rfl, rfl, ?_, ?_, ?_⟩
          · exact below_step (below_alloc (below_alloc (Below.refl _ _) _) _) (Below.refl _ _).drew
          · have := RdB.new (wA.alloc (.cells #[.int .i64 y.s, .int .i64 y.n, .int .i64 y.m, .int .i64 y.r, .int .u64 y.k] 55)) x
            rw [World.size_alloc] at this
            exact this.later (Below.refl _ _).drew
          · exact (RdB.new wA y).later (below_step (below_alloc (Below.refl _ _) _) (Below.refl _ _).drew)
      case rest =>
        obtain ⟨H1, H2, rfl, rfl, hbc, hr1, hr2⟩ := hcut
        have HX1 := Lib.hid hr1
        have HX2 := Lib.hid hr2
        replace HD := Lib.hid (HD.out.later hbc)
        clear hbc hr1 hr2 a0 a1 a2 a3 a4 e0 e1 e2 e3 e4 x5
        have u0 : wc.cell? ⟨H1, 0, none⟩ = some (.int .i64 x.s) := HX1.out.cell 0
        have u3 : wc.cell? ⟨H1, 3, none⟩ = some (.int .i64 x.r) := HX1.out.cell 3
        have v0 : wc.cell? ⟨H2, 0, none⟩ = some (.int .i64 y.s) := HX2.out.cell 0
        have v2 : wc.cell? ⟨H2, 2, none⟩ = some (.int .i64 y.m) := HX2.out.cell 2
        have v3 : wc.cell? ⟨H2, 3, none⟩ = some (.int .i64 y.r) := HX2.out.cell 3
        obtain ⟨os, cs, hgs⟩ := HD.out
        have t0 : wc.cell? ⟨B, 0, none⟩ = some (.int .i64 FF) := by rw [← HB.out]; exact hgs.blk.cell 0
        clear hgs
        obtain ⟨st, hst⟩ : ∃ st, derP c.rds k = st := ⟨_, rfl⟩
        rw [hst] at HD HIK HSK
        clear hst
        have hwJ : IntKind.i64.wrap ((J : Int) + 1) = ((J + 1 : Nat) : Int) := by rw [IntWalk.i64_in _ (by omega)]; push_cast; rfl
        by_cases ks : y.s = x.s
        rotate_left
        · have ds : (y.s == x.s) = false := by simpa using ks
          have HST := Lib.hid (show derP c.rds J = st by rw [HSK.out, if_neg (fun h => ks h.1)])
          clear ks
          go_wp2
          go_roundw
          case rel => exact ⟨J + 1, by omega, hlt, by go_num, by rw [Nat.add_sub_cancel, HST.out]; exact HD.out⟩
          case measure => simp [intOf]; omega
        have ds : (y.s == x.s) = true := by simpa using ks
        by_cases km : FF < y.m
        rotate_left
        · have dm : decide (FF < y.m) = false := decide_eq_false km
          have HST := Lib.hid (show derP c.rds J = st by rw [HSK.out, if_neg (fun h => km h.2)])
          clear ks km
          go_wp2
          go_roundw
          case rel => exact ⟨J + 1, by omega, hlt, by go_num, by rw [Nat.add_sub_cancel, HST.out]; exact HD.out⟩
          case measure => simp [intOf]; omega
        have dm : decide (FF < y.m) = true := decide_eq_true km
        have HST := Lib.hid (show derP c.rds J = addP (y.m - 1) (y.r - x.r) st by rw [HSK.out, if_pos ⟨ks, km⟩])
        have hyr := HFK.out ks
        have hm0 := HRJ.out.1.1
        have hm1 := HRJ.out.1.2
        have hr0 := HRJ.out.2.1
        have hr1 := HRJ.out.2.2
        have hr2 := HRK.out.2.1
        have hr3 := HRK.out.2.2
        have hwm : IntKind.i64.wrap (y.m - 1) = y.m - 1 := IntWalk.i64_in _ (by omega)
        have hwr : IntKind.i64.wrap (y.r - x.r) = y.r - x.r := IntWalk.i64_in _ (by omega)
        have HCL := Lib.hid (derive1_any w wc FF TT st.1 (y.m - 1) (y.r - x.r) st.2 HD.out (by have := HIK.out.n; omega) (fun z hz => by have := HIK.out.all z hz; omega) (by omega) (by omega) (by omega) (by omega))
        rw [HB.out] at HCL
        clear ks km hyr
        go_wp2_with fail
        refine HCL.out.mono ?_
        rintro _ wd ⟨rfl, hd⟩
        have HD3 := Lib.hid (show DBx w wd FF TT (derP c.rds (J + 1 - 1)).1 (derP c.rds (J + 1 - 1)).2 by rw [Nat.add_sub_cancel, HST.out]; exact hd)
        clear hd HCL u0 u3 v0 v2 v3 t0 ds dm
        go_wp2
        go_roundw
        case rel => exact ⟨J + 1, by omega, hlt, by go_num, HD3.out⟩
        case measure => simp [intOf]; omega
    · obtain rfl : J = N := by omega
      have HDN := Lib.hid (show DBx w wA FF TT (derE c.rds) (derL c.rds) by have := HD.out; rw [HL1.out] at this; exact this)
      clear HD
      have HBW := Lib.hid HDN.out.below
      have HIM := Lib.hid (HINV2.out M (by have := HM.out; omega))
      have hl64 : (derL c.rds).length ≤ 64 := by
        have := HIM.out.n
        have h2 : (derP c.rds M).2 = derL c.rds := by rw [← HM.out, HL1.out]
        rw [h2] at this
        have := HM.out
        omega
      have HEN := Lib.hid (show ∀ x ∈ derL c.rds, 0 ≤ x.2 ∧ x.2 ≤ 64000000000 from fun x hx => by
        have h2 : (derP c.rds M).2 = derL c.rds := by rw [← HM.out, HL1.out]
        have := HIM.out.all x (by rw [h2]; exact hx)
        have := HM.out
        omega)
      have HSMD := Lib.hid (show derSm c.rds = (derL c.rds).all (fun x => decide (x.2 ≤ 10000)) from rfl)
      clear HINV2 HIM HL1 HSTEP HFOL HRB HRD2
      obtain ⟨EE, hEE⟩ : ∃ x, derE c.rds = x := ⟨_, rfl⟩
      obtain ⟨LL, hLL⟩ : ∃ x, derL c.rds = x := ⟨_, rfl⟩
      rw [hEE, hLL] at HDN HOK
      rw [hLL] at HHD hl64 HEN HSMD
      clear hEE hLL
      obtain ⟨os, cs, hgs⟩ := HDN.out
      have HG := Lib.hid hgs
      clear hgs HDN
      have t0 : wA.cell? ⟨B, 0, none⟩ = some (.int .i64 FF) := by rw [← HB.out]; exact HG.out.blk.cell 0
      have t1 : wA.cell? ⟨B, 1, none⟩ = some (.int .i64 TT) := by rw [← HB.out]; exact HG.out.blk.cell 1
      have t3 : wA.cell? ⟨B, 3, none⟩ = some (.slice os LL.length cs) := by rw [← HB.out]; exact HG.out.blk.cell 3
      by_cases k1 : FF < TT
      rotate_left
      · have d1 : decide (FF < TT) = false := decide_eq_false k1
        have HVF := Lib.hid (show derOk c.rds = false by rw [HOKD.out, HHD.out, d1]; simp)
        clear k1
        go_wp2_with fail
        refine (need_no 3 wA).mono ?_
        rintro _ _ ⟨rfl, rfl⟩
        go_wp2
        exact ⟨rfl, HNO.out _ _ HVF.out (Agr.of_below HBW.out) (HX.out.later HBW.out)⟩
      have d1 : decide (FF < TT) = true := decide_eq_true k1
      by_cases k2 : TT - FF ≤ 2880
      rotate_left
      · have d2 : decide (TT - FF ≤ 2880) = false := decide_eq_false k2
        have HVF := Lib.hid (show derOk c.rds = false by rw [HOKD.out, HHD.out, d2]; simp)
        clear k2
        go_wp2_with fail
        refine (need_no 3 wA).mono ?_
        rintro _ _ ⟨rfl, rfl⟩
        go_wp2
        exact ⟨rfl, HNO.out _ _ HVF.out (Agr.of_below HBW.out) (HX.out.later HBW.out)⟩
      have d2 : decide (TT - FF ≤ 2880) = true := decide_eq_true k2
      by_cases k3 : (LL.length : Int) ≤ 48
      rotate_left
      · have d3 : decide ((LL.length : Int) ≤ 48) = false := decide_eq_false k3
        have HVF := Lib.hid (show derOk c.rds = false by rw [HOKD.out, HHD.out, d3]; simp)
        clear k3
        go_wp2_with fail
        refine (need_no 3 wA).mono ?_
        rintro _ _ ⟨rfl, rfl⟩
        go_wp2
        exact ⟨rfl, HNO.out _ _ HVF.out (Agr.of_below HBW.out) (HX.out.later HBW.out)⟩
      have d3 : decide ((LL.length : Int) ≤ 48) = true := decide_eq_true k3
      have HHT := Lib.hid (show derHd c.rds = true by rw [HHD.out, d1, d2, d3]; rfl)
      clear k1 k2 k3
      go_wp2_with fail
      refine (need_ok 3 wA).mono ?_
      rintro _ _ ⟨rfl, rfl⟩
      clear d1 d2 d3 t0 t1
      go_wp2
      have HTS := Lib.hid (ownsRow_twosS (S := [g]) HG.out.own (fun z hz => by obtain rfl := List.mem_singleton.1 hz; have := HX.out.blk.lt; omega))
      clear t3
      go_loopw [106] (fun i wr => ∃ q : Nat, q ≤ LL.length ∧ i = .int .i64 q ∧ Below wA.heap.size wA wr ∧ ∀ j, j < q → (LL.getD j (0, 0)).2 ≤ 10000) (fun i _ => LL.length - (intOf i).toNat)
      case atStart => exact ⟨0, Nat.zero_le _, rfl, Below.refl _ _, fun j hj => absurd hj (Nat.not_lt_zero _)⟩
      case round =>
        obtain ⟨q, hq, rfl, hb, hz⟩ := hrel
        obtain ⟨wB, rfl⟩ : ∃ wB : World, wB = wr := ⟨_, rfl⟩
        have HBB := Lib.hid hb
        have HZ := Lib.hid hz
        clear hb hz
        by_cases hql : q < LL.length
        · obtain ⟨gs, fs, hgo, x0, x1⟩ := (HTS.out.later HBB.out).twos q hql
          have HXE := Lib.hid (HEN.out _ (getD_memP hql))
          have HMEM := Lib.hid (getD_memP hql)
          obtain ⟨x, hx⟩ : ∃ x, LL.getD q (0, 0) = x := ⟨_, rfl⟩
          have HXX := Lib.hid hx
          rw [hx] at x0 x1 HXE HMEM
          clear hx
          rw [hgo]
          have y1 : (0 : Int) ≤ (q : Int) := by omega
          have y2 : (q : Int) < (LL.length : Int) := by omega
          go_upto_region 14 with (fail)
          obtain ⟨wC, hwC⟩ : ∃ W, W = wB.alloc (.cells #[.int .i64 x.1, .int .i64 x.2] 50) := ⟨_, rfl⟩
          have HXS := Lib.hid (show Blk wC wB.heap.size 50 #[.int .i64 x.1, .int .i64 x.2] by rw [hwC]; exact Blk.new _ _ _)
          have HB3 := Lib.hid (below_step HBB.out (show Below wB.heap.size wB wC by rw [hwC]; exact below_alloc (Below.refl _ _) _))
          try rw [← hwC]
          clear hwC x0 x1
          obtain ⟨S, hS⟩ : ∃ B, wB.heap.size = B := ⟨_, rfl⟩
          rw [hS] at HXS ⊢
          clear hS
          have z1 : wC.cell? ⟨S, 1, none⟩ = some (.int .i64 x.2) := HXS.out.cell 1
          by_cases ke : x.2 ≤ 10000
          · have de : decide (x.2 ≤ 10000) = true := decide_eq_true ke
            have HZ2 := Lib.hid (show ∀ j, j < q + 1 → (LL.getD j (0, 0)).2 ≤ 10000 from fun j hj => by
              by_cases e : j = q
              · subst e; rw [HXX.out]; exact ke
              · exact HZ.out j (by omega))
            clear ke
            go_wp2_with fail
            refine (need_ok 3 wC).mono ?_
            rintro _ _ ⟨rfl, rfl⟩
            clear de z1
            go_wp2
            go_roundw
            case rel => exact ⟨q + 1, hql, by go_num, HB3.out, HZ2.out⟩
            case measure => simp [intOf]; omega
          · have de : decide (x.2 ≤ 10000) = false := decide_eq_false ke
            have HVF := Lib.hid (show derOk c.rds = false by
              rw [HOKD.out, HSMD.out, Bool.and_eq_false_iff]
              refine Or.inr (List.all_eq_false.2 ⟨x, HMEM.out, by rw [de]; simp⟩))
            clear ke
            go_wp2_with fail
            refine (need_no 3 wC).mono ?_
            rintro _ _ ⟨rfl, rfl⟩
            go_wp2
            exact ⟨rfl, HNO.out _ _ HVF.out (Agr.of_below (below_step HBW.out HB3.out)) (HX.out.later (below_step HBW.out HB3.out))⟩
        · obtain rfl : q = LL.length := by omega
          have HVT := Lib.hid (show derOk c.rds = true by
            rw [HOKD.out, HHT.out, HSMD.out, Bool.true_and, List.all_eq_true]
            intro x hx
            obtain ⟨j, hj⟩ := List.getElem?_of_mem hx
            have hjl := (List.getElem?_eq_some_iff.1 hj).1
            have := HZ.out j hjl
            rw [List.getD_eq_getElem?_getD, hj] at this
            exact decide_eq_true this)
          have HGB := Lib.hid (HG.out.blk.later HBB.out)
          have HXB := Lib.hid (HX.out.later (below_step HBW.out HBB.out))
          rw [HB.out] at HGB
          have t0 : wB.cell? ⟨B, 0, none⟩ = some (.int .i64 FF) := HGB.out.cell 0
          have t1 : wB.cell? ⟨B, 1, none⟩ = some (.int .i64 TT) := HGB.out.cell 1
          have t2 : wB.cell? ⟨B, 2, none⟩ = some (.int .i64 EE) := HGB.out.cell 2
          have t3 : wB.cell? ⟨B, 3, none⟩ = some (.slice os LL.length cs) := HGB.out.cell 3
          have g5 : wB.cell? ⟨g, 15, none⟩ = some (.int .i64 0) := HXB.out.blk.cell 15
          have g6 : wB.cell? ⟨g, 16, none⟩ = some (.int .i64 0) := HXB.out.blk.cell 16
          have g7 : wB.cell? ⟨g, 17, none⟩ = some (.int .i64 0) := HXB.out.blk.cell 17
          have g8 : wB.cell? ⟨g, 18, none⟩ = some (.slice none 0 0) := HXB.out.blk.cell 18
          have f5 := HXB.out.blk.frozen 15
          have f6 := HXB.out.blk.frozen 16
          have f7 := HXB.out.blk.frozen 17
          have f8 := HXB.out.blk.frozen 18
          have X1 := Lib.hid (show ExM w0 (wB.setCell ⟨g, 15, none⟩ (.int .i64 FF)) g c ⟨FF, 0, 0, none, 0, []⟩ b r from HXB.out.set (by simp [SesA.zero]))
          have A1 := Lib.hid (show Agr wB (wB.setCell ⟨g, 15, none⟩ (.int .i64 FF)) [g] from agr_set)
          have X2 := Lib.hid (show ExM w0 ((wB.setCell ⟨g, 15, none⟩ (.int .i64 FF)).setCell ⟨g, 16, none⟩ (.int .i64 TT)) g c ⟨FF, TT, 0, none, 0, []⟩ b r from X1.out.set (by simp))
          have A2 := Lib.hid (A1.out.trans (agr_set (i := 16) (u := .int .i64 TT)) (fun _ h => h))
          have X3 := Lib.hid (show ExM w0 (((wB.setCell ⟨g, 15, none⟩ (.int .i64 FF)).setCell ⟨g, 16, none⟩ (.int .i64 TT)).setCell ⟨g, 17, none⟩ (.int .i64 EE)) g c ⟨FF, TT, EE, none, 0, []⟩ b r from X2.out.set (by simp))
          have A3 := Lib.hid (A2.out.trans (agr_set (i := 17) (u := .int .i64 EE)) (fun _ h => h))
          have X4 := Lib.hid (show ExM w0 ((((wB.setCell ⟨g, 15, none⟩ (.int .i64 FF)).setCell ⟨g, 16, none⟩ (.int .i64 TT)).setCell ⟨g, 17, none⟩ (.int .i64 EE)).setCell ⟨g, 18, none⟩ (.slice os LL.length cs)) g c ⟨FF, TT, EE, os, cs, LL⟩ b r from X3.out.set (by simp))
          have A4 := Lib.hid (A3.out.trans (agr_set (i := 18) (u := .slice os LL.length cs)) (fun _ h => h))
          have T4 := Lib.hid ((HTS.out.later HBB.out).agr A4.out (fun _ h => h))
          have A5 := Lib.hid ((Agr.of_below (S := [g]) (below_step HBW.out HBB.out)).trans A4.out (fun _ h => h))
          clear X1 X2 X3 A1 A2 A3 A4
          go_wp2
          go_end0
          exact HOK.out _ _ _ HVT.out A5.out X4.out T4.out
end Go.Proofs.YtkfmmiekajgdjaaGreat