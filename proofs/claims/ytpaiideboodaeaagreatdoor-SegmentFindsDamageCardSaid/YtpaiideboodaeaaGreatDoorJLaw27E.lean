/- law27: SegmentEncode: the walk of the law itself. Condition: the table of letters. -/
import Derived.Test.YtpaiideboodaeaaGreatDoorJIdxP
import Derived.Test.YtpaiideboodaeaaGreatDoorJEnc27
import Derived.Test.YtpaiideboodaeaaGreatDoorJEncO
import Derived.Test.YtpaiideboodaeaaGreatDoorRows
import Derived.ProofKit
import Derived.LaidMore
import Derived.LaidLaws
import Derived.Handed
import Derived.Stop.Joined
import Derived.Test.YtpaiideboodaeaaGreatDoorJInsC
import Derived.HandedShaped
import Derived.Shelf.Vars
import Derived.Lib.LaidTab
namespace Go.Proofs.YtpaiideboodaeaaGreatDoor
open Go.RowKit
set_option linter.unusedVariables false
set_option linter.unusedSimpArgs false

set_option maxHeartbeats 4000000 in
theorem law_encode (A0 : Option Addr) (l0 : List Int) (d0 : Nat) (w : World) (hK : Kinds w) (h : Rd (fun _ => True) w A0 (l0.map (.int .u8))) (hc : l0.length ≤ d0) (hcm : d0 ≤ maxLen) (hx : ∀ x ∈ l0, 0 ≤ x ∧ x ≤ 255) :
    Calls Tryz.prog 3 #[.slice A0 l0.length d0] w (BoolExt true w) := by
  have KD := Lib.hid (fun (w' : World) (hg : w.grownBy w' none) => draw27_any A0 l0 d0 w' (h.grown hg (by simp)) hc hcm hx)
  have HK := Lib.hid hK
  clear h hc hcm hx hK
  go_enter Tryz.func3, Tryz.ntmps3
  go_wp2_with (go_at_call 6; refine (awake27_any _).mono ?_; rintro e w1 ⟨rfl, hg1⟩)
  refine (KD.out w1 hg1).mono ?_
  rintro e w2 ⟨A3, c3, es, B, dB, g, l, k0, rfl, hel, hec, hcm3, hev, hsr, hgood, hwd, hdm, hown, hob, hcd, hgw, hg2⟩
  have hle := encZ_le hgood (by omega)
  have G2 := Lib.hid (only_trans hg1 hg2)
  have KE := pencode27_any A3 es c3 w2 hev (by omega) hgood hsr (HK.out.grown G2.out (by simp))
  obtain ⟨ws, hws⟩ : ∃ x, x = encX es := ⟨_, rfl⟩
  rw [← hws] at hle hown KE ⊢
  have KE1 := Lib.hid KE
  have RB := Lib.hid (rd_own hown (by decide))
  clear KE hws hev hsr hgood hwd hdm hown hob hcd hgw hg2 hg1 KD
  go_wp2_with fail
  refine KE1.out.mono ?_
  rintro e w3 ⟨v3, rfl, hB3, hg3⟩
  obtain ⟨A5, c5, e5, hc5, hm5, hr5⟩ := hB3.rd
  subst e5
  have R5 := Lib.hid hr5
  have RB3 := Lib.hid (RB.out.grown hg3 (by simp))
  have G3 := Lib.hid (only_trans G2.out hg3)
  have KS := Lib.hid (samebytes_any A5 B ws ws c5 dB w3 R5.out RB3.out (by omega) (by omega) true (by simp))
  clear hB3 hg3 hr5 KE1 RB
  go_wp2_with fail
  refine KS.out.mono ?_
  rintro e w4 ⟨rfl, q, rfl⟩
  have G4 := Lib.hid (only_drewN G3.out q)
  clear KS
  go_wp2_with fail
  go_ret
  exact ⟨rfl, G4.out⟩
end Go.Proofs.YtpaiideboodaeaaGreatDoor

namespace Go.Proofs.YtpaiideboodaeaaGreatDoor
open Go Go.ChangeShapes Go.WideShapes Go.ChangeAt Go.RowKit

def kindT : List Int := (List.range 256).map fun c => if 48 ≤ c ∧ c ≤ 57 then 1 else if (65 ≤ c ∧ c ≤ 90) ∨ (97 ≤ c ∧ c ≤ 122) then 2 else if c = 32 ∨ c = 9 then 4 else 0
theorem tabK : (Rows.laid_logtide_ascii_kinds : DataW Unit) = Lib.tabData .u8 kindT := by kernel_rfl
theorem kinds_of {W : World} {rest : List (String × DataW Unit)} (h : laidMet Tryz.prog (("logtide/ascii.kinds", Rows.laid_logtide_ascii_kinds) :: rest) W) : Lib.TabIs Tryz.prog W "logtide/ascii.kinds" .u8 kindT := by
  obtain ⟨ps, ⟨g0, t0, cs0, f0, p0, q0, hg0, ht0, hv0, hd0, _⟩, _⟩ := h
  obtain rfl := Option.some.inj ((show Tryz.prog.globalNamed "logtide/ascii.kinds" = some 0 by kernel_rfl).symm.trans hg0)
  obtain rfl := Option.some.inj ((show (Tryz.prog.globals[0]?).map (·.type) = some 249 by kernel_rfl).symm.trans ht0)
  rw [tabK] at hd0
  have hc := Lib.cells_of_tab Tryz.underlying249 Tryz.underlying5 (by kernel_rfl) (by kernel_rfl) hd0
  unfold Lib.TabIs
  rw [hv0, ← hc]
theorem kinds_met {W : World} {rest : List (String × DataW Unit)} (h : laidMet Tryz.prog (("logtide/ascii.kinds", Rows.laid_logtide_ascii_kinds) :: rest) W) : Kinds W := by
  have hT := kinds_of h
  have hl : kindT.length = 256 := by kernel_rfl
  have hg : Tryz.prog.globalNamed "logtide/ascii.kinds" = some 0 := by kernel_rfl
  have hk : ∀ c : Nat, 97 ≤ c → c ≤ 122 → W.cell? ⟨0, c, none⟩ = some (.int .u8 2) := fun c h1 h2 => by
    have h3 := hT.cell hg c (by rw [hl]; omega)
    have h4 : kindT.getD c 0 = 2 := by
      unfold kindT
      rw [List.getD_eq_getElem?_getD, List.getElem?_map, List.getElem?_range (by omega)]
      simp
      omega
    rw [h4] at h3
    exact h3
  exact ⟨World.block_lt_of_cell? W _ (hk 97 (by omega) (by omega)), hk⟩
end Go.Proofs.YtpaiideboodaeaaGreatDoor
