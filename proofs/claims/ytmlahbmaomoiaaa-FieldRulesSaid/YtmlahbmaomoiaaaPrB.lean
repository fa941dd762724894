/-
  Plain: 2^255 - 19 is prime.
-/
import Derived.Test.YtmlahbmaomoiaaaPrA
import Derived.Test.YtmlahbmaomoiaaaFdA
namespace Go.Proofs.Ytmlahbmaomoiaaa

theorem irr127 : Irr 127 := irr_of_tdiv (f := 10) (by decide) (by decide) (by decide +kernel)
theorem irr353 : Irr 353 := irr_of_tdiv (f := 18) (by decide) (by decide) (by decide +kernel)
theorem irr75707 : Irr 75707 := irr_of_tdiv (f := 280) (by decide) (by decide) (by decide +kernel)
theorem irr8574133 : Irr 8574133 := irr_of_tdiv (f := 2930) (by decide) (by decide) (by decide +kernel)

theorem cop {a b : Nat} (ha : Irr a) (hb : Irr b) (h : a ≠ b) : Nat.Coprime a b := by
  rcases ha.2 (Nat.gcd a b) (Nat.gcd_dvd_left _ _) with h1 | h1
  · exact h1
  · rcases hb.2 a (h1 ▸ Nat.gcd_dvd_right a b) with h2 | h2
    · have := ha.1; omega
    · exact absurd h2 h

theorem irrq3 : Irr 1919519569386763 :=
  irr_of_pock (F := 8574133 * 127) (by decide) (by decide) fun r hr hd =>
    (cop irr8574133 irr127 (by decide)).mul_dvd_of_dvd_of_dvd
      (pock_q (k := 223873314) (a := 2) (f := 51) (by decide) (by decide) irr8574133 (by decide) (by decide +kernel) (by decide +kernel) hr hd)
      (pock_q (k := 15114327318006) (a := 2) (f := 51) (by decide) (by decide) irr127 (by decide) (by decide +kernel) (by decide +kernel) hr hd)
theorem irrq2 : Irr 75445702479781427272750846543864801 :=
  irr_of_pock (F := 1919519569386763 * 75707) (by decide) (by decide) fun r hr hd =>
    (cop irrq3 irr75707 (by decide)).mul_dvd_of_dvd_of_dvd
      (pock_q (k := 39304471641247389600) (a := 2) (f := 116) (by decide) (by decide) irrq3 (by decide) (by decide +kernel) (by decide +kernel) hr hd)
      (pock_q (k := 996548568557483816196003626400) (a := 2) (f := 116) (by decide) (by decide) irr75707 (by decide) (by decide +kernel) (by decide +kernel) hr hd)
theorem irrq1 : Irr 74058212732561358302231226437062788676166966415465897661863160754340907 :=
  irr_of_pock (F := 75445702479781427272750846543864801 * 353) (by decide) (by decide) fun r hr hd =>
    (cop irrq2 irr353 (by decide)).mul_dvd_of_dvd_of_dvd
      (pock_q (k := 981609426360740691344999861639072106) (a := 2) (f := 236) (by decide) (by decide) irrq2 (by decide) (by decide +kernel) (by decide +kernel) hr hd)
      (pock_q (k := 209796636636151156663544550813209033076960244803019540118592523383402) (a := 2) (f := 236) (by decide) (by decide) irr353 (by decide) (by decide +kernel) (by decide +kernel) hr hd)
theorem irrP : Irr P255 :=
  irr_of_pock (F := 74058212732561358302231226437062788676166966415465897661863160754340907) (by decide) (by decide) fun r hr hd =>
    pock_q (k := 781764) (a := 2) (f := 255) (by decide) (by decide) irrq1 (by decide) (by decide +kernel) (by decide +kernel) hr hd
end Go.Proofs.Ytmlahbmaomoiaaa
