/- Texts of our own, joined: the engine, the machine that runs code, and what is known of the functions. -/
import Derived.Test.YtkhfdjhohfebgaaJh
namespace Go.Proofs.Ytkhfdjhohfebgaa
open Go Go.RowKit
def cutN (X : Smp) (Q : Qry) : Nat := (min (X.length : Int) Q.count).toNat
theorem cutN_le {X : Smp} {Q : Qry} (h : 0 < Q.count) : cutN X Q ≤ X.length := by unfold cutN; omega
theorem take_le {X : Smp} {j B : Nat} (h : X.length ≤ B) : (X.take j).length ≤ B := by rw [List.length_take]; omega
theorem rev_le {X : Smp} {B : Nat} (h : X.length ≤ B) : X.reverse.length ≤ B := by rw [List.length_reverse]; exact h
theorem cutN_is {X : Smp} {Q : Qry} (h : 0 < Q.count) : (cutN X Q : Int) = min (X.length : Int) Q.count := by unfold cutN; omega
set_option maxHeartbeats 1000000 in
set_option maxRecDepth 100000 in
theorem w_rowsCuts (L : Smp) (Q : Qry) (_ : ∀ x ∈ L, In64 x.1 ∧ In64 x.2) (_ : L.length ≤ maxLen) (_ : Q.In64) (_ : Q.times.length ≤ maxLen) : callT G12 5 10 [.rw 0 0 L.length 2 2, qRw 1 Q] (mkH [(0, .ro (smp L)), (1, .ro (ints Q.times))]) 2 fun v _ _ => v = .bool true ∨ v = .sb true := by
  conv => whnf
  refine Fork.dec (fun h1 => ?_) (fun h1 => ?_)
  · conv => whnf
    exact .inl rfl
  have hl : L.length ≤ 60 := by have : ¬ (60 : Int) < (L.length : Int) := h1; omega
  conv => whnf
  refine Fork.dec (fun h2 => ?_) (fun h2 => ?_)
  · conv => whnf
    exact .inl rfl
  have ht : Q.times.length ≤ 60 := by have : ¬ (60 : Int) < (Q.times.length : Int) := h2; omega
  have hA := tellF_len L Q
  have hB := tellF_len L (qAll Q)
  have hC := tellF_len L (qTurn Q)
  have mA : (tellF L Q).1.length ≤ 1000000 := by omega
  have mB : (tellF L (qAll Q)).1.length ≤ 1000000 := by omega
  have mC : (tellF L (qTurn Q)).1.length ≤ 1000000 := by omega
  conv => whnf
  refine ⟨L, Q, SmpAt.rowO rfl rfl (smp_map _), qatR rfl, by omega, by omega, ⟨rfl, by decide⟩, ?_⟩
  conv => whnf
  refine ⟨L, qAll Q, SmpAt.rowO rfl rfl (smp_map _), ⟨_, _, _, _, _, _, _, _, _, _, _, _, rfl, IntAt.rowO rfl rfl (ints_map _), rfl⟩, by omega, Nat.le_trans ht (by decide), ⟨rfl, by decide⟩, ?_⟩
  conv => whnf
  refine ⟨L, qTurn Q, SmpAt.rowO rfl rfl (smp_map _), ⟨_, _, _, _, _, _, _, _, _, _, _, _, rfl, IntAt.rowO rfl rfl (ints_map _), rfl⟩, by omega, Nat.le_trans ht (by decide), ⟨rfl, by decide⟩, ?_⟩
  conv => whnf
  refine Fork.ndec (fun hB0 => ?_) (fun hB0 => ?_)
  · have hB0 : (tellF L (qAll Q)).2 ≠ 0 := hB0
    have hAC := cut_errF hB0
    have hA1 := hAC.1
    have hC1 := hAC.2
    have hAn : (tellF L Q).1 = [] := tell_noneF hA1
    conv => whnf
    refine Fork.dec (fun h => absurd h hB0) (fun _ => ?_)
    conv => whnf
    refine Fork.ndec (fun _ => ?_) (fun h => absurd h hA1)
    conv => whnf
    refine Fork.ndec (fun _ => ?_) (fun h => absurd h hC1)
    conv => whnf
    refine Fork.dec (fun _ => ?_) (fun h => absurd (show ((tellF L Q).1.length : Int) = 0 by rw [hAn]; rfl) h)
    conv => whnf
    exact .inl rfl
  have hB0 : (tellF L (qAll Q)).2 = 0 := hB0
  conv => whnf
  refine Fork.ndec (fun hA1 => ?_) (fun hA1 => ?_)
  · have hA1 : (tellF L Q).2 ≠ 0 := hA1
    have hAn : (tellF L Q).1 = [] := tell_noneF hA1
    conv => whnf
    refine Fork.dec (fun _ => ?_) (fun h => absurd hB0 h)
    conv => whnf
    refine Fork.dec (fun _ => ?_) (fun h => absurd (show ((tellF L Q).1.length : Int) = 0 by rw [hAn]; rfl) h)
    conv => whnf
    exact .inl rfl
  have hA1 : (tellF L Q).2 = 0 := hA1
  have hE12 := cut_okF hB0 hA1
  have e1 := hE12.1
  have e2 := hE12.2
  conv => whnf
  refine Fork.dec (fun hc => ?_) (fun hc => ?_)
  · have hc : 0 < Q.count := hc
    have hj := cutN_is (X := (tellF L (qAll Q)).1) hc
    have e3 := t5_min (X := (tellF L (qAll Q)).1) hc hj
    have hjl := cutN_le (X := (tellF L (qAll Q)).1) hc
    conv => whnf
    refine Fork.dec (fun _ => ?_) (fun h => absurd (congrArg Prod.snd e2) h)
    conv => whnf
    refine .mk 0 (cutN (tellF L (qAll Q)).1 Q) rfl (ebnd_i hj.symm) (.inl rfl) (Nat.zero_le _) hjl ?_
    conv => whnf
    refine ⟨(tellF L Q).1, (tellF L (qAll Q)).1.take (cutN (tellF L (qAll Q)).1 Q), SmpAt.row rfl rfl (smp_map _), SmpAt.cut (x := 0) rfl hjl rfl (smp_map _), mA, take_le mB, ?_⟩
    conv => whnf
    refine Fork.sb (fun _ => ?_) (fun h => absurd h (by rw [e1, e3, sameS_refl]; decide))
    conv => whnf
    refine ⟨(tellF L (qAll Q)).1, SmpAt.row rfl rfl (smp_map _), mB, ⟨rfl, by decide⟩, ?_⟩
    conv => whnf
    refine ⟨(tellF L (qTurn Q)).1, (tellF L (qAll Q)).1.reverse, SmpAt.row rfl rfl (smp_map _), SmpAt.row rfl rfl (smp_map _), mC, rev_le mB, ?_⟩
    conv => whnf
    refine Fork.sb (fun _ => ?_) (fun h => absurd h (by rw [e2, sameS_refl]; decide))
    conv => whnf
    exact .inl rfl
  · have hc : ¬ 0 < Q.count := hc
    have e3 : t5 Q (tellF L (qAll Q)).1 = (tellF L (qAll Q)).1.take (tellF L (qAll Q)).1.length := by rw [t5_no hc, List.take_length]
    have hj : (((tellF L (qAll Q)).1.length : Nat) : Int) = ((tellF L (qAll Q)).1.length : Int) := rfl
    have hjl := Nat.le_refl (tellF L (qAll Q)).1.length
    conv => whnf
    refine Fork.dec (fun _ => ?_) (fun h => absurd (congrArg Prod.snd e2) h)
    conv => whnf
    refine .mk 0 (tellF L (qAll Q)).1.length rfl (ebnd_i hj.symm) (.inl rfl) (Nat.zero_le _) hjl ?_
    conv => whnf
    refine ⟨(tellF L Q).1, (tellF L (qAll Q)).1.take (tellF L (qAll Q)).1.length, SmpAt.row rfl rfl (smp_map _), SmpAt.cut (x := 0) rfl hjl rfl (smp_map _), mA, take_le mB, ?_⟩
    conv => whnf
    refine Fork.sb (fun _ => ?_) (fun h => absurd h (by rw [e1, e3, sameS_refl]; decide))
    conv => whnf
    refine ⟨(tellF L (qAll Q)).1, SmpAt.row rfl rfl (smp_map _), mB, ⟨rfl, by decide⟩, ?_⟩
    conv => whnf
    refine ⟨(tellF L (qTurn Q)).1, (tellF L (qAll Q)).1.reverse, SmpAt.row rfl rfl (smp_map _), SmpAt.row rfl rfl (smp_map _), mC, rev_le mB, ?_⟩
    conv => whnf
    refine Fork.sb (fun _ => ?_) (fun h => absurd h (by rw [e2, sameS_refl]; decide))
    conv => whnf
    exact .inl rfl
end Go.Proofs.Ytkhfdjhohfebgaa
