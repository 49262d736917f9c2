/- Names' kinds, as known functions. -/
import Derived.Test.YtaejmcgcfopmkaaAggE
namespace Go.Proofs.Ytaejmcgcfopmkaa
open Go Go.RowKit
def pk (f : Int → Bool) : Int := if f 1 = true then 1 else if f 2 = true then 2 else if f 3 = true then 3 else if f 4 = true then 4 else if f 5 = true then 5 else if f 6 = true then 6 else if f 7 = true then 7 else 0
def pkE (f : Int → Bool) : Int := if pk f = 0 then 17 else 0
noncomputable def aIs (s : List Nat) (k : Int) : Bool := beqL (sName k) (sLow s)
noncomputable def rIs (s : List Nat) (k : Int) : Bool := beqL (sUp (sName k)) (sUp s)
noncomputable def FD : FuncId → EP := withS 32 (natS fun s => .ss (sLow s)) (withS 33 (natS fun s => .ss (sUp s)) (withS 15 (nat1s sName) (withS 16 (nat1s sName) FC)))
theorem FD_ok : TabP FD := withS_ok (withS_ok (withS_ok (withS_ok FC_ok n_name sing1s) n_rname sing1s) n_upper singS) n_lower singS
theorem leafT {a b c d : Int} (h : c = a) (k : d = b) : AV.tup [.si .i64 a, .si .i64 b] = .tup [.si .i64 c, .si .i64 d] := by rw [h, k]
set_option maxHeartbeats 4000000 in
set_option maxRecDepth 100000 in
theorem n_rparse : NatP 13 (natS fun s => .tup [.int .i64 (pk (rIs s)), .int .i64 (pkE (rIs s))]) := natS_ok (d := 2) FD_ok (fun _ => rfl) fun s hs hl => by
  conv => whnf
  refine LoopP.roll 9 ?_
  repeat' (conv => whnf
           first | refine Fork.dec (fun _ => ?_) (fun _ => ?_) | refine Fork.sb (fun _ => ?_) (fun _ => ?_) | refine And.intro hl ?_ | refine And.intro (by decide) ?_ | refine leafT ?_ ?_)
  all_goals
    have w2 : IntKind.i64.wrap (1 + 1) = 2 := rfl
    have w3 : IntKind.i64.wrap (2 + 1) = 3 := rfl
    have w4 : IntKind.i64.wrap (3 + 1) = 4 := rfl
    have w5 : IntKind.i64.wrap (4 + 1) = 5 := rfl
    have w6 : IntKind.i64.wrap (5 + 1) = 6 := rfl
    have w7 : IntKind.i64.wrap (6 + 1) = 7 := rfl
    simp only [w2, w3, w4, w5, w6, w7] at *
    simp [pk, pkE, rIs, *]
set_option maxHeartbeats 4000000 in
set_option maxRecDepth 100000 in
theorem n_parse : NatP 12 (natS fun s => .tup [.int .i64 (pk (aIs s)), .int .i64 (pkE (aIs s))]) := natS_ok (d := 2) FD_ok (fun _ => rfl) fun s hs hl => by
  conv => whnf
  refine LoopP.roll 9 ?_
  conv => whnf
  refine Fork.sb (fun h => absurd h (by decide)) (fun _ => ?_)
  conv => whnf
  refine Fork.sb (fun _ => ?_) (fun h => absurd h (by decide))
  conv => whnf
  refine And.intro hl ?_
  conv => whnf
  refine Fork.sb (fun h => ?_) (fun h => ?_)
  · have e1 : aIs s 1 = true := h
    have r : pk (aIs s) = 1 := by simp [pk, *]
    have q : pkE (aIs s) = 0 := by simp [pkE, r]
    conv => whnf
    exact leafT r q
  have e1 : aIs s 1 = false := h
  clear h
  conv => whnf
  refine Fork.sb (fun _ => ?_) (fun h => absurd h (by decide))
  conv => whnf
  refine And.intro hl ?_
  conv => whnf
  refine Fork.sb (fun h => ?_) (fun h => ?_)
  · have e2 : aIs s 2 = true := h
    have r : pk (aIs s) = 2 := by simp [pk, *]
    have q : pkE (aIs s) = 0 := by simp [pkE, r]
    conv => whnf
    exact leafT r q
  have e2 : aIs s 2 = false := h
  clear h
  conv => whnf
  refine Fork.sb (fun _ => ?_) (fun h => absurd h (by decide))
  conv => whnf
  refine And.intro hl ?_
  conv => whnf
  refine Fork.sb (fun h => ?_) (fun h => ?_)
  · have e3 : aIs s 3 = true := h
    have r : pk (aIs s) = 3 := by simp [pk, *]
    have q : pkE (aIs s) = 0 := by simp [pkE, r]
    conv => whnf
    exact leafT r q
  have e3 : aIs s 3 = false := h
  clear h
  conv => whnf
  refine Fork.sb (fun _ => ?_) (fun h => absurd h (by decide))
  conv => whnf
  refine And.intro hl ?_
  conv => whnf
  refine Fork.sb (fun h => ?_) (fun h => ?_)
  · have e4 : aIs s 4 = true := h
    have r : pk (aIs s) = 4 := by simp [pk, *]
    have q : pkE (aIs s) = 0 := by simp [pkE, r]
    conv => whnf
    exact leafT r q
  have e4 : aIs s 4 = false := h
  clear h
  conv => whnf
  refine Fork.sb (fun _ => ?_) (fun h => absurd h (by decide))
  conv => whnf
  refine And.intro hl ?_
  conv => whnf
  refine Fork.sb (fun h => ?_) (fun h => ?_)
  · have e5 : aIs s 5 = true := h
    have r : pk (aIs s) = 5 := by simp [pk, *]
    have q : pkE (aIs s) = 0 := by simp [pkE, r]
    conv => whnf
    exact leafT r q
  have e5 : aIs s 5 = false := h
  clear h
  conv => whnf
  refine Fork.sb (fun _ => ?_) (fun h => absurd h (by decide))
  conv => whnf
  refine And.intro hl ?_
  conv => whnf
  refine Fork.sb (fun h => ?_) (fun h => ?_)
  · have e6 : aIs s 6 = true := h
    have r : pk (aIs s) = 6 := by simp [pk, *]
    have q : pkE (aIs s) = 0 := by simp [pkE, r]
    conv => whnf
    exact leafT r q
  have e6 : aIs s 6 = false := h
  clear h
  conv => whnf
  refine Fork.sb (fun _ => ?_) (fun h => absurd h (by decide))
  conv => whnf
  refine And.intro hl ?_
  conv => whnf
  refine Fork.sb (fun h => ?_) (fun h => ?_)
  · have e7 : aIs s 7 = true := h
    have r : pk (aIs s) = 7 := by simp [pk, *]
    have q : pkE (aIs s) = 0 := by simp [pkE, r]
    conv => whnf
    exact leafT r q
  have e7 : aIs s 7 = false := h
  clear h
  have r : pk (aIs s) = 0 := by simp [pk, *]
  have q : pkE (aIs s) = 17 := by simp [pkE, r]
  conv => whnf
  exact leafT r q
end Go.Proofs.Ytaejmcgcfopmkaa
