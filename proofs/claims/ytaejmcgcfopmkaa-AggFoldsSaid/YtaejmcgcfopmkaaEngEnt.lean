/- The engine: a function's beginning and end; the equations by which a walk is reckoned. -/
import Derived.Test.YtaejmcgcfopmkaaEngFun
namespace Go.Proofs.Ytaejmcgcfopmkaa
open Go Go.RowKit

def packV : List Value → Value
  | [v] => v
  | l => .tuple l.toArray
def resK (P : Program) : List ResultVar → List Value → Env → Hp → KH → Prop
  | [], acc, _, g, K => Fin K (packV acc.reverse) g
  | .tmp t :: rs, acc, ρ, g, K => resK P rs (ρ t :: acc) ρ g K
  | .cell a t :: rs, acc, ρ, g, K => aload P t (ρ a) g fun v => resK P rs (v :: acc) ρ g K
def resSem (tmps : Array Value) (x : ResultVar) : Sem Value := match x with
  | .tmp t => pure (tmps.getD t undef)
  | .cell a t => do
    loadVar t (← asAddr (tmps.getD a undef))
theorem resK_sound {P : Program} {n : Nat} {a : Act} {ρ : Env} (hr : Rel n a ρ) {g : Hp} {K : KH} {w : World} (hw : Fits w g) : ∀ (rs : List ResultVar) (acc : List Value), resK P rs acc ρ g K →
    ∃ vs, (rs.mapM (resSem a.tmps)).run P w = .ok vs w ∧ Fin K (packV (acc.reverse ++ vs)) g
  | [], acc, h => ⟨[], by simp, by simpa [resK] using h⟩
  | .tmp t :: rs, acc, h => by
    obtain ⟨vs, h1, h2⟩ := resK_sound hr hw rs (ρ t :: acc) h
    refine ⟨ρ t :: vs, ?_, by simpa using h2⟩
    rw [List.mapM_cons]
    simp only [Sem.run_bind, resSem, Sem.run_pure, Result.andThen_ok, h1, hr.2.2 t]
  | .cell x t :: rs, acc, h => by
    simp only [resK] at h
    obtain ⟨v, hv, hrun⟩ := aload_sound h
    obtain ⟨vs, h1, h2⟩ := resK_sound hr hw rs (v :: acc) hv
    refine ⟨v :: vs, ?_, by simpa using h2⟩
    rw [List.mapM_cons]
    have h3 := hrun w hw
    have hp : ∃ ad, ρ x = .pointer (some ad) := by
      unfold aload at h
      split at h
      · rename_i b o e; exact ⟨_, e⟩
      · exact h.elim
    obtain ⟨ad, hp⟩ := hp
    have h4 : (resSem a.tmps (.cell x t)).run P w = .ok v w := by
      simp only [resSem, hr.2.2 x]
      rw [hp] at h3 ⊢
      simpa [Instr.loadAt, Instr.sureAddr, asAddr] using h3
    simp only [Sem.run_bind, h4, Result.andThen_ok, h1, Sem.run_pure]
theorem results_pack {P : Program} {fn : Func} {tmps : Array Value} {w : World} {vs : List Value} (h : (fn.results.toList.mapM (resSem tmps)).run P w = .ok vs w) : (results fn tmps).run P w = .ok (packV vs) w := by
  have e : (results fn tmps) = (do
      let vs ← fn.results.mapM (resSem tmps)
      pure (if h : vs.size = 1 then vs[0] else .tuple vs)) := rfl
  rw [e, Array.mapM_eq_mapM_toList]
  simp only [Sem.run_bind, Sem.run_map, h, Result.andThen_ok, Sem.run_pure]
  congr 1
  match vs with
  | [] => rfl
  | [v] => rfl
  | v :: u :: l => rfl
def entryEnv : List Value → Nat → Env
  | [], _ => fun _ => undef
  | v :: l, k => (entryEnv l (k + 1)).upd k v
theorem entryEnv_eq : ∀ (l : List Value) (k t : Nat), entryEnv l k t = if k ≤ t then (l[t - k]?).getD undef else undef
  | [], k, t => by simp [entryEnv]
  | v :: l, k, t => by
    simp only [entryEnv, Env.upd]
    rw [entryEnv_eq l (k + 1) t]
    by_cases e : t = k
    · subst e; simp
    · rw [if_neg e]
      by_cases h1 : k ≤ t
      · have h2 : k + 1 ≤ t := by omega
        rw [if_pos h1, if_pos h2]
        obtain ⟨d, rfl⟩ : ∃ d, t = k + 1 + d := ⟨t - (k + 1), by omega⟩
        rw [show k + 1 + d - (k + 1) = d from by omega, show k + 1 + d - k = d + 1 from by omega]
        simp
      · rw [if_neg h1, if_neg (by omega)]
theorem entry_rel {args : Array Value} {n : Nat} (hl : args.size ≤ n) : Rel n ⟨args ++ Array.replicate (n - args.size) undef, []⟩ (entryEnv args.toList 0) := by
  refine ⟨rfl, by simp; omega, fun t => ?_⟩
  rw [entryEnv_eq]
  simp only [Nat.zero_le, if_true, Nat.sub_zero, Array.getElem?_toList]
  simp only [Array.getD_eq_getD_getElem?]
  by_cases ht : t < args.size
  · rw [Array.getElem?_append_left ht]
  · have h2 : args[t]? = none := Array.getElem?_eq_none (by omega)
    rw [Array.getElem?_append_right (by omega), h2]
    simp [Array.getElem?_replicate]
    split <;> rfl
theorem callG_of {P : Program} (hm : P.follows .mixedOrders = true) {f : FuncId} {fn : Func} {c : Code} (hf : P.funcs[f]? = some fn) (hb : fn.body = some c) {n : Nat} (hn : fn.ntmps = n) {rs : Array ResultVar} (hr : fn.results = rs)
    (hok : ((codeDsts c).all fun t => decide (t < n)) = true) {args : Array Value} (hl : args.size ≤ n) {h : Hp} {K : KH}
    (hk : Wf h → avc P c (fun ρ g => resK P rs.toList [] ρ g K) (fun ρ g => resK P rs.toList [] ρ g K) (fun _ _ _ => False) (entryEnv args.toList 0) h) : CallG P f args h K := by
  intro w hi
  refine calls_of_wp hf hb ?_
  rw [hn]
  have hd : ∀ t ∈ codeDsts c, t < n ∧ (codeDsts c).contains t = true := fun t ht => ⟨by simpa using List.all_eq_true.1 hok t ht, by simpa using ht⟩
  have hs := avc_sound hm (w0 := w) c (codeDsts c) hd _ _ _ _ _ h _ w (hk hi.wf) (entry_rel hl) hi (Same.refl w) (fun _ _ => rfl)
  refine Code.wp_mono (fun e a w' hq => ?_) hs
  have fin : ∀ ρ g, Rel n a ρ → Is w' g → Same w w' → resK P rs.toList [] ρ g K → a.defers = [] ∧ ∃ v, (results fn a.tmps).run P w' = .ok v w' ∧ ∃ v' h', Ending.returned v = .returned v' ∧ Is w' h' ∧ Same w w' ∧ K v' h' := by
    intro ρ g hr' hi' hs' hK
    obtain ⟨vs, h1, g', hsub, hK'⟩ := resK_sound hr' hi'.2 rs.toList [] hK
    rw [← hr] at h1
    exact ⟨hr'.1, _, results_pack h1, _, g', rfl, hi'.sub hsub, hs', hK'⟩
  cases e with
  | normal => obtain ⟨ρ, g, hr', hi', hs', _, hK⟩ := hq; exact fin ρ g hr' hi' hs' hK
  | ret => obtain ⟨ρ, g, hr', hi', hs', _, hK⟩ := hq; exact fin ρ g hr' hi' hs' hK
  | exit i => obtain ⟨ρ, g, hr', hi', hs', _, hK⟩ := hq; exact hK.elim
  | _ => exact hq.elim
/-- A contract whose value does not hang on how many blocks there are serves in a region that draws. -/
theorem QCall.of {P : Program} {f : FuncId} {args : Array Value} {h : Hp} {v : Value} (hi : isCall P f = true) (hc : ∀ (n : Nat), h.n ≤ n → ∀ K : KH, (∀ k, n ≤ k → K v (h.to k)) → CallG P f args (h.to n) K) : QCall P f args h v :=
  ⟨hi, fun n hn => hc n hn _ fun k hk => ⟨rfl, k, hk, rfl⟩⟩

end Go.Proofs.Ytaejmcgcfopmkaa
