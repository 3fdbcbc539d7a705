/- Contracts side by side: what they ask; laws from runs with symbolic arguments. -/
import Derived.Test.YtaohgpgbphlblaaAmMemo2
set_option linter.unusedVariables false
set_option linter.unusedSimpArgs false
set_option linter.unusedSectionVars false
namespace Go.Am.V
open Go Go.Am Go.Am.Fast Go.RowKit

theorem memoA_ne {M : Memo} {f : Nat} (h : f ≠ M.f) (args : List Value) (m : FM) (n : Nat) : memoA M f args m n = .no := by
  unfold memoA
  cases hf : Nat.beq f M.f
  · rfl
  · exact absurd (Nat.eq_of_beq_eq_true hf) h
theorem apart_alt {tab : List (Nat × AFn)} {a b : Nat → List Value → FM → Nat → OR FM} (ha : Apart tab a) (hb : Apart tab b) : Apart tab (altA a b) := by
  intro f fn h args m n
  unfold altA
  rw [ha f fn h args m n]
  exact hb f fn h args m n
theorem apart_memo {tab : List (Nat × AFn)} {M : Memo} (h : look tab M.f = none) : Apart tab (memoA M) := by
  intro f fn hf args m n
  refine memoA_ne (fun e => ?_) args m n
  rw [e, h] at hf; cases hf
theorem apart_memos {tab : List (Nat × AFn)} {l : List Memo} {Y : Nat → List Value → FM → Nat → OR FM} (hY : Apart tab Y) (h : ∀ M ∈ l, look tab M.f = none) : Apart tab (memosA l Y) := by
  induction l with
  | nil => exact hY
  | cons M l ih => exact apart_alt (apart_memo (h M (List.mem_cons_self ..))) (ih fun M hM => h M (List.mem_cons_of_mem _ hM))
theorem sim_memos {P : Program} {l : List Memo} {Y : Nat → List Value → FM → Nat → OR FM} (hY : CallSim P Y) (h : ∀ M ∈ l, CallSim P (memoA M)) : CallSim P (memosA l Y) := by
  induction l with
  | nil => exact hY
  | cons M l ih => exact alt_sim (h M (List.mem_cons_self ..)) (ih fun M hM => h M (List.mem_cons_of_mem _ hM))
theorem Env.addMemos {P : Program} {tab tab' : List (Nat × AFn)} {Y : Nat → List Value → FM → Nat → OR FM} {Yf : FCal} (h : Env P tab Y Yf) (hg : Good P tab') (hs : (tab'.all fun p => Nat.blt p.1 256) = true) (hap : Apart tab' Y) {l : List Memo} (hl : ∀ M ∈ l, CallSim P (memoA M)) (hn : ∀ M ∈ l, look tab' M.f = none) :
    Env P tab' (memosA l Y) (memosF l Yf) :=
  ⟨h.mix, hg, hs, memos_loc h.loc, sim_memos h.sim hl, memosF_sim h.fast, apart_memos hap hn⟩

/-- the machine over no memory -/
def FM0 : FM := fun _ => none
def isT : Value → Bool
  | .bool b => b
  | _ => false
theorem isT_eq {v : Value} (h : isT v = true) : v = .bool true := by
  unfold isT at h
  split at h
  · rw [h]
  · cases h
noncomputable def gaveTA (x : OR FM) : Bool := OR.rec (motive := fun _ => Bool) false (fun v _ _ _ _ => isT v) x
theorem gaveTA_eq {x : OR FM} (h : gaveTA x = true) : ∃ m n r w, x = .ok (.bool true) m n r w := by
  cases x with
  | no => cases h
  | ok v m n r w => exact ⟨_, _, _, _, by rw [isT_eq (v := v) h]⟩
theorem absM_nil (n : Nat) : absM [] n = FM0 := by
  funext b
  show (gb [] n b).map toB = none
  show (Bool.rec (motive := fun _ => Option FBlk) none (oflat (pget [] (Nat.sub (Nat.pred n) b))) (Nat.ble (Nat.succ b) n)).map toB = none
  cases Nat.ble (Nat.succ b) n <;> rfl
/-- a law whose run is evaluated with the fast machine -/
theorem Env.law {P : Program} {tab : List (Nat × AFn)} {Y : Nat → List Value → FM → Nat → OR FM} {Yf : FCal} (h : Env P tab Y Yf) {K d f : Nat} {fargs : List FV} (ha : ∀ ρ, ∀ a ∈ fargs.map toV, VRel ρ a a) (hrun : gaveT (fcall P (treeOf tab) Yf K (Nat.succ d) f fargs [] 0) = true) (w : World) :
    Calls P f (fargs.map toV).toArray w fun e w' => e = .returned (.bool true) ∧ Below w.heap.size w w' := by
  obtain ⟨k, m, n, r, wm, he⟩ := h.top hrun
  exact h.topA ha he w
/-- a law whose run is evaluated with the machine itself -/
theorem Env.lawA {P : Program} {tab : List (Nat × AFn)} {Y : Nat → List Value → FM → Nat → OR FM} {Yf : FCal} (h : Env P tab Y Yf) {k f : Nat} {args : List Value} (ha : ∀ ρ, ∀ a ∈ args, VRel ρ a a) (hrun : gaveTA (callA (look tab) Y (exec P (look tab) Y k) f args FM0 0) = true) (w : World) :
    Calls P f args.toArray w fun e w' => e = .returned (.bool true) ∧ Below w.heap.size w w' := by
  obtain ⟨m, n, r, wm, he⟩ := gaveTA_eq hrun
  exact h.topA ha he w
theorem free_args {args : List Value} (h : args.all addrFree = true) : ∀ (ρ : Ren), ∀ a ∈ args, VRel ρ a a := fun ρ a ha => addrFree_rel ρ (List.all_eq_true.1 h a ha)
end Go.Am.V
