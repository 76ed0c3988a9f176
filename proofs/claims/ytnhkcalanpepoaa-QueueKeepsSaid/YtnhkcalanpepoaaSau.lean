/- Names found by the machine itself; loops by states. Own work. -/
import Derived.Test.YtnhkcalanpepoaaSz
namespace Go.Shade
open Go

mutual
/-- Which of the names here stands for which there. -/
def pairA : AV → AV → List (Nat × Nat)
  | .own k _ _, .own n _ _ => [(k, n)]
  | .ptr k _, .ptr n _ => [(k, n)]
  | .bsl k _ _ _, .bsl n _ _ _ => [(k, n)]
  | .agg xs, .agg ys => pairs xs ys
  | .tup xs, .tup ys => pairs xs ys
  | .fn _ a b, .fn _ c d => pairs a c ++ pairs b d
  | _, _ => []
def pairs : List AV → List AV → List (Nat × Nat)
  | a :: as, b :: bs => pairA a b ++ pairs as bs
  | _, _ => []
end
def pairR : Option Res → Option Res → List (Nat × Nat)
  | some (.box xs _), some (.box ys _) => pairs xs ys
  | _, _ => []
def pairM (M' M : ML) : List (Nat × Nat) → List (Nat × Nat)
  | [] => []
  | p :: l => pairR (memL M' p.1) (memL M p.2) ++ pairM M' M l
def closeM (M' M : ML) (l : List (Nat × Nat)) : List (Nat × Nat) := l ++ pairM M' M (l ++ pairM M' M l)
def pairL (L : EL) : EL → List (Nat × Nat)
  | [] => []
  | p :: L' => pairA p.2 (look L p.1) ++ pairL L L'

theorem pair_own (k s n s' : Nat) (x y : List (List PV)) : pairA (.own k s x) (.own n s' y) = [(k, n)] := by simp [pairA]
theorem pair_ptr (k o n o' : Nat) : pairA (.ptr k o) (.ptr n o') = [(k, n)] := by simp [pairA]
theorem pair_bsl (k o s n j p q r : Nat) : pairA (.bsl k o s n) (.bsl j p q r) = [(k, j)] := by simp [pairA]
theorem pair_agg (xs ys : List AV) : pairA (.agg xs) (.agg ys) = pairs xs ys := by simp [pairA]
theorem pair_tup (xs ys : List AV) : pairA (.tup xs) (.tup ys) = pairs xs ys := by simp [pairA]
theorem pair_fn (f g : Fn) (a b c d : List AV) : pairA (.fn f a b) (.fn g c d) = pairs a c ++ pairs b d := by simp [pairA]
theorem pair_p (x : PV) (b : AV) : pairA (.p x) b = [] := by cases b <;> simp [pairA]
theorem pair_j (b : AV) : pairA .junk b = [] := by cases b <;> simp [pairA]
theorem pair_cp (cs : List PV) (b : AV) : pairA (.cptr cs) b = [] := by cases b <;> simp [pairA]
theorem pair_op (k s : Nat) (x : List (List PV)) (y : PV) : pairA (.own k s x) (.p y) = [] := by simp [pairA]
theorem pairs_c (a b : AV) (as bs : List AV) : pairs (a :: as) (b :: bs) = pairA a b ++ pairs as bs := by simp [pairs]
theorem pairs_n (bs : List AV) : pairs [] bs = [] := by simp [pairs]
theorem pairs_n' (as : List AV) : pairs as [] = [] := by cases as <;> simp [pairs]
theorem pairR_b (xs ys : List AV) (f g : Bool) : pairR (some (.box xs f)) (some (.box ys g)) = pairs xs ys := nd rfl
theorem pairR_t (r : Option Res) : pairR (some .tok) r = [] := by cases r <;> simp [pairR]
theorem pairR_d (r : Option Res) : pairR (some .dead) r = [] := by cases r <;> simp [pairR]
theorem pairR_n (r : Option Res) : pairR none r = [] := by cases r <;> simp [pairR]
theorem pairM_n (M' M : ML) : pairM M' M [] = [] := nd rfl
theorem pairM_c (M' M : ML) (p : Nat × Nat) (l : List (Nat × Nat)) : pairM M' M (p :: l) = pairR (memL M' p.1) (memL M p.2) ++ pairM M' M l := nd rfl
theorem closeM_eq (M' M : ML) (l : List (Nat × Nat)) : closeM M' M l = l ++ pairM M' M (l ++ pairM M' M l) := nd rfl
theorem pairL_n (L : EL) : pairL L [] = [] := nd rfl
theorem pairL_c (L : EL) (i : Nat) (a : AV) (L' : EL) : pairL L ((i, a) :: L') = pairA a (look L i) ++ pairL L L' := nd rfl

section
variable {P : Program} {Γ : Globs} {N : Nat} {R : RD} {Q : QE} {L : EL} {M : ML} {fs : List Fr} {l : List CO} {D : Dr} {tr : List (List Nat × List Nat)} {d : Option Nat}

theorem sh_weakA {M' : ML} {L' : EL} {pre : ML} {l : List (Nat × Nat)} (_ : closeM M' M (pairL L L') = l) (h1 : envE L (rho l 0) L') (h2 : memsE M (rho l 0) M') (h3 : injB ((keys M').map (rho l 0)) = true) (h4 : namesIn M' (L'.flatMap fun p => p.2.names) = true) (h5 : namesIn M' (M'.flatMap fun p => p.2.names) = true)
    (h6 : fixE (rho l 0) (keys pre) = true) (h7 : namesIn M' (keys pre) = true) : WeakG (Rof pre) L M L' M' := sh_weak l h1 h2 h3 h4 h5 h6 h7
theorem endA {r0 r : AV} {pre post : ML} {l : List (Nat × Nat)} (_ : closeM post M (pairA r r0) = l) (hle : LeA r0 (r.ren (rho l 0))) (h1 : memsE M (rho l 0) post) (h2 : injB ((keys post).map (rho l 0)) = true) (h3 : fixE (rho l 0) (keys pre) = true) : endE pre (.ret r) post r0 M := endE_by l hle h1 h2 h3
theorem sh_callA {pre post : ML} {f : FuncId} {first cap args args' : List AV} {r : AV} (hG : Good P Γ f args' pre (.ret r) post) {as : List (Nat × Nat)} (_ : closeM pre M (pairs args' (first ++ args ++ cap)) = as)
    (hle : LeAs (first ++ args ++ cap) (renL (rho as M.length) args')) (h1 : oldsE M (rho as M.length) pre) (h2 : injB ((keys post).map (rho as M.length)) = true) (h3 : newsE M pre (rho as M.length) (keys post))
    (hK : opsS P Γ N R Q l fs (putL L d (r.ren (rho as M.length))) (renM (rho as M.length) post ++ M)) : calS P Γ N R Q (.fn (.func f) first cap) args d l fs L M := callE_ret hG as hle h1 h2 h3 hK
theorem sh_callTA {pre post : ML} {f : FuncId} {first cap args args' : List AV} {r : AV} (hG : Good P Γ f args' pre (.ret r) post) {as : List (Nat × Nat)} (_ : closeM pre M (pairs args' (first ++ args ++ cap)) = as)
    (hle : LeAs (first ++ args ++ cap) (renL (rho as M.length) args')) (h1 : oldsE M (rho as M.length) pre) (h2 : injB ((keys post).map (rho as M.length)) = true) (h3 : newsE M pre (rho as M.length) (keys post))
    (hK : opsT P Γ N R Q D (((keys post).map (rho as M.length), (keys post).map (rho as M.length)) :: tr) l fs (putL L d (r.ren (rho as M.length))) (renM (rho as M.length) post ++ M)) : calT P Γ N R Q D tr (.fn (.func f) first cap) args d l fs L M := callTE_ret hG as hle h1 h2 h3 hK

/-! What a goal is -/
theorem isS {fv : AV} {as : List AV} (h : calS P Γ N R Q fv as d l fs L M) : calS P Γ N R Q fv as d l fs L M := h
theorem isT {fv : AV} {as : List AV} (h : calT P Γ N R Q D tr fv as d l fs L M) : calT P Γ N R Q D tr fv as d l fs L M := h
theorem isE {pre post : ML} {e : AE} {r : AV} (h : endE pre e post r M) : endE pre e post r M := h
theorem isI {bef : List (List Nat)} {p : Prop} (h : indep l bef tr = true) (hp : p) : indepP l bef tr ∧ p := ⟨h, hp⟩
theorem isC {v : AV} {a b : CC} (h : conS P Γ N R Q v a b fs L M) : conS P Γ N R Q v a b fs L M := h
theorem isG {v : AV} {b : Bool} {o : CO} (h : gatS P Γ N R Q v b o l fs L M) : gatS P Γ N R Q v b o l fs L M := h

/-- A loop: its head's slots and names as told by a state x; each round lowers μ. -/
theorem sh_loopX (hm : P.follows .mixedOrders = true) {c : CC} {X : Type} (St : X → EL × ML) (μ : X → Nat) (Pd : X → Prop) (x0 : X) (h0 : Pd x0) (w0 : WeakG R L M (St x0).1 (St x0).2)
    (round : ∀ x, Pd x → codeS P Γ N R (thenE (fun L M => ∃ y, μ y < μ x ∧ Pd y ∧ WeakG R L M (St y).1 (St y).2) (QF P Γ N R Q fs)) c [] (St x).1 (St x).2) : looS P Γ N R Q c fs L M := by
  refine sh_loop hm (fun n L' M' => ∃ x, n = μ x ∧ Pd x ∧ L' = (St x).1 ∧ M' = (St x).2) (n := μ x0) ⟨_, _, ⟨x0, rfl, h0, rfl, rfl⟩, w0⟩ ?_
  rintro n L' M' ⟨x, rfl, hx, rfl, rfl⟩
  have e : (fun (L : EL) (M : ML) => ∃ y, μ y < μ x ∧ Pd y ∧ WeakG R L M (St y).1 (St y).2) = fun L M => ∃ k L' M', k < μ x ∧ (∃ x, k = μ x ∧ Pd x ∧ L' = (St x).1 ∧ M' = (St x).2) ∧ WeakG R L M L' M' := by
    funext L M
    refine propext ⟨?_, ?_⟩
    · rintro ⟨y, h1, h2, h3⟩
      exact ⟨μ y, _, _, h1, ⟨y, rfl, h2, rfl, rfl⟩, h3⟩
    · rintro ⟨k, L', M', h1, ⟨y, rfl, h2, rfl, rfl⟩, h3⟩
      exact ⟨y, h1, h2, h3⟩
  rw [← e]
  exact round x hx

/-! Comparing, leaf by leaf -/
theorem le_int {k : IntKind} {a b : Int} (h : a = b) : LeA (.int k a) (.int k b) := by subst h; rfl
theorem le_bool {a b : Bool} (h : a = b) : LeA (.bool a) (.bool b) := by subst h; rfl
theorem le_str {a b : List UInt8} (h : a = b) : LeA (.p (.s (.string ⟨a.toArray⟩))) (.p (.s (.string ⟨b.toArray⟩))) := by subst h; rfl
theorem le_sl {s : Nat} {a b : List (List PV)} (h : a = b) : LeA (.sl s a) (.sl s b) := by subst h; rfl
theorem le_own {t s : Nat} {a b : List (List PV)} (h : a = b) : LeA (.own t s a) (.own t s b) := by subst h; rfl
theorem le_osl {t s : Nat} {a b : List (List PV)} (h : a = b) : LeA (.own t s a) (.sl s b) := by subst h; exact ⟨rfl, rfl⟩
theorem le_nsl {s : Nat} {b : List (List PV)} (h : b = []) : LeA (.p (.s (.slice none 0 0))) (.sl s b) := by subst h; rfl

/-! Forks, with conditions as propositions -/
theorem fork_P {p : Prop} [Decidable p] {a b : CC} (h1 : p → codeS P Γ N R Q a fs L M) (h2 : ¬ p → codeS P Γ N R Q b fs L M) : conS P Γ N R Q (.p (.s (.bool (decide p)))) a b fs L M :=
  fork_cond (fun h => h1 (of_decide_eq_true h)) (fun h => h2 (of_decide_eq_false h))
theorem fork_N {p : Prop} [Decidable p] {a b : CC} (h1 : ¬ p → codeS P Γ N R Q a fs L M) (h2 : p → codeS P Γ N R Q b fs L M) : conS P Γ N R Q (.p (.s (.bool (!decide p)))) a b fs L M :=
  fork_cond (fun h => h1 (of_decide_eq_false (by simpa using h))) (fun h => h2 (of_decide_eq_true (by simpa using h)))
theorem fork_gP {p : Prop} [Decidable p] {o : CO} (h1 : p → opS P Γ N R Q o l fs L M) (h2 : ¬ p → opsS P Γ N R Q l fs (putL L o.dst undA) M) : gatS P Γ N R Q (.p (.s (.bool (decide p)))) true o l fs L M :=
  fork_gate (fun h => h1 (of_decide_eq_true h)) (fun h => h2 (of_decide_eq_false h))
theorem fork_gN {p : Prop} [Decidable p] {o : CO} (h1 : ¬ p → opS P Γ N R Q o l fs L M) (h2 : p → opsS P Γ N R Q l fs (putL L o.dst undA) M) : gatS P Γ N R Q (.p (.s (.bool (decide p)))) false o l fs L M :=
  fork_gate (fun h => h1 (of_decide_eq_false h)) (fun h => h2 (of_decide_eq_true h))
theorem fork_gnP {p : Prop} [Decidable p] {o : CO} (h1 : ¬ p → opS P Γ N R Q o l fs L M) (h2 : p → opsS P Γ N R Q l fs (putL L o.dst undA) M) : gatS P Γ N R Q (.p (.s (.bool (!decide p)))) true o l fs L M :=
  fork_gate (fun h => h1 (of_decide_eq_false (by simpa using h))) (fun h => h2 (of_decide_eq_true (by simpa using h)))
theorem fork_gnN {p : Prop} [Decidable p] {o : CO} (h1 : p → opS P Γ N R Q o l fs L M) (h2 : ¬ p → opsS P Γ N R Q l fs (putL L o.dst undA) M) : gatS P Γ N R Q (.p (.s (.bool (!decide p)))) false o l fs L M :=
  fork_gate (fun h => h1 (of_decide_eq_true (by simpa using h))) (fun h => h2 (of_decide_eq_false (by simpa using h)))
theorem fork_B {t : Bool} {a b : CC} (h1 : t = true → codeS P Γ N R Q a fs L M) (h2 : t = false → codeS P Γ N R Q b fs L M) : conS P Γ N R Q (.p (.s (.bool t))) a b fs L M := fork_cond h1 h2
end
attribute [go_sem] pair_own pair_ptr pair_bsl pair_agg pair_tup pair_fn pair_p pair_j pair_cp pair_op pairs_c pairs_n pairs_n' pairR_b pairR_t pairR_d pairR_n pairM_n pairM_c closeM_eq pairL_n pairL_c
end Go.Shade
