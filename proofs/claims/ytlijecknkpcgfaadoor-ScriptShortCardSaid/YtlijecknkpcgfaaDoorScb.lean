/- Calls with their side proofs in auto-parameters, so that a proof's text stays small (masks mq). Own work. -/
import Derived.Test.YtlijecknkpcgfaaDoorSst
import Derived.Test.YtlijecknkpcgfaaDoorSdf
namespace Go.Shade
open Go
variable {P : Program} {Γ : Globs} {N : Nat} {R : RD} {Q : QE} {L : EL} {M : ML} {fs : List Fr} {l : List CO} {D : Dr} {tr : List (List Nat × List Nat)} {d : Option Nat}
theorem cS {pre post : ML} {f : FuncId} {first cap args args' : List AV} {r : AV} (hG : Good P Γ f args' pre (.ret r) post)
    (hK : opsS P Γ N R Q l fs (putL L d (r.ren (rho [] M.length))) (renM (rho [] M.length) post ++ M))
    (hle : LeAs (first ++ args ++ cap) (renL (rho [] M.length) args') := by (repeat' (first | exact le_mq0 rfl | exact le_mq0r rfl | exact le_jk50 (by simp only [List.length_cons, List.length_append, mq_len, List.length_nil]) | refine le_mqr ?_ | refine le_mq ?_ | exact rfl | exact trivial | exact le_nbys | refine ⟨?_, ?_⟩ | fail)); first | done | fail)
    (h1 : oldsE M (rho [] M.length) pre := by exact trivial) (h2 : injB ((keys post).map (rho [] M.length)) = true := by exact rfl)
    (h3 : newsE M pre (rho [] M.length) (keys post) := by (repeat' (first | exact trivial | exact .inr rfl | exact .inl rfl | refine ⟨?_, ?_⟩ | fail)); first | done | fail) :
    calS P Γ N R Q (.fn (.func f) first cap) args d l fs L M := sh_call hG [] hle h1 h2 h3 hK
theorem cT {pre post : ML} {f : FuncId} {first cap args args' : List AV} {r : AV} (hG : Good P Γ f args' pre (.ret r) post)
    (hK : opsT P Γ N R Q D (((keys post).map (rho [] M.length), (keys post).map (rho [] M.length)) :: tr) l fs (putL L d (r.ren (rho [] M.length))) (renM (rho [] M.length) post ++ M))
    (hle : LeAs (first ++ args ++ cap) (renL (rho [] M.length) args') := by (repeat' (first | exact le_mq0 rfl | exact le_mq0r rfl | exact le_jk50 (by simp only [List.length_cons, List.length_append, mq_len, List.length_nil]) | refine le_mqr ?_ | refine le_mq ?_ | exact rfl | exact trivial | exact le_nbys | refine ⟨?_, ?_⟩ | fail)); first | done | fail)
    (h1 : oldsE M (rho [] M.length) pre := by exact trivial) (h2 : injB ((keys post).map (rho [] M.length)) = true := by exact rfl)
    (h3 : newsE M pre (rho [] M.length) (keys post) := by (repeat' (first | exact trivial | exact .inr rfl | exact .inl rfl | refine ⟨?_, ?_⟩ | fail)); first | done | fail) :
    calT P Γ N R Q D tr (.fn (.func f) first cap) args d l fs L M := sh_callT hG [] hle h1 h2 h3 hK
theorem cSA {pre post : ML} {f : FuncId} {first cap args args' : List AV} {r : AV} (hG : Good P Γ f args' pre (.ret r) post)
    {as : List (Nat × Nat)}
    (hK : opsS P Γ N R Q l fs (putL L d (r.ren (rho as M.length))) (renM (rho as M.length) post ++ M))
    (h0 : closeM pre M (pairs args' (first ++ args ++ cap)) = as := by first | (simp only [go_sem, seval]; exact rfl) | exact rfl | (simp only [go_sem, seval]; done))
    (hle : LeAs (first ++ args ++ cap) (renL (rho as M.length) args') := by (repeat' (first | exact le_mq0 rfl | exact le_mq0r rfl | exact le_jk50 (by simp only [List.length_cons, List.length_append, mq_len, List.length_nil]) | refine le_mqr ?_ | refine le_mq ?_ | exact rfl | exact trivial | exact le_nbys | refine ⟨?_, ?_⟩ | fail)); first | done | fail)
    (h1 : oldsE M (rho as M.length) pre := by (repeat' (first | exact le_mq0 rfl | exact le_mq0r rfl | exact le_jk50 (by simp only [List.length_cons, List.length_append, mq_len, List.length_nil]) | refine le_mqr ?_ | refine le_mq ?_ | exact rfl | exact trivial | exact le_nbys | refine ⟨?_, ?_⟩ | exact ⟨_, rfl, ?_⟩ | refine ⟨_, rfl, ?_⟩ | fail)); first | done | fail) (h2 : injB ((keys post).map (rho as M.length)) = true := by exact rfl)
    (h3 : newsE M pre (rho as M.length) (keys post) := by (repeat' (first | exact trivial | exact .inr rfl | exact .inl rfl | refine ⟨?_, ?_⟩ | fail)); first | done | fail) :
    calS P Γ N R Q (.fn (.func f) first cap) args d l fs L M := sh_callA hG h0 hle h1 h2 h3 hK
theorem cTA {pre post : ML} {f : FuncId} {first cap args args' : List AV} {r : AV} (hG : Good P Γ f args' pre (.ret r) post)
    {as : List (Nat × Nat)}
    (hK : opsT P Γ N R Q D (((keys post).map (rho as M.length), (keys post).map (rho as M.length)) :: tr) l fs (putL L d (r.ren (rho as M.length))) (renM (rho as M.length) post ++ M))
    (h0 : closeM pre M (pairs args' (first ++ args ++ cap)) = as := by first | (simp only [go_sem, seval]; exact rfl) | exact rfl | (simp only [go_sem, seval]; done))
    (hle : LeAs (first ++ args ++ cap) (renL (rho as M.length) args') := by (repeat' (first | exact le_mq0 rfl | exact le_mq0r rfl | exact le_jk50 (by simp only [List.length_cons, List.length_append, mq_len, List.length_nil]) | refine le_mqr ?_ | refine le_mq ?_ | exact rfl | exact trivial | exact le_nbys | refine ⟨?_, ?_⟩ | fail)); first | done | fail)
    (h1 : oldsE M (rho as M.length) pre := by (repeat' (first | exact le_mq0 rfl | exact le_mq0r rfl | exact le_jk50 (by simp only [List.length_cons, List.length_append, mq_len, List.length_nil]) | refine le_mqr ?_ | refine le_mq ?_ | exact rfl | exact trivial | exact le_nbys | refine ⟨?_, ?_⟩ | exact ⟨_, rfl, ?_⟩ | refine ⟨_, rfl, ?_⟩ | fail)); first | done | fail) (h2 : injB ((keys post).map (rho as M.length)) = true := by exact rfl)
    (h3 : newsE M pre (rho as M.length) (keys post) := by (repeat' (first | exact trivial | exact .inr rfl | exact .inl rfl | refine ⟨?_, ?_⟩ | fail)); first | done | fail) :
    calT P Γ N R Q D tr (.fn (.func f) first cap) args d l fs L M := sh_callTA hG h0 hle h1 h2 h3 hK
theorem eA {r0 r : AV} {pre post : ML} {l : List (Nat × Nat)} (hle : LeA r0 (r.ren (rho l 0)))
    (h0 : closeM post M (pairA r r0) = l := by first | (simp only [go_sem, seval]; exact rfl) | exact rfl | (simp only [go_sem, seval]; done))
    (h1 : memsE M (rho l 0) post := by (repeat' (first | exact le_mq0 rfl | exact le_mq0r rfl | exact le_jk50 (by simp only [List.length_cons, List.length_append, mq_len, List.length_nil]) | refine le_mqr ?_ | refine le_mq ?_ | exact trivial | exact rfl | refine ⟨_, rfl, ?_⟩ | refine ⟨?_, ?_⟩ | exact Option.some_ne_none _ | fail)); first | done | fail)
    (h2 : injB ((keys post).map (rho l 0)) = true := by exact rfl) (h3 : fixE (rho l 0) (keys pre) = true := by exact rfl) : endE pre (.ret r) post r0 M := endA h0 hle h1 h2 h3
theorem wkAu {M' : ML} {L' : EL} {pre : ML} {l : List (Nat × Nat)} (h0 : closeM M' M (pairL L L') = l := by first | (simp only [go_sem, seval]; exact rfl) | exact rfl | (simp only [go_sem, seval]; done))
    (h1 : envE L (rho l 0) L' := by (repeat' (first | exact le_mq0 rfl | exact le_mq0r rfl | exact le_jk50 (by simp only [List.length_cons, List.length_append, mq_len, List.length_nil]) | refine le_mqr ?_ | refine le_mq ?_ | exact trivial | exact rfl | refine le_int ?_ | refine le_bool ?_ | refine le_str ?_ | refine le_sl ?_ | refine le_own ?_ | refine le_osl ?_ | refine le_nsl ?_ | refine ⟨_, rfl, ?_⟩ | refine ⟨?_, ?_⟩ | exact Option.some_ne_none _ | fail)); first | done | fail) (h2 : memsE M (rho l 0) M' := by (repeat' (first | exact le_mq0 rfl | exact le_mq0r rfl | exact le_jk50 (by simp only [List.length_cons, List.length_append, mq_len, List.length_nil]) | refine le_mqr ?_ | refine le_mq ?_ | exact trivial | exact rfl | refine le_int ?_ | refine le_bool ?_ | refine le_str ?_ | refine le_sl ?_ | refine le_own ?_ | refine le_osl ?_ | refine le_nsl ?_ | refine ⟨_, rfl, ?_⟩ | refine ⟨?_, ?_⟩ | exact Option.some_ne_none _ | fail)); first | done | fail) (h3 : injB ((keys M').map (rho l 0)) = true := by exact rfl)
    (h4 : namesIn M' (L'.flatMap fun p => p.2.names) = true := by first | exact rfl | (simp only [go_sem, seval]; done) | (simp only [go_sem, seval]; exact rfl)) (h5 : namesIn M' (M'.flatMap fun p => p.2.names) = true := by first | exact rfl | (simp only [go_sem, seval]; done) | (simp only [go_sem, seval]; exact rfl))
    (h6 : fixE (rho l 0) (keys pre) = true := by exact rfl) (h7 : namesIn M' (keys pre) = true := by first | exact rfl | (simp only [go_sem, seval]; done) | (simp only [go_sem, seval]; exact rfl)) : WeakG (Rof pre) L M L' M' := sh_weakA h0 h1 h2 h3 h4 h5 h6 h7
theorem cPn {pre post : ML} {f : FuncId} {first cap args args' : List AV} {v : Value} (hG : Good P Γ f args' pre (.pan v) post)
    {as : List (Nat × Nat)}
    (hK : exS P Γ N R Q (.pan v) fs L (renM (rho as M.length) post ++ M))
    (h0 : closeM pre M (pairs args' (first ++ args ++ cap)) = as := by first | (simp only [go_sem, seval]; exact rfl) | exact rfl | (simp only [go_sem, seval]; done))
    (hle : LeAs (first ++ args ++ cap) (renL (rho as M.length) args') := by (repeat' (first | exact le_mq0 rfl | exact le_mq0r rfl | exact le_jk50 (by simp only [List.length_cons, List.length_append, mq_len, List.length_nil]) | refine le_mqr ?_ | refine le_mq ?_ | exact rfl | exact trivial | exact le_nbys | refine ⟨?_, ?_⟩ | fail)); first | done | fail)
    (h1 : oldsE M (rho as M.length) pre := by (repeat' (first | exact le_mq0 rfl | exact le_mq0r rfl | exact le_jk50 (by simp only [List.length_cons, List.length_append, mq_len, List.length_nil]) | refine le_mqr ?_ | refine le_mq ?_ | exact rfl | exact trivial | exact le_nbys | refine ⟨?_, ?_⟩ | exact ⟨_, rfl, ?_⟩ | refine ⟨_, rfl, ?_⟩ | fail)); first | done | fail) (h2 : injB ((keys post).map (rho as M.length)) = true := by exact rfl)
    (h3 : newsE M pre (rho as M.length) (keys post) := by (repeat' (first | exact trivial | exact .inr rfl | exact .inl rfl | refine ⟨?_, ?_⟩ | fail)); first | done | fail) :
    calS P Γ N R Q (.fn (.func f) first cap) args d l fs L M := sh_callP hG as hle h1 h2 h3 hK
theorem f_panE {rs : List RV} {v : Value} {pre post : ML} (l : List (Nat × Nat)) (h1 : memsE M (rho l 0) post := by (repeat' (first | exact le_mq0 rfl | exact le_mq0r rfl | exact le_jk50 (by simp only [List.length_cons, List.length_append, mq_len, List.length_nil]) | refine le_mqr ?_ | refine le_mq ?_ | exact trivial | exact rfl | refine ⟨_, rfl, ?_⟩ | refine ⟨?_, ?_⟩ | exact Option.some_ne_none _ | fail)); first | done | fail)
    (h2 : injB ((keys post).map (rho l 0)) = true := by exact rfl) (h3 : fixE (rho l 0) (keys pre) = true := by exact rfl) : exS P Γ N R (finE pre rs (.pan v) post) (.pan v) [] L M :=
  ⟨rfl, rho l 0, memsE_spec h1, fun n n' k1 k2 => injB_spec h2 n n' (memL_keys.1 k1) (memL_keys.1 k2), fun n hn => by
    have := List.all_eq_true.1 h3 n (memL_keys.1 hn)
    simpa using this⟩
theorem isX {ex : EX} {Q' : QE} (h : exS P Γ N R Q' ex fs L M) : exS P Γ N R Q' ex fs L M := h
/-- An end whose names are given by hand. -/
theorem eB {r0 r : AV} {pre post : ML} (l : List (Nat × Nat)) (hle : LeA r0 (r.ren (rho l 0)))
    (h1 : memsE M (rho l 0) post := by (repeat' (first | exact le_mq0 rfl | exact le_mq0r rfl | exact le_jk50 (by simp only [List.length_cons, List.length_append, mq_len, List.length_nil]) | refine le_mqr ?_ | refine le_mq ?_ | exact trivial | exact rfl | refine ⟨_, rfl, ?_⟩ | refine ⟨?_, ?_⟩ | exact Option.some_ne_none _ | fail)); first | done | fail)
    (h2 : injB ((keys post).map (rho l 0)) = true := by exact rfl) (h3 : fixE (rho l 0) (keys pre) = true := by exact rfl) : endE pre (.ret r) post r0 M := endE_by l hle h1 h2 h3
end Go.Shade
