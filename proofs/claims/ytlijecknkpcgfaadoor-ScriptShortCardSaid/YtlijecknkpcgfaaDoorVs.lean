/- Layer 20: what is read of 32 octets, by the kit's own walks. Own work. -/
import Derived.Test.YtlijecknkpcgfaaDoorVr
import Derived.Laws.AppendOwn
import Derived.Laws.Externs
import Derived.Maps.AppendAt
namespace Go.Proofs
open Go.RowKit Go.Shelf
attribute [local go_sem] Oper.semAt_some
/-- The number that eight octets are. -/
def numV : List UInt8 → Nat
  | [] => 0
  | c :: r => c.toNat + 256 * numV r
theorem numV_lt : ∀ l : List UInt8, numV l < 2 ^ (8 * l.length)
  | [] => by simp [numV]
  | c :: r => by
    have h1 := numV_lt r
    have h2 := c.toNat_lt
    rw [numV, List.length_cons, show 8 * (r.length + 1) = 8 * r.length + 8 by omega, Nat.pow_add]
    omega
theorem numV_snoc (c : UInt8) : ∀ l : List UInt8, numV (l ++ [c]) = numV l + c.toNat * 2 ^ (8 * l.length)
  | [] => by simp [numV]
  | x :: r => by
    rw [List.cons_append, numV, numV_snoc c r, numV, List.length_cons, show 8 * (r.length + 1) = 8 + 8 * r.length by omega, Nat.pow_add, Nat.mul_add]
    have : 256 * (c.toNat * 2 ^ (8 * r.length)) = c.toNat * (2 ^ 8 * 2 ^ (8 * r.length)) := by
      rw [show (2 : Nat) ^ 8 = 256 by decide, Nat.mul_left_comm]
    omega
theorem or_oct {s c k : Nat} (hs : s < 2 ^ k) : s ||| c * 2 ^ k = s + c * 2 ^ k := by
  rw [Nat.or_comm, ← Nat.shiftLeft_eq, ← Nat.shiftLeft_add_eq_or_of_lt hs, Nat.add_comm]
theorem u64_in {n : Int} (h0 : 0 ≤ n) (h1 : n < 18446744073709551616) : IntKind.wrap .u64 n = n := by
  have h : IntKind.wrap .u64 n = n % 18446744073709551616 := by
    show (if (false && decide (n % 18446744073709551616 ≥ 9223372036854775808)) = true then n % 18446744073709551616 - 18446744073709551616 else n % 18446744073709551616) = _
    simp
  rw [h]
  omega
theorem pow_oct {k : Nat} (hk : k < 8) : 256 * 2 ^ (8 * k) ≤ 18446744073709551616 := by
  have : ∀ k : Nat, k < 8 → 256 * 2 ^ (8 * k) ≤ 18446744073709551616 := by decide
  exact this k hk
theorem or_val {s c k : Nat} (hs : s < 2 ^ (8 * k)) (hc : c < 256) (hk : k < 8) : bits .or .u64 (s : Int) (IntKind.wrap .u64 (IntKind.wrap .u64 (c : Int) * 2 ^ (8 * k))) = ((s + c * 2 ^ (8 * k) : Nat) : Int) := by
  have hp := pow_oct hk
  have h1 : c * 2 ^ (8 * k) ≤ 255 * 2 ^ (8 * k) := Nat.mul_le_mul_right _ (by omega)
  have e1 : (c : Int) * 2 ^ (8 * k) = ((c * 2 ^ (8 * k) : Nat) : Int) := by push_cast; rfl
  rw [u64_in (n := c) (by omega) (by omega), e1, u64_in (by omega) (by omega)]
  unfold bits
  show IntKind.wrap .u64 ((BitVec.ofInt 64 (s : Int) ||| BitVec.ofInt 64 ((c * 2 ^ (8 * k) : Nat) : Int)).toNat : Int) = _
  rw [BitVec.toNat_or, BitVec.ofInt_natCast, BitVec.ofInt_natCast, BitVec.toNat_ofNat, BitVec.toNat_ofNat, Nat.mod_eq_of_lt (by omega), Nat.mod_eq_of_lt (by omega), or_oct hs, u64_in (by omega) (by omega)]
theorem take_snoc {l : List UInt8} {i k : Nat} (hk : k < 8) (h : i + 8 ≤ l.length) : ((l.drop i).take 8).take (k + 1) = ((l.drop i).take 8).take k ++ [l.getD (i + k) 0] := by
  rw [List.take_take, List.take_take, Nat.min_eq_left (by omega), Nat.min_eq_left (by omega), List.take_add_one, List.getElem?_drop, List.getElem?_eq_getElem (by omega), List.getD_eq_getElem?_getD, List.getElem?_eq_getElem (by omega)]
  rfl
def flV (l : List UInt8) (x : Fin 4) : Value := .float .f64 (numV ((l.drop (8 * x.val)).take 8))
theorem kpc_b {n₀ Bs Bn : Nat} {w : World} (hn : n₀ ≤ w.heap.size) (W : World) (l : Nat) (o o' : Obj) (hl : w.heap.size ≤ l) (h : W.heap[l]? = some o) (hc : o.isCells = false) (hw : o.isWalk = false) : KpC n₀ Bs Bn W (W.putObj l o') := by
  have key : ∀ B t v, Boxed W B t v → Boxed (W.putObj l o') B t v := fun B t v hv => hv.kept (grownBy_putObj' W l o') (fun e => by
    cases e
    have hx := (show W.heap[l]? = _ from hv).symm.trans h
    cases hx
    cases hc)
  exact ⟨belowK_b hn W l o o' hl h hc hw, fun v hv => key _ _ v hv, fun v hv => key _ _ v hv⟩
theorem info39 : (Tryd.prog.info? 39).map (fun i => (i.zero, i.size, i.bytes)) = some (some (.float .f64 0), 1, 8) := by kernel_rfl
theorem app_in {F : Fence} {n : Nat} {P : Program} {w : World} {o : Oper} {a : Act} {K : Act → World → Prop} {Q : Exit → Act → World → Prop} (s x : Operand) (t : TypeId) (ho : o.op = .call { callee := .builtin .append, args := #[s, x], argTypes := #[t, t] })
    {v : Value} {ad : Addr} {m c : Nat} (hs : a.eval s = v) (hx : a.eval x = .slice (some ad) m c) {v' : Value} {w' : World} (hr : (Builtin.append_ #[t, t] o.type #[v, .slice (some ad) m c]).run P w = .ok v' w') (h : K (a.put o.dst v') w') : o.wpIn F n P a w K Q := by
  unfold Oper.wpIn
  refine ⟨?_, ?_⟩
  · simp [Oper.about, ho, resolve, Target.leads, Sem.run_pure]
  · rw [Oper.semAt_plain F _ _ (by rw [ho]; intro c hc'; cases hc')]
    simp [execOp, ho, resolve, invoke, builtin, hs, hx, hr, Result.andThen]
    exact h
theorem frombits_run (n : Int) (W : World) : (callFunc 31 #[.int .u64 n]).run Tryd.prog W = .ok (.value (.float .f64 n.toNat)) W := by
  rw [run_callFunc_extern Tryd.func31 (by kernel_rfl) (by kernel_rfl) (by kernel_rfl) (e := Extern.MathFloatBits.float64frombits) (by kernel_rfl)]
  rfl
attribute [local go_sem] frombits_run
set_option maxRecDepth 100000 in
set_option maxHeartbeats 8000000 in
theorem read_in (F : Fence) (n : Nat) (h17 : F.fn 17) (h30 : F.fn 30) (h54 : F.fn 54) (h31 : F.fn 31) (hro : F.round = none) (hn : 3 ≤ n) (b off cap : Nat) (hcap : 32 ≤ cap) (hcm : cap ≤ maxLen)
    (l : List UInt8) (hl : l.length = 32) (w : World) (hb : b < w.heap.size) (hcs : ∀ j, j < 32 → w.cell? ⟨b, off + j, none⟩ = some (.int .u8 (l.getD j 0).toNat)) :
    CallsIn F n Tryd.prog 17 #[.slice (some ⟨b, off, none⟩) 32 cap] w fun e W' => ∃ v, e = .returned (.tuple #[v, .int .i64 0]) ∧ W'.ownsRow w.heap.size 39 1 v 4 ((List.finRange 4).map (flV l)) ∧ Below w.heap.size w W' := by
  have h1 : 1 ≤ n := by omega
  refine callsIn_of_wp_marks Tryd.func17 rfl h17 ?_ hro
  simp only [Tryd.ntmps17, List.size_toArray, List.length_cons, List.length_nil, Nat.reduceAdd, Nat.reduceSub, Array.replicate_succ, Array.replicate_zero, List.push_toArray, List.append_toArray, List.nil_append, List.cons_append]
  gi_wp2_with (gi_at_call 30; refine (chunk_in F (n - 1) h30 hro _ _ _ _).mono ?_; rintro e w' ⟨rfl, rfl⟩)
  have bO := Boxed.new w 47 (.slice none 0 0)
  have bS := Boxed.new (w.alloc (.cells #[.slice none 0 0] 47)) 23 (.slice (some ⟨b, off, none⟩) 32 cap)
  have bN := Boxed.new ((w.alloc (.cells #[.slice none 0 0] 47)).alloc (.cells #[.slice (some ⟨b, off, none⟩) 32 cap] 23)) 3 (.int .i64 8)
  rw [World.size_alloc] at bS
  rw [World.size_alloc, World.size_alloc] at bN
  have hB0 : Below w.heap.size w (((w.alloc (.cells #[.slice none 0 0] 47)).alloc (.cells #[.slice (some ⟨b, off, none⟩) 32 cap] 23)).alloc (.cells #[.int .i64 8] 3)) :=
    (((Below.refl _ w).alloc (Nat.le_refl _) _).alloc (by simp) _).alloc (by simp; omega) _
  refine wpIn_rangeFunc_ownG hro h1 (gf := 54) (lb := #[.pointer (some ⟨w.heap.size + 1, 0, none⟩), .pointer (some ⟨w.heap.size + 1 + 1, 0, none⟩)]) rfl h54 (enters_of Tryd.func54 (by kernel_rfl) rfl)
    (chunk_stops F (n - 1) h54 hro (by omega) (w.heap.size + 1) (w.heap.size + 1 + 1) w.heap.size b off cap hcap hcm _ (bS.alloc _) bN) KpC.trans (kpc_b (by simp; omega)) (Below.refl _ _) (fun _ => rfl)
    (fun pre W => (∃ v, Boxed W w.heap.size 47 v ∧ W.ownsRow w.heap.size 39 1 v pre.length (pre.map (flV l)) ∧ True) ∧ Below w.heap.size w W)
    (fun _ _ _ => False)
    (OwnFrom.and (Own.from (holdsRow_own w.heap.size w.heap.size 47 39 1 (fun pre : List (Fin 4) => pre.length) (fun pre => pre.map (flV l)) (fun _ _ => True)) _) (ownFrom_below (Nat.le_refl _) (by simp; omega)))
    (fun _ _ _ _ _ hs _ _ => hs)
    ⟨⟨_, ((bO.alloc _).alloc _), World.ownsRow_nil _ _ _ _, trivial⟩, hB0⟩
    (fun x => { tmps := #[.slice (some ⟨b, off, none⟩) 32 cap, undef, .slice none 0 0, .int .i64 0, .pointer (some ⟨w.heap.size, 0, none⟩), .slice (some ⟨b, off + 8 * x.val, none⟩) 8 8, undef, undef, undef, .slice (some ⟨b, off, none⟩) 32 cap, .int .i64 32, .int .i64 0, .bool false,
      .slice (some ⟨b, off, none⟩) 32 cap, .func (.func 54) #[] #[.pointer (some ⟨w.heap.size + 1, 0, none⟩), .pointer (some ⟨w.heap.size + 1 + 1, 0, none⟩)], .slice (some ⟨b, off + 8 * x.val, none⟩) 8 8,
      undef, undef, undef, undef, undef, undef, undef, undef, undef, undef, undef, undef, undef, undef, undef, undef, undef, undef, undef, undef, undef], defers := [] }) ?assign ?body ?done ?stop
  case assign =>
    intro l x W K hK
    gi_wp2
    exact hK
  case body =>
    rintro lp pre x W ⟨⟨v, hv, hrow, _⟩, hB⟩ hlen
    have hx := x.isLt
    have hcx : ∀ k, k < 8 → W.cell? ⟨b, off + 8 * x.val + k, none⟩ = some (.int .u8 (l.getD (8 * x.val + k) 0).toNat) := fun k hk => by
      have := hcs (8 * x.val + k) (by omega)
      rw [← Nat.add_assoc] at this
      exact (hB.cell (p := ⟨b, off + 8 * x.val + k, none⟩) hb).trans this
    gi_wp2
    gi_loopw [6, 18] (fun s i wr => ∃ k : Nat, k ≤ 8 ∧ s = .int .u64 (numV (((l.drop (8 * x.val)).take 8).take k) : Nat) ∧ i = .int .i64 (k : Nat) ∧ wr = W)
      (fun _ i _ => 8 - (intOf i).toNat)
    case atStart => exact ⟨0, Nat.zero_le _, rfl, rfl, rfl⟩
    case round =>
      obtain ⟨k, hk, rfl, rfl, rfl⟩ := hrel
      by_cases hlt : k < 8
      · have hck := hcx k hlt
        gi_wp2
        have hle : 8 * x.val + 8 ≤ l.length := by omega
        have hs := numV_lt (((l.drop (8 * x.val)).take 8).take k)
        have hlk : (((l.drop (8 * x.val)).take 8).take k).length = k := by rw [List.length_take, List.length_take, List.length_drop]; omega
        rw [hlk] at hs
        refine ⟨⟨k + 1, by omega, ?_, by congr 1 <;> omega, trivial⟩, by simp [intOf]; omega⟩
        rw [← List.getD_eq_getElem?_getD, or_val hs (UInt8.toNat_lt _) hlt, take_snoc hlt hle, numV_snoc, hlk]
      · obtain rfl : k = 8 := by omega
        obtain ⟨i0, hi, hz0, hz1, hz2⟩ := info_parts info39
        have hdr : wr.drew.ownsRow w.heap.size 39 1 v pre.length (pre.map (flV l)) := hrow
        have hvd : Boxed wr.drew w.heap.size 47 v := hv
        have hlen' : pre.length < 4 := hlen
        obtain ⟨v', w1, hr, hown', hgrow, _⟩ := run_append_own (P := Tryd.prog) (wr.drew.alloc (.cells #[flV l x] 39)) w.heap.size 47 47 39 i0 (.float .f64 0) 1 8 Tryd.underlying47 hi hz0 hz1 hz2 rfl (by decide)
          v pre.length (pre.map (flV l)) (hdr.alloc _) ⟨wr.heap.size, 0, none⟩ 1 1 [flV l x] rfl (cell_one_new _ _ _) (by simp [Value.oneCell', flV]) (by simp only [maxLen]; omega) (by omega) (by have := hB.size; simp; omega)
        obtain ⟨g', cap', rfl⟩ := ownsRow_succ hown'
        obtain ⟨hv1, hv2, hr2, hk2, hb2⟩ := hvd.appended (by decide) hdr hB.size (Nat.le_refl _) hown' hgrow
        have hc0 := hv.cell
        have hf0 := hv.frozen
        have hc1 := hv1.cell
        have hf1 := hv1.frozen
        gi_wp2
        simp only [List.take_take, Nat.min_self]
        have hfl : flV l x = .float .f64 (numV ((l.drop (8 * x.val)).take 8)) := rfl
        rw [hfl] at hr
        have hc2 : (wr.alloc (.cells #[.float .f64 (numV ((l.drop (8 * x.val)).take 8))] 39)).drew.cell? ⟨w.heap.size, 0, none⟩ = some v := (hv.alloc _).cell
        have hf2 : (wr.alloc (.cells #[.float .f64 (numV ((l.drop (8 * x.val)).take 8))] 39)).drew.frozen? ⟨w.heap.size, 0, none⟩ = false := (hv.alloc _).frozen
        have kb : ∀ B t u, t ≠ 39 → B ≠ w.heap.size → Boxed wr B t u → Boxed (w1.setCell ⟨w.heap.size, 0, none⟩ (.slice (some ⟨g', 0, none⟩) (pre.length + 1) cap')) B t u := fun B t u ht hne hb =>
          (((show Boxed wr.drew B t u from hb).alloc _).kept hgrow ((show Boxed wr.drew B t u from hb).not_row ht hdr)).kept (grownBy_setCell' w1 w.heap.size _) (fun e => hne (by cases e; rfl))
        have hfin : ∀ ac : Act, ownPostG (((w.alloc (.cells #[.slice none 0 0] 47)).alloc (.cells #[.slice (some ⟨b, off, none⟩) 32 cap] 23)).alloc (.cells #[.int .i64 8] 3)).heap.size (KpC w.heap.size (w.heap.size + 1) (w.heap.size + 1 + 1))
            (fun pre W => (∃ v, Boxed W w.heap.size 47 v ∧ W.ownsRow w.heap.size 39 1 v pre.length (pre.map (flV l)) ∧ True) ∧ Below w.heap.size w W) (fun _ _ _ => False) (pre ++ [x]) wr .normal ac (w1.setCell ⟨w.heap.size, 0, none⟩ (.slice (some ⟨g', 0, none⟩) (pre.length + 1) cap')) := by
          intro ac
          have hd : KeepsOthers wr wr.drew := ⟨Nat.le_refl _, fun _ _ h _ => h⟩
          have hb3 : Below w.heap.size wr (w1.setCell ⟨w.heap.size, 0, none⟩ (.slice (some ⟨g', 0, none⟩) (pre.length + 1) cap')) := ((Below.refl w.heap.size wr).drew).trans hb2
          exact ⟨(hd.trans hk2).from _, ⟨hb3, fun u hu => kb _ _ u (by decide) (by omega) hu, fun u hu => kb _ _ u (by decide) (by omega) hu⟩, ⟨_, hv2, by simpa using hr2, trivial⟩, hB.trans hb3⟩
        have hmix : Tryd.prog.follows .mixedOrders = true := by kernel_rfl
        refine wpIn_region_any hmix ?_
        change wpAnyIn _ _ _ _ _ _ _ _ _ (World.drew _)
        repeat' (first
          | exact AllReadyIn.nil
          | (refine wpAnyIn_done (by decide +kernel) ?_ _)
          | (refine wpAnyIn_ready (rs := [0, 1]) (by decide +kernel) (by simp) ?_)
          | (refine wpAnyIn_ready (rs := [0, 2]) (by decide +kernel) (by simp) ?_)
          | (refine wpAnyIn_ready (rs := [1]) (by decide +kernel) (by simp) ?_)
          | (refine wpAnyIn_ready (rs := [0, 3]) (by decide +kernel) (by simp) ?_)
          | (refine wpAnyIn_ready (rs := [0]) (by decide +kernel) (by simp) ?_)
          | (refine wpAnyIn_ready (rs := [2]) (by decide +kernel) (by simp) ?_)
          | (refine wpAnyIn_ready (rs := [3]) (by decide +kernel) (by simp) ?_)
          | (refine wpAnyIn_ready (rs := [4]) (by decide +kernel) (by simp) ?_)
          | (refine wpAnyIn_ready (rs := [5]) (by decide +kernel) (by simp) ?_)
          | (refine AllReadyIn.cons rfl (fun K hK => ?_) ?_)
          | (refine app_in _ _ _ rfl rfl rfl hr (hK _ _ ?_); clear hK K)
          | (go_simp; refine hK _ _ ?_; clear hK K)
          | (go_simp; refine ⟨h31, hK _ _ ?_⟩; clear hK K))
        all_goals exact hfin { tmps := #[], defers := [] }
  case done =>
    rintro D ys W hD rfl ⟨⟨v, hv, hrow, _⟩, hB⟩ hK
    have hc := hv.cell
    have hf := hv.frozen
    gi_wp2
    refine ⟨by simp, .inl ⟨_, _, rfl, run_takeDeferred hK, ?_⟩⟩
    exact ⟨_, results_tmp2 rfl _ _ _, v, rfl, ownsRow_putObj hrow _ hK rfl, hB.trans (belowK_b (w := w) (Nat.le_refl _) W D _ _ (by simp at hD; omega) hK rfl rfl)⟩
  case stop =>
    rintro D c pre W _ _ h _
    exact h.elim
end Go.Proofs
