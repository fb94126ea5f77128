/- What Build's closures look at. -/
import Derived.Test.YthjnkpoalbddkaaStepY
import Derived.Test.YthjnkpoalbddkaaApplyY
import Derived.Test.YthjnkpoalbddkaaComY
import Derived.Maps.OwnOps
import Derived.Maps.OwnSet
namespace Go.Proofs.Ythjnkpoalbddkaa
open Go.RowKit Go.Maps Go.WideMaps
/-- a map to true of the texts that are in S -/
def Opn (D : DataW Unit) (S : Bs → Prop) : Prop := IsMap D ∧ ∀ x, (S x → D.atKey (litS x) (.lit (.bool false)) = .lit (.bool true)) ∧ (¬ S x → D.atKey (litS x) (.lit (.bool false)) = .lit (.bool false))
theorem opn_empty : Opn (.map [] : DataW Unit) (fun _ => False) := ⟨isMap_empty, fun _ => ⟨fun h => h.elim, fun _ => rfl⟩⟩
theorem opn_put {D : DataW Unit} {S : Bs → Prop} (h : Opn D S) (x : Bs) : Opn (D.put (litS x) (.lit (.bool true))) (fun y => y = x ∨ S y) := by
  refine ⟨h.1.put _ _, fun y => ?_⟩
  by_cases e : y = x
  · subst e
    exact ⟨fun _ => atKey_put_same h.1 (litS_key _) _ _, fun hn => (hn (.inl rfl)).elim⟩
  · have hne : litS y ≠ litS x := fun hk => e (litS_inj hk)
    rw [atKey_put_other hne]
    exact ⟨fun hs => (h.2 y).1 (hs.resolve_left e), fun hs => (h.2 y).2 (fun h9 => hs (.inr h9))⟩
theorem opn_mono {D : DataW Unit} {S S' : Bs → Prop} (h : Opn D S) (he : ∀ x, S x ↔ S' x) : Opn D S' := ⟨h.1, fun x => ⟨fun hs => (h.2 x).1 ((he x).2 hs), fun hs => (h.2 x).2 (fun h9 => hs ((he x).1 h9))⟩⟩
theorem zero4 (w : World) : (zeroValue 4).run Try.prog w = .ok (.bool false) w := by kernel_rfl
theorem plainElem_bool_inv {v : Value} {z : DataW Unit × List MemPlace} (h : plainElem Try.prog 4 v = some z) : ∃ b, v = .bool b ∧ z = (.lit (.bool b), []) := by
  unfold plainElem at h
  cases v <;> simp [Try.underlying4] at h
  exact ⟨_, rfl, h.symm⟩
theorem opn_lookup {w : World} {g n : Nat} {D : DataW Unit} {R : List Rule} (hown : w.ownsMap Try.prog 9 (plainElem Try.prog 4) g n D) (hR : Opn D (OpenW R)) (s : ByteArray) (hs : s.size ≤ maxLen) :
    (Instr.lookup 93 (.map (some g)) (.string s) false).run Try.prog w = .ok (.bool (openB R s.data.toList)) w := by
  obtain ⟨v, ps, hrun, hv⟩ := hown.lookup (string_keyed Try.underlying9) Try.underlying93 (zero4 w) (plainElem_bool Try.underlying4 false) (keyOf_string_mk Try.underlying9 hs)
  obtain ⟨b, rfl, hb⟩ := plainElem_bool_inv hv
  simp only [Prod.mk.injEq] at hb
  rw [hrun]
  have h1 := hb.1
  rw [show D.atKey (Lit.string s.data.toList) = D.atKey (litS s.data.toList) from rfl] at h1
  by_cases ho : OpenW R s.data.toList
  · rw [(hR.2 _).1 ho] at h1
    rw [openB_iff.2 ho]
    have : b = true := by simpa using h1.symm
    rw [this]
  · rw [(hR.2 _).2 ho] at h1
    have h2 : openB R s.data.toList = false := by
      cases e : openB R s.data.toList
      · rfl
      · exact (ho (openB_iff.1 e)).elim
    rw [h2]
    have : b = false := by simpa using h1.symm
    rw [this]
structure BCtx (w0 : World) (l : List SR) (A : Option Addr) (n c : Nat) (bo bt br go gt ko kt : Nat) (Do Dt : DataW Unit) (W : World) : Prop where
  bel : Below w0.heap.size w0 W
  arr : Arr w0 w0.heap.size 2 A n (RuleC l)
  ll : l.length = n
  ok : AllOk l
  xo : Blk W bo 93 [.map (some go)]
  xt : Blk W bt 60 [.map (some gt)]
  xr : Blk W br 22 [.slice A n c]
  mo : W.ownsMap Try.prog 9 (plainElem Try.prog 4) go ko Do
  mt : W.ownsMap Try.prog 9 (plainElem Try.prog 9) gt kt Dt
  opn : Opn Do (OpenW (rulesOf l))
  tel : Tells Dt (toF l l.length)
section
variable {w0 : World} {l : List SR} {A : Option Addr} {n c : Nat} {bo bt br go gt ko kt : Nat} {Do Dt : DataW Unit} {W W' : World}
theorem BCtx.but {S : Nat → Prop} (h : BCtx w0 l A n c bo bt br go gt ko kt Do Dt W) (hb : But S W W') (hs : ∀ k, S k → w0.heap.size ≤ k ∧ k ≠ bo ∧ k ≠ bt ∧ k ≠ br ∧ k ≠ go ∧ k ≠ gt) : BCtx w0 l A n c bo bt br go gt ko kt Do Dt W' :=
  ⟨h.bel.trans (hb.below h.bel.size (fun k hk => (hs k hk).1)), h.arr, h.ll, h.ok, hb.blk h.xo (fun e => (hs _ e).2.1 rfl), hb.blk h.xt (fun e => (hs _ e).2.2.1 rfl), hb.blk h.xr (fun e => (hs _ e).2.2.2.1 rfl), hb.maps h.mo (fun e => (hs _ e).2.2.2.2.1 rfl), hb.maps h.mt (fun e => (hs _ e).2.2.2.2.2 rfl), h.opn, h.tel⟩
theorem BCtx.go' (h : BCtx w0 l A n c bo bt br go gt ko kt Do Dt W) (hw : Below W.heap.size W W') : BCtx w0 l A n c bo bt br go gt ko kt Do Dt W' := by
  have hb := But.of_below hw
  have e : ∀ k, k < W.heap.size → ¬ W.heap.size ≤ k := fun k hk => by omega
  exact ⟨h.bel.trans (hw.mono h.bel.size), h.arr, h.ll, h.ok, hb.blk h.xo (e _ h.xo.lt), hb.blk h.xt (e _ h.xt.lt), hb.blk h.xr (e _ h.xr.lt), hb.maps h.mo (e _ h.mo.lt), hb.maps h.mt (e _ h.mt.lt), h.opn, h.tel⟩
theorem BCtx.h16 (h : BCtx w0 l A n c bo bt br go gt ko kt Do Dt W) : ∀ r ∈ rulesOf l, r.1.length ≤ 16 := fun r hr => by
  obtain ⟨k, hk, rfl⟩ := mem_rulesOf.mp hr
  have := (h.ok.2 k hk).few
  rw [size_data]; exact this
theorem BCtx.h32 (h : BCtx w0 l A n c bo bt br go gt ko kt Do Dt W) : ∀ r ∈ rulesOf l, r.2.length ≤ 32 := fun r hr => by
  obtain ⟨k, hk, rfl⟩ := mem_rulesOf.mp hr
  have := (h.ok.2 k hk).few2
  rw [size_data]; exact this
end
def strLen : Value → Nat
  | .string s => s.size
  | _ => 0
theorem cut_to (s : ByteArray) (p : Nat) (h : p ≤ s.size) : ∃ pc : ByteArray, pc.data.toList = s.data.toList.take p ∧ pc.size = p ∧ ∀ W, (Instr.slice 9 (.string s) none (some (.int .i64 (p : Int))) none).run Try.prog W = .ok (.string pc) W := by
  refine ⟨s.extract 0 p, ?_, ?_, fun W => ?_⟩
  · simp
  · rw [ByteArray.size_extract]; omega
  · rw [run_slice_string_to_if W 9 s .i64 _ Try.underlying9, if_pos ⟨by omega, by omega⟩]
    rfl
theorem cut_from (s : ByteArray) (p : Nat) (h : p ≤ s.size) : ∃ pc : ByteArray, pc.data.toList = s.data.toList.drop p ∧ pc.size = s.size - p ∧ ∀ W, (Instr.slice 9 (.string s) (some (.int .i64 (p : Int))) none none).run Try.prog W = .ok (.string pc) W := by
  have e : (s.extract p s.size).data.toList = s.data.toList.drop p := by
    have h1 := piece_list s p (s.size - p)
    rw [show p + (s.size - p) = s.size by omega] at h1
    rw [h1, List.take_of_length_le (by rw [List.length_drop, size_data]; exact Nat.le_refl _)]
  refine ⟨s.extract p s.size, e, ?_, fun W => ?_⟩
  · rw [← size_data, e, List.length_drop, size_data]
  · rw [run_slice_string_from_if W 9 s .i64 _ Try.underlying9, if_pos ⟨by omega, by omega⟩]
    rfl
end Go.Proofs.Ythjnkpoalbddkaa
