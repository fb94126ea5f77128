/- Join of this seat, in one text. -/
import Derived.Test.YtgejpggbmgiocaaM8
import Derived.Test.YtgejpggbmgiocaaM18
import Derived.Maps.AppendAt
import Derived.Test.YtgejpggbmgiocaaM11
/- What Join does. -/
namespace Go.Proofs.Ytgejpggbmgiocaa
open Go.RowKit
def sgF (x : Int) : Int := if x < 0 then 0 else if 65536 < x then 65536 else x
/-- the program's pairs and number of signs in memory -/
structure PairsIn (w : World) (B : Nat) (prg : List Value) (sg : Int) (S K V : List Int) : Prop where
  sz : w.heap.size = B
  p3 : prg[3]? = some (.int .i64 sg)
  hash : ∃ A0 A1 A2 n0 n1 n2 c0 c1 c2, prg[7]? = some (.slice A0 n0 c0) ∧ prg[8]? = some (.slice A1 n1 c1) ∧ prg[9]? = some (.slice A2 n2 c2) ∧ HashIn w A0 A1 A2 n0 n1 n2 S K V
  hv : Under 18446744073709551616 V
def MV (r : Option (List Int)) (v : Value) (w' : World) : Prop := match r with
  | none => v = .slice none 0 0
  | some o => ∃ A c, v = .slice A o.length c ∧ Arr w' w'.heap.size 1 A o.length (IntC o) ∧ (A = none → o.length = 0 ∧ c = 0)
theorem MRes.form {r : Option (List Int)} {w w' : World} {e : Ending} (h : MRes r w e w') : Below w.heap.size w w' ∧ ∃ v, e = .returned (.tuple #[v, .bool r.isSome]) ∧ MV r v w' := by
  obtain ⟨hb, hr⟩ := h
  refine ⟨hb, ?_⟩
  cases r with
  | none => exact ⟨_, hr, rfl⟩
  | some o =>
    obtain ⟨A, c, he, h1, h2⟩ := hr
    exact ⟨_, he, A, c, rfl, h1, h2⟩
def mgF (sg : Int) (S K V : List Int) (l : List Int) : Option (List Int) := if badId (sgF sg) l = true then none else mergeF (hget S K V) (sgF sg) l
theorem wpList_append_any {P : Program} (w : World) {ops : Array Oper} {rest : List Oper} {o : Oper} {a : Act} {Q : Exit → Act → World → Prop} (hgd : o.guard = none) (s x : Operand) (t : TypeId)
    (ho : o.op = .call { callee := .builtin .append, args := #[s, x], argTypes := #[t, t] })
    (base : Nat) (e : TypeId) (i : TypeInfo) (z : Value) (size bytes : Nat) (ht : P.underlying t = some (.slice e)) (hi : P.info? e = some i) (hz : i.zero = some z)
    (hsize : i.size = size) (hby : i.bytes = bytes) (hzs : z.cells.size = size) (hsz : 0 < size)
    (v : Value) (n : Nat) (xs : List Value) (hs : a.eval s = v) (hown : w.ownsRow base e size v n xs)
    (A : Option Addr) (m c : Nat) (news : List Value) (hx : a.eval x = .slice A m c) (hl : news.length = m * size) (hA : A = none → m = 0 ∧ c = 0)
    (hnews : ∀ ad, A = some ad → ∀ j u, news[j]? = some u → w.cell? (ad.add j) = some u) (h1 : ∀ u ∈ news, u.oneCell' = true)
    (h63 : n + m ≤ maxLen) (hbytes : (n + m) * bytes ≤ 140737488355328) (hbase : base ≤ w.heap.size)
    (h : ∀ v' w', w'.ownsRow base e size v' (n + m) (xs ++ news) → w.grownBy w' v.ownBlock → (v'.ownBlock = v.ownBlock ∨ v'.ownBlock = some w.heap.size) → wpList P ops Q rest (a.put o.dst v') w') :
    wpList P ops Q (o :: rest) a w := by
  cases A with
  | none =>
    obtain ⟨rfl, rfl⟩ := hA rfl
    obtain rfl : news = [] := List.eq_nil_of_length_eq_zero (by simpa using hl)
    have hrun := run_append_owned_none (P := P) (w := w) base t o.type e i size ht hi v n xs hown
    have hK := h v w (by simpa using hown) ⟨rfl, rfl, rfl, Nat.le_refl _, fun _ _ _ => rfl⟩ (.inl rfl)
    refine wpList_plain hgd fun K hKK => ?_
    unfold Oper.wp
    simp [execOp, ho, resolve, invoke, builtin, hs, hx, hrun, Result.andThen]
    exact hKK _ _ hK
  | some ad =>
    exact wpList_append_own_at (w := w) hgd s x t ho base e i z size bytes ht hi hz hsize hby hzs hsz v n xs hs hown ad m c news hx hl (hnews ad rfl) h1 h63 hbytes hbase (fun v' w' a1 a2 _ a4 => h v' w' a1 a2 a4)
theorem RS.toldApp2 {B g : Nat} {w0 W W' : World} {prg : List Value} {room fuel : Int} {s : St} {vs vp vg vt v' : Value} (h : RS B g w0 W prg room fuel s vs vp vg vt) {xs : List Int} (ho : W'.ownsRow (g + 1) 3 1 v' (s.told.length + xs.length) (numsV .i64 s.told ++ numsV .i64 xs)) (hg : W.grownBy W' vt.ownBlock) (hor : v'.ownBlock = vt.ownBlock ∨ v'.ownBlock = some W.heap.size) :
    RS B g w0 (W'.setCell ⟨g, 24, none⟩ v') prg room fuel { s with told := s.told ++ xs } vs vp vg v' := by
  have hm := h.mid hg (fun b e => by have := (h.told.lt b e).1; omega)
  have hh : ∀ b, b ≠ g → (W'.setCell ⟨g, 24, none⟩ v').heap[b]? = W'.heap[b]? := fun b hb => Below.heap_setCell _ _ _ b hb
  have hl : (s.told ++ xs).length = s.told.length + xs.length := by simp
  have hs : W.heap.size ≤ W'.heap.size := hg.size
  refine ⟨h.pl, h.rl, h.ml, hm.1.setCell (p := ⟨g, 24, none⟩) h.gB _, h.gB, ?_, ?_, ?_, ?_, ?_, h.asg, h.asp, h.ass, (apart_any h.ast hor (fun b e => (h.src.near b e).2)), h.apg, (apart_any h.apt hor (fun b e => (h.put.lt b e).2)), (apart_any h.agt hor (fun b e => (h.sgn.lt b e).2))⟩
  · have := hm.2.set 24 v'
    rw [rs_tail h.pl h.rl h.ml 4] at this
    exact this
  · refine (h.src.keep hs (fun b e => hg.block b (h.src.near b e).2 (fun e9 => h.ast b e e9.symm))).keep (by simp) (fun b e => hh b (fun e9 => h.asg (by rw [e, e9])))
  · exact own_move (own_far h.put hg h.apt) (fun b _ e ho' _ => (hh b (by have := (h.put.lt b e).1; omega)).trans ho')
  · exact own_move (own_far h.sgn hg h.agt) (fun b _ e ho' _ => (hh b (by have := (h.sgn.lt b e).1; omega)).trans ho')
  · rw [hl]; simp only [numsV, List.map_append] at ho ⊢; exact own_move ho (fun b _ e ho' _ => (hh b (by have := (ho.lt b e).1; omega)).trans ho')
theorem RS.noSigns {B g : Nat} {w0 W : World} {prg : List Value} {room fuel : Int} {s : St} {vs vp vg vt : Value} (h : RS B g w0 W prg room fuel s vs vp vg vt) : RS B g w0 (W.setCell ⟨g, 23, none⟩ (.slice none 0 0)) prg room fuel { s with signs := [] } vs vp (.slice none 0 0) vt := by
  have hh : ∀ b, b ≠ g → (W.setCell ⟨g, 23, none⟩ (.slice none 0 0)).heap[b]? = W.heap[b]? := fun b hb => Below.heap_setCell _ _ _ b hb
  refine ⟨h.pl, h.rl, h.ml, h.below.setCell (p := ⟨g, 23, none⟩) h.gB _, h.gB, ?_, h.src.keep (by simp) (fun b e => hh b (fun e9 => h.asg (by rw [e, e9]))), own_move h.put (fun b _ e ho _ => (hh b (by have := (h.put.lt b e).1; omega)).trans ho), World.ownsRow_nil _ _ _ _, own_move h.told (fun b _ e ho _ => (hh b (by have := (h.told.lt b e).1; omega)).trans ho), h.asg, h.asp, (fun b _ e2 => by cases e2), h.ast, (fun b _ e2 => by cases e2), h.apt, (fun b e => by cases e)⟩
  have := h.box.set 23 (.slice none 0 0)
  rw [rs_tail h.pl h.rl h.ml 3] at this
  exact this
set_option maxRecDepth 100000 in
set_option maxHeartbeats 8000000 in
theorem join_any (B g : Nat) (w0 W : World) (prg : List Value) (room fuel : Int) (s : St) (vs vp vg vt : Value) (sg : Int) (S K V : List Int) (h : RS B g w0 W prg room fuel s vs vp vg vt) (hp : PairsIn w0 B prg sg S K V) (hn : s.told.length ≤ 10000000000) (hsn : s.signs.length ≤ 262144) (hro : room ≤ 10000000000) :
    Calls Try.prog 42 #[.pointer (some ⟨g, 0, none⟩)] W fun e w' => ∃ vg' vt', match mgF sg S K V s.signs with
      | none => e = .returned (.tuple #[.int .i64 3, .bool true]) ∧ RS B g w0 w' prg room fuel s vs vp vg' vt'
      | some l => if room < (s.told.length + l.length : Nat) then e = .returned (.tuple #[.int .i64 1, .bool true]) ∧ RS B g w0 w' prg room fuel s vs vp vg' vt' else e = .returned (.tuple #[.int .i64 0, .bool false]) ∧ RS B g w0 w' prg room fuel { s with told := s.told ++ l, signs := [] } vs vp vg' vt' := by
  obtain ⟨A0, A1, A2, n0, n1, n2, c0, c1, c2, h7, h8, h9, hin⟩ := hp.hash
  have h3 := hp.p3
  obtain ⟨Ag, cg, rfl⟩ := own_sl h.sgn
  have HIN := Lib.hid (fun (W : World) (h : RS B g w0 W prg room fuel s vs vp (.slice Ag s.signs.length cg) vt) => hin.keep (by rw [hp.sz]; exact h.below))
  have HV := Lib.hid hp.hv
  obtain ⟨R, hR⟩ : ∃ R, R = mgF sg S K V s.signs := ⟨_, rfl⟩
  have HM := Lib.hid (fun (W : World) (h : RS B g w0 W prg room fuel s vs vp (.slice Ag s.signs.length cg) vt) => merge_walk A0 A1 A2 Ag n0 n1 n2 c0 c1 c2 s.signs.length cg S K V s.signs (sgF sg) W (HIN.out W h) HV.out (by unfold sgF; split <;> (try split) <;> omega) (by unfold sgF; split <;> (try split) <;> omega) hsn rfl (own_ints h.sgn))
  rw [← hR]
  rw [show (if badId (sgF sg) s.signs = true then none else mergeF (hget S K V) (sgF sg) s.signs) = R from hR.symm] at HM
  have hlen : ∀ l, R = some l → l.length ≤ 262144 := fun l hl => by
    rw [hR] at hl
    unfold mgF at hl
    split at hl
    · cases hl
    · have := length_mergeF hl
      omega
  have HLEN := Lib.hid hlen
  have hq7 : ∀ W, RS B g w0 W prg room fuel s vs vp (.slice Ag s.signs.length cg) vt → W.cell? ⟨g, 7, none⟩ = some (.slice A0 n0 c0) := fun W h => (h.cells.p 7 (by omega)).trans h7
  have hq8 : ∀ W, RS B g w0 W prg room fuel s vs vp (.slice Ag s.signs.length cg) vt → W.cell? ⟨g, 8, none⟩ = some (.slice A1 n1 c1) := fun W h => (h.cells.p 8 (by omega)).trans h8
  have hq9 : ∀ W, RS B g w0 W prg room fuel s vs vp (.slice Ag s.signs.length cg) vt → W.cell? ⟨g, 9, none⟩ = some (.slice A2 n2 c2) := fun W h => (h.cells.p 9 (by omega)).trans h9
  have hq3 : ∀ W, RS B g w0 W prg room fuel s vs vp (.slice Ag s.signs.length cg) vt → W.cell? ⟨g, 3, none⟩ = some (.int .i64 sg) := fun W h => (h.cells.p 3 (by omega)).trans h3
  have hqg : ∀ W, RS B g w0 W prg room fuel s vs vp (.slice Ag s.signs.length cg) vt → W.cell? ⟨g, 23, none⟩ = some (.slice Ag s.signs.length cg) := fun W h => h.cells.vg
  have H := Lib.hid h
  have hlt := h.lt
  obtain ⟨sv, hsv⟩ : ∃ x, x = sgF sg := ⟨_, rfl⟩
  rw [← hsv] at HM
  have hmx : (if 65536 < if sg < 0 then 0 else sg then 65536 else if sg < 0 then 0 else sg) = sv := by
    rw [hsv]; unfold sgF
    split <;> split <;> (try split) <;> omega
  clear h hp h7 h8 h9 hin h3 hR hlen hsv
  go_enter Try.func42, Try.ntmps42
  go_upto_region 1 with (fail)
  go_cut [4, 5] from 6 (fun va b wx => RS B g w0 wx prg room fuel s vs vp (.slice Ag s.signs.length cg) vt ∧ b = .bool R.isSome ∧ MV R va wx)
  case first =>
    refine wp_region_held_drew (S := fun W' => RS B g w0 W' prg room fuel s vs vp (.slice Ag s.signs.length cg) vt) (by kernel_rfl) (H.out.drew) (fun hHeld => ?_)
    refine wpAnyH_take (i := 0) (v := ?v0) (List.getElem?_toArray.trans rfl) (by kernel_rfl) (by kernel_rfl) (by kernel_rfl) (fun _ _ _ h => h) (Or.inl ⟨by rfl, ?hy0⟩) (by assumption) ?rest0
    case hy0 => (intro W hSw; go_simp <;> (with_reducible rfl))
    simp only [Act.put, List.setIfInBounds_toArray, List.set_cons_zero, List.set_cons_succ]
    refine wpAnyH_take (i := 1) (v := ?v1) (List.getElem?_toArray.trans rfl) (by kernel_rfl) (by kernel_rfl) (by kernel_rfl) (fun _ _ _ h => h) (Or.inl ⟨by rfl, ?hy1⟩) (by assumption) ?rest1
    case hy1 => (intro W hSw; go_simp <;> (with_reducible rfl))
    simp only [Act.put, List.setIfInBounds_toArray, List.set_cons_zero, List.set_cons_succ]
    refine wpAnyH_take (i := 2) (v := ?v2) (List.getElem?_toArray.trans rfl) (by kernel_rfl) (by kernel_rfl) (by kernel_rfl) (fun _ _ _ h => h) (Or.inl ⟨by rfl, ?hy2⟩) (by assumption) ?rest2
    case hy2 => (intro W hSw; go_simp <;> (with_reducible rfl))
    simp only [Act.put, List.setIfInBounds_toArray, List.set_cons_zero, List.set_cons_succ]
    refine wpAnyH_take (i := 3) (v := ?v3) (List.getElem?_toArray.trans rfl) (by kernel_rfl) (by kernel_rfl) (by kernel_rfl) (fun _ _ _ h => h) (Or.inl ⟨by rfl, ?hy3⟩) (by assumption) ?rest3
    case hy3 => (intro W hSw; go_simp <;> (with_reducible rfl))
    simp only [Act.put, List.setIfInBounds_toArray, List.set_cons_zero, List.set_cons_succ]
    refine wpAnyH_take (i := 4) (v := ?v4) (List.getElem?_toArray.trans rfl) (by kernel_rfl) (by kernel_rfl) (by kernel_rfl) (fun _ _ _ h => h) (Or.inl ⟨by rfl, ?hy4⟩) (by assumption) ?rest4
    case hy4 => (intro W hSw; go_simp <;> (with_reducible rfl))
    simp only [Act.put, List.setIfInBounds_toArray, List.set_cons_zero, List.set_cons_succ]
    refine wpAnyH_take (i := 5) (v := ?v5) (List.getElem?_toArray.trans rfl) (by kernel_rfl) (by kernel_rfl) (by kernel_rfl) (fun _ _ _ h => h) (Or.inl ⟨by rfl, ?hy5⟩) (by assumption) ?rest5
    case hy5 => (intro W hSw; go_simp <;> (with_reducible rfl))
    simp only [Act.put, List.setIfInBounds_toArray, List.set_cons_zero, List.set_cons_succ]
    refine wpAnyH_take (i := 6) (v := ?v6) (List.getElem?_toArray.trans rfl) (by kernel_rfl) (by kernel_rfl) (by kernel_rfl) (fun _ _ _ h => h) (Or.inl ⟨by rfl, ?hy6⟩) (by assumption) ?rest6
    case hy6 => (intro W hSw; go_simp <;> (with_reducible rfl))
    simp only [Act.put, List.setIfInBounds_toArray, List.set_cons_zero, List.set_cons_succ]
    refine wpAnyH_take (i := 7) (v := ?v7) (List.getElem?_toArray.trans rfl) (by kernel_rfl) (by kernel_rfl) (by kernel_rfl) (fun _ _ _ h => h) (Or.inl ⟨by rfl, ?hy7⟩) (by assumption) ?rest7
    case hy7 => (intro W hSw; go_simp <;> (with_reducible rfl))
    simp only [Act.put, List.setIfInBounds_toArray, List.set_cons_zero, List.set_cons_succ]
    refine wpAnyH_take (i := 8) (v := ?v8) (List.getElem?_toArray.trans rfl) (by kernel_rfl) (by kernel_rfl) (by kernel_rfl) (fun _ _ _ h => h) (Or.inl ⟨by rfl, ?hy8⟩) (by assumption) ?rest8
    case hy8 => (intro W hSw; go_simp <;> (with_reducible rfl))
    simp only [Act.put, List.setIfInBounds_toArray, List.set_cons_zero, List.set_cons_succ]
    refine wpAnyH_take (i := 9) (v := ?v9) (List.getElem?_toArray.trans rfl) (by kernel_rfl) (by kernel_rfl) (by kernel_rfl) (fun _ _ _ h => h) (Or.inl ⟨by rfl, ?hy9⟩) (by assumption) ?rest9
    case hy9 => (intro W hSw; go_simp <;> (with_reducible rfl))
    simp only [Act.put, List.setIfInBounds_toArray, List.set_cons_zero, List.set_cons_succ]
    refine wpAnyH_take (i := 10) (v := ?v10) (List.getElem?_toArray.trans rfl) (by kernel_rfl) (by kernel_rfl) (by kernel_rfl) (fun _ _ _ h => h) (Or.inl ⟨by rfl, ?hy10⟩) (by assumption) ?rest10
    case hy10 => (intro W hSw; go_simp <;> (with_reducible rfl))
    simp only [Act.put, List.setIfInBounds_toArray, List.set_cons_zero, List.set_cons_succ]
    refine wpAnyH_take (i := 11) (v := ?v11) (List.getElem?_toArray.trans rfl) (by kernel_rfl) (by kernel_rfl) (by kernel_rfl) (fun _ _ _ h => h) (Or.inl ⟨by rfl, ?hy11⟩) (by assumption) ?rest11
    case hy11 => (intro W hSw; go_simp <;> (with_reducible rfl))
    simp only [Act.put, List.setIfInBounds_toArray, List.set_cons_zero, List.set_cons_succ]
    refine wpAnyH_take (i := 12) (v := ?v12) (List.getElem?_toArray.trans rfl) (by kernel_rfl) (by kernel_rfl) (by kernel_rfl) (fun _ _ _ h => h) (Or.inl ⟨by rfl, ?hy12⟩) (by assumption) ?rest12
    case hy12 => (intro W hSw; go_simp <;> (with_reducible rfl))
    simp only [Act.put, List.setIfInBounds_toArray, List.set_cons_zero, List.set_cons_succ]
    refine wpAnyH_take (i := 13) (v := ?v13) (List.getElem?_toArray.trans rfl) (by kernel_rfl) (by kernel_rfl) (by kernel_rfl) (fun _ _ _ h => h) (Or.inl ⟨by rfl, ?hy13⟩) (by assumption) ?rest13
    case hy13 => (intro W hSw; go_simp <;> (with_reducible rfl))
    simp only [Act.put, List.setIfInBounds_toArray, List.set_cons_zero, List.set_cons_succ]
    refine wpAnyH_take (i := 14) (v := ?v14) (List.getElem?_toArray.trans rfl) (by kernel_rfl) (by kernel_rfl) (by kernel_rfl) (fun _ _ _ h => h) (Or.inl ⟨by rfl, ?hy14⟩) (by assumption) ?rest14
    case hy14 => (intro W hSw; go_simp <;> (with_reducible rfl))
    simp only [Act.put, List.setIfInBounds_toArray, List.set_cons_zero, List.set_cons_succ]
    refine wpAnyH_take (i := 15) (v := ?v15) (List.getElem?_toArray.trans rfl) (by kernel_rfl) (by kernel_rfl) (by kernel_rfl) (fun _ _ _ h => h) (Or.inl ⟨by rfl, ?hy15⟩) (by assumption) ?rest15
    case hy15 => (intro W hSw; go_simp <;> (with_reducible rfl))
    simp only [Act.put, List.setIfInBounds_toArray, List.set_cons_zero, List.set_cons_succ]
    refine wpAnyH_ready (rs := [16]) (by kernel_rfl) (by simp) ?_
    refine AllReadyH.cons (List.getElem?_toArray.trans rfl) (fun K hK => ?_) AllReadyH.nil
    go_simp
    (try rw [hmx])
    refine ((HM.out _ (by assumption)).mono fun _ _ h => MRes.form h).mono ?_
    rintro e w3 ⟨hb3, v3, rfl, hv3⟩
    have M9 : RS B g w0 w3 prg room fuel s vs vp (.slice Ag s.signs.length cg) vt := RS.call (by assumption) hb3
    refine hK.out _ _ M9 (fun hHeld => ?_)
    clear hK K
    refine wpAnyH_take (i := 17) (v := ?v17) (List.getElem?_toArray.trans rfl) (by kernel_rfl) (by kernel_rfl) (by kernel_rfl) (fun _ _ _ h => h) (Or.inl ⟨by rfl, ?hy17⟩) (by assumption) ?rest17
    case hy17 => (intro W hSw; go_simp <;> (with_reducible rfl))
    simp only [Act.put, List.setIfInBounds_toArray, List.set_cons_zero, List.set_cons_succ]
    refine wpAnyH_take (i := 18) (v := ?v18) (List.getElem?_toArray.trans rfl) (by kernel_rfl) (by kernel_rfl) (by kernel_rfl) (fun _ _ _ h => h) (Or.inl ⟨by rfl, ?hy18⟩) (by assumption) ?rest18
    case hy18 => (intro W hSw; go_simp <;> (with_reducible rfl))
    simp only [Act.put, List.setIfInBounds_toArray, List.set_cons_zero, List.set_cons_succ]
    refine wpAnyH_take (i := 19) (v := ?v19) (List.getElem?_toArray.trans rfl) (by kernel_rfl) (by kernel_rfl) (by kernel_rfl) (fun _ _ _ h => h) (Or.inl ⟨by rfl, ?hy19⟩) (by assumption) ?rest19
    case hy19 => (intro W hSw; go_simp <;> (with_reducible rfl))
    simp only [Act.put, List.setIfInBounds_toArray, List.set_cons_zero, List.set_cons_succ]
    refine wpAnyH_take (i := 20) (v := ?v20) (List.getElem?_toArray.trans rfl) (by kernel_rfl) (by kernel_rfl) (by kernel_rfl) (fun _ _ _ h => h) (Or.inl ⟨by rfl, ?hy20⟩) (by assumption) ?rest20
    case hy20 => (intro W hSw; go_simp <;> (with_reducible rfl))
    simp only [Act.put, List.setIfInBounds_toArray, List.set_cons_zero, List.set_cons_succ]
    refine wpAnyH_take (i := 21) (v := ?v21) (List.getElem?_toArray.trans rfl) (by kernel_rfl) (by kernel_rfl) (by kernel_rfl) (fun _ _ _ h => h) (Or.inl ⟨by rfl, ?hy21⟩) (by assumption) ?rest21
    case hy21 => (intro W hSw; go_simp <;> (with_reducible rfl))
    simp only [Act.put, List.setIfInBounds_toArray, List.set_cons_zero, List.set_cons_succ]
    refine wpAnyH_done (by kernel_rfl) ?_ _
    go_wp2_with fail
    all_goals
      rename_i hJ hK9
      refine Met.intro (hJ _ _ ?_)
      repeat apply Exists.intro
      exact ⟨⟨M9, rfl, hv3⟩, rfl⟩
  case rest =>
    obtain ⟨hX, rfl, hv⟩ := hcut
    have HX := Lib.hid hX
    clear hX hq7 hq8 hq9 hq3 hqg HM hmx
    cases R with
    | none =>
      have hv2 : _ = Value.slice none 0 0 := hv
      subst hv2
      go_wp2_with fail
      go_returns
      exact ⟨by first | rfl | simp, _, _, HX.out⟩
    | some o =>
      obtain ⟨A7, c7, rfl, hA7, hA0⟩ := hv
      have hol := HLEN.out o rfl
      obtain ⟨on, hon⟩ : ∃ n, n = o.length := ⟨_, rfl⟩
      rw [← hon] at hA7 hA0 hol ⊢
      obtain ⟨At, ct, rfl⟩ := own_sl HX.out.told
      obtain ⟨tn, htn⟩ : ∃ n, n = s.told.length := ⟨_, rfl⟩
      have t1 := HX.out.cells.vt
      have t2 := HX.out.cells.room
      have t3 := HX.out.cells.vg
      rw [← htn] at t1 hn
      have HA7 := Lib.hid (And.intro hA7 hA0)
      have HON := Lib.hid (And.intro hon htn)
      clear hA7 hA0 hon htn
      by_cases hr : room < ((tn + on : Nat) : Int)
      · have d1 : decide (room < (tn : Int) + (on : Int)) = true := by simp; omega
        have hr3 : room < (s.told.length : Int) + (o.length : Int) := by rw [← HON.out.1, ← HON.out.2]; omega
        go_wp2_with fail
        go_quiet (fail)
        go_wp2_with fail
        go_returns
        exact ⟨by first | rfl | simp, _, _, HX.out.drewN _⟩
      · have d1 : decide (room < (tn : Int) + (on : Int)) = false := by simp; omega
        have hr3 : ¬ room < (s.told.length : Int) + (o.length : Int) := by rw [← HON.out.1, ← HON.out.2]; omega
        have hr4 : ¬ room < ((s.told.length + o.length : Nat) : Int) := by omega
        go_wp2_with fail
        go_quiet (fail)
        have H9 := Lib.hid (HX.out.drewN nq)
        have HA9 := Lib.hid (HA7.out.1.drewN nq)
        obtain ⟨i3, hi3, hz3, hsz3, hbt3⟩ := info_parts info3
        have hto := H9.out.told
        rw [← HON.out.2] at hto
        have HTO := Lib.hid hto
        have hlt9 := H9.out.lt
        clear hto
        generalize wc.drewN nq = w9 at H9 HA9 HTO hlt9 ⊢
        have hnews : ∀ ad, A7 = some ad → ∀ j u, (numsV .i64 o)[j]? = some u → w9.cell? (ad.add j) = some u := fun ad e j u hu => by
          have hj : j < on := by rw [HON.out.1]; have := (List.getElem?_eq_some_iff.1 hu).1; simpa [numsV] using this
          obtain ⟨b, of, e2, _, hc⟩ := HA9.out (by omega)
          rw [e] at e2
          injection e2 with e2
          subst e2
          rw [add_plain', show of + j = of + (j * 1 + 0) by omega, hc j 0 hj (by omega)]
          rw [← hu]
          simp [IntC, numsV, show j < o.length by rw [← HON.out.1]; exact hj]
        have HNW := Lib.hid hnews
        have y4 : ∀ u ∈ numsV .i64 o, u.oneCell' = true := by
          intro u hu
          simp only [numsV, List.mem_map] at hu
          obtain ⟨z, _, rfl⟩ := hu
          rfl
        clear hnews t1 t2 t3 d1
        have t1 := H9.out.cells.vt
        rw [← HON.out.2] at t1
        go_wp2_with (first
          | (at_builtin; refine wpList_append_any _ rfl (.tmp 48) (.tmp 49) 26 rfl (g + 1) 3 i3 _ 1 8 Try.underlying26 hi3 hz3 hsz3 hbt3 rfl (by decide) (.slice At tn ct) tn (numsV .i64 s.told) rfl HTO.out A7 on c7 (numsV .i64 o) rfl (by rw [HON.out.1]; simp [numsV]) HA7.out.2 HNW.out y4 (by unfold maxLen; omega) (by omega) (by omega) ?_; intro v5 w5 hown5 hgrow5 hor5
             obtain ⟨A5, c5, rfl⟩ := own_sl hown5
             have hgrow6 : w9.grownBy w5 (Value.slice At s.told.length ct).ownBlock := by rw [← HON.out.2]; exact hgrow5
             have hor6 : (Value.slice A5 (tn + on) c5).ownBlock = (Value.slice At s.told.length ct).ownBlock ∨ (Value.slice A5 (tn + on) c5).ownBlock = some w9.heap.size := by rw [← HON.out.2]; exact hor5
             have hbx := RS.midBox H9.out hgrow6 (fun b e => by have := (H9.out.told.lt b e).1; omega)
             have d1 := hbx.vt
             have d2 := hbx.fr 24
             have d3 := hbx.vg
             have d4 := hbx.fr 23
             rw [← HON.out.2] at d1
             have hnx := RS.toldApp2 (v' := .slice A5 (tn + on) c5) H9.out (xs := o) (by rw [← HON.out.1, ← HON.out.2]; exact hown5) hgrow6 hor6))
        have HNX := Lib.hid hnx.noSigns
        go_returns
        exact ⟨by first | rfl | simp, _, _, HNX.out⟩
end Go.Proofs.Ytgejpggbmgiocaa
