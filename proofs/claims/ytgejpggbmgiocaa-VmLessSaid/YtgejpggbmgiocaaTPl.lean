/- Plain facts on the text that an instruction puts. -/
import Derived.Test.YtgejpggbmgiocaaBase
import Derived.Test.YtgejpggbmgiocaaVPlain
import Derived.Laws.IdiomStrings
namespace Go.Proofs.Ytgejpggbmgiocaa
open Go.RowKit
def TxtC (l : List ByteArray) (k _ : Nat) : Value := .string (l.getD k ⟨#[]⟩)
/-- a program's texts in memory -/
structure TextsIn (w : World) (B : Nat) (prg : List Value) (texts : List ByteArray) : Prop where
  arr : ∃ A c, prg[6]? = some (.slice A texts.length c) ∧ Arr w B 1 A texts.length (TxtC texts)
  le : texts.length ≤ 140737488355328
  led : ∀ k, (texts.getD k ⟨#[]⟩).size ≤ 140737488355328
theorem textF_even (p : Prog) (s : St) (op a b c d rv : Int) (kt : Nat) (h1 : s.reg a = rv) (hm : rv % 2 = 0) (hk : rv / 2 = (kt : Int)) : textF p s ⟨op, a, b, c, d⟩ = (p.texts.getD kt ⟨#[]⟩).data.toList := by
  unfold textF
  simp only [h1]
  rw [if_neg (by omega), hk, Int.toNat_natCast, List.append_nil]
theorem textF_odd (p : Prog) (s : St) (op a b c d rv rb : Int) (kt : Nat) (h1 : s.reg a = rv) (h2 : s.reg b = rb) (hm : rv % 2 = 1) (hk : rv / 2 = (kt : Int)) : textF p s ⟨op, a, b, c, d⟩ = (p.texts.getD kt ⟨#[]⟩).data.toList ++ [UInt8.ofNat rb.toNat] := by
  unfold textF
  simp only [h1, h2]
  rw [if_pos hm, hk, Int.toNat_natCast]
theorem textOk_even (p : Prog) (s : St) (op a b c d rv : Int) (kt : Nat) (h1 : s.reg a = rv) (h0 : ¬ rv < 0) (hm : rv % 2 = 0) (hk : rv / 2 = (kt : Int)) (hn : kt < p.texts.length) : textOk p s ⟨op, a, b, c, d⟩ := by
  unfold textOk
  simp only [h1]
  exact ⟨by omega, by omega, fun h9 => by omega⟩
theorem textOk_odd (p : Prog) (s : St) (op a b c d rv rb : Int) (kt : Nat) (h1 : s.reg a = rv) (h2 : s.reg b = rb) (h0 : ¬ rv < 0) (hb : isB rb = true) (hk : rv / 2 = (kt : Int)) (hn : kt < p.texts.length) : textOk p s ⟨op, a, b, c, d⟩ := by
  unfold textOk
  simp only [h1, h2]
  exact ⟨by omega, by omega, fun _ => hb⟩
theorem data_len (t : ByteArray) : t.data.toList.length = t.size := Array.length_toList
theorem add_len (n c : Nat) (h : n ≤ 140737488355328) (hc : c = 1 + n) : wrap64 (1 + (n : Int)) = (c : Int) := by
  subst hc
  rw [IntWalk.wrap64_in (1 + (n : Int)) (by omega)]; omega
theorem put_len (m n : Nat) (h : n ≤ 140737488355328) (hm : m ≤ 262144) : wrap64 ((m : Int) + (n : Int)) = (m : Int) + (n : Int) :=
  IntWalk.wrap64_in _ (by omega)
theorem lt_put (a b : Nat) (h : (262144 : Int) < (a : Int) + (b : Int)) : 262144 < a + b := by omega
theorem le_put (a b : Nat) (h : ¬ (262144 : Int) < (a : Int) + (b : Int)) : ¬ 262144 < a + b := by omega
theorem isB_mod (x : Int) (h : true = isB x) : x % 256 = ((UInt8.ofNat x.toNat).toNat : Int) := by
  have h2 : 0 ≤ x ∧ x < 256 := by simpa [isB] using h.symm
  rw [UInt8.toNat_ofNat']
  omega
theorem byte_str (w : World) (x : Int) (h : true = isB x) : (convert 62 9 (.slice (some ⟨w.heap.size, 0, none⟩) 1 1)).run Try.prog ((w.alloc (.cells #[.int .u8 (x % 256)] 5)).drew) = .ok (.string ⟨#[UInt8.ofNat x.toNat]⟩) ((w.alloc (.cells #[.int .u8 (x % 256)] 5)).drew) := by
  have := Go.run_convert_bytes_back (P := Try.prog) ((w.alloc (.cells #[.int .u8 (x % 256)] 5)).drew) 62 9 5 ⟨w.heap.size, 0, none⟩ 1 [UInt8.ofNat x.toNat] Try.underlying62 Try.underlying5 Try.underlying9 (fun j hj => by
    have hj0 : j = 0 := by simpa using hj
    subst hj0
    rw [isB_mod x h]
    simp [Addr.add])
  exact this
theorem odd_text (t : ByteArray) (b : UInt8) : (t ++ ⟨#[b]⟩).data.toList = t.data.toList ++ [b] := by simp
theorem odd_size (t : ByteArray) (b : UInt8) (h : t.size ≤ 140737488355328) : (t ++ ⟨#[b]⟩).size ≤ 140737488355329 := by
  rw [← data_len, odd_text, List.length_append, data_len]
  simp
  omega
theorem cost_cast (n c : Nat) (h : c = 1 + n) : (1 + (n : Int)) = (c : Int) := by rw [h]; exact Int.natCast_add 1 _
end Go.Proofs.Ytgejpggbmgiocaa
