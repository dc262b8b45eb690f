/- Lists of tokens; contract of token's Tokens. -/
import Derived.Test.YtaniamfonkfekaaDoorC
import Derived.WalkMore
import Derived.Deep.LoopGhost
namespace Go.Proofs.YtaniamfonkfekaaDoor
open Go.RowKit Go.Lib

abbrev Tk := Int × ByteArray
def str (l : List UInt8) : ByteArray := ⟨l.toArray⟩
theorem str_data (l : List UInt8) : (str l).data.toList = l := rfl
theorem str_self (s : ByteArray) : str s.data.toList = s := by cases s; rfl
theorem ext_str (s : ByteArray) (n : Nat) : s.extract 0 n = str (s.data.toList.take n) := by
  rw [← str_self (s.extract 0 n), Lib.extract_data]; simp
theorem str_size (l : List UInt8) : (str l).size = l.length := by simp [str, ByteArray.size]
theorem size_list (s : ByteArray) : s.data.toList.length = s.size := by simp

namespace K
def toksF : Nat → List UInt8 → List Tk → List Tk × Int
  | 0, _, acc => (acc, 0)
  | _ + 1, [], acc => (acc, 0)
  | f + 1, c :: l, acc =>
    if c = 32 then toksF f l acc
    else if acc.length = 256 then ([], 10)
    else if (nxt (c :: l)).2.2 ≠ 0 then ([], (nxt (c :: l)).2.2)
    else toksF f ((c :: l).drop (nxt (c :: l)).2.1) (acc ++ [((nxt (c :: l)).1, str ((c :: l).take (nxt (c :: l)).2.1))])
theorem sym_pos (l : List UInt8) : sym l ≤ 2 ∧ (sym l ≤ l.length) := by
  cases l with
  | nil => simp [sym]
  | cons c l =>
    rw [sym]
    split
    · rename_i h
      unfold isSym2 at h
      have hm : (c :: l).take 2 ∈ syms2 := by simpa using h
      have hlen : ((c :: l).take 2).length = 2 := by
        simp only [syms2, List.mem_cons, List.not_mem_nil, or_false] at hm
        rcases hm with h | h | h | h | h | h | h | h <;> rw [h] <;> rfl
      rw [List.length_take] at hlen
      omega
    · split <;> simp
theorem nxt_len (l : List UInt8) (h : (nxt l).2.2 = 0) : 0 < (nxt l).2.1 ∧ (nxt l).2.1 ≤ l.length := by
  cases l with
  | nil => simp [nxt] at h
  | cons c l =>
    have hr := fun b => run_le b (c :: l)
    revert h
    rw [nxt]
    split
    · rename_i hc
      split
      · intro h; simp at h
      · intro _
        refine ⟨?_, hr true⟩
        show 0 < run true (c :: l)
        rw [run_cons, if_pos (by unfold letter at hc; simp [word, wordN, hc])]
        omega
    · split
      · rename_i hc
        split
        · rename_i he
          intro h; exact absurd h he
        · split
          · intro h; simp at h
          · intro _
            refine ⟨?_, hr false⟩
            show 0 < run false (c :: l)
            rw [run_cons, if_pos (by unfold digit at hc; simp [word, wordN, hc])]
            omega
      · split
        · intro h; simp at h
        · rename_i h0
          intro _
          exact ⟨Nat.pos_of_ne_zero h0, (sym_pos (c :: l)).2⟩
theorem toksF_more : ∀ (f g : Nat) (l : List UInt8) (acc : List Tk), l.length ≤ f → l.length ≤ g → toksF f l acc = toksF g l acc
  | 0, 0, _, _, _, _ => rfl
  | 0, g + 1, [], _, _, _ => rfl
  | 0, _ + 1, _ :: _, _, h, _ => by simp at h
  | f + 1, 0, [], _, _, _ => rfl
  | _ + 1, 0, _ :: _, _, _, h => by simp at h
  | f + 1, g + 1, [], _, _, _ => rfl
  | f + 1, g + 1, c :: l, acc, h1, h2 => by
    simp only [List.length_cons] at h1 h2
    unfold toksF
    split
    · exact toksF_more f g l acc (by omega) (by omega)
    · split
      · rfl
      · split
        · rfl
        · rename_i he
          have hn := nxt_len (c :: l) (by simpa using he)
          refine toksF_more f g _ _ ?_ ?_ <;> rw [List.length_drop, List.length_cons] <;> omega
/-- The tokens of the rest, behind some. -/
def tk (l : List UInt8) (acc : List Tk) : List Tk × Int := toksF l.length l acc
theorem tk_nil (acc : List Tk) : tk [] acc = (acc, 0) := rfl
theorem tk_blank (l : List UInt8) (acc : List Tk) : tk (32 :: l) acc = tk l acc := by
  unfold tk
  rw [List.length_cons, toksF, if_pos rfl]
theorem tk_full (c : UInt8) (l : List UInt8) (acc : List Tk) (hc : c ≠ 32) (h : acc.length = 256) : tk (c :: l) acc = ([], 10) := by
  unfold tk
  rw [List.length_cons, toksF, if_neg hc, if_pos h]
theorem tk_err (c : UInt8) (l : List UInt8) (acc : List Tk) (hc : c ≠ 32) (h : acc.length ≠ 256) (he : (nxt (c :: l)).2.2 ≠ 0) : tk (c :: l) acc = ([], (nxt (c :: l)).2.2) := by
  unfold tk
  rw [List.length_cons, toksF, if_neg hc, if_neg h, if_pos he]
theorem tk_step (c : UInt8) (l : List UInt8) (acc : List Tk) (hc : c ≠ 32) (h : acc.length ≠ 256) (he : (nxt (c :: l)).2.2 = 0) :
    tk (c :: l) acc = tk ((c :: l).drop (nxt (c :: l)).2.1) (acc ++ [((nxt (c :: l)).1, str ((c :: l).take (nxt (c :: l)).2.1))]) := by
  have hn := nxt_len (c :: l) he
  conv => lhs; unfold tk
  rw [List.length_cons, toksF, if_neg hc, if_neg h, if_neg (by simpa using he)]
  refine toksF_more _ _ _ _ ?_ (Nat.le_refl _)
  rw [List.length_drop, List.length_cons]
  omega
def tokens (l : List UInt8) : List Tk × Int := if 65536 < l.length then ([], 10) else tk l []
end K

def toks (l : List Tk) : List Value := l.flatMap fun t => [.int .i64 t.1, .string t.2]
theorem toks_append (l m : List Tk) : toks (l ++ m) = toks l ++ toks m := by simp [toks]
theorem toks_length (l : List Tk) : (toks l).length = l.length * 2 := by
  induction l with
  | nil => rfl
  | cons a l ih => rw [show toks (a :: l) = [.int .i64 a.1, .string a.2] ++ toks l from rfl, List.length_append, ih, List.length_cons]; simp; omega
theorem toks_one (l : List Tk) : ∀ u ∈ toks l, u.oneCell' = true := by
  intro u hu
  obtain ⟨t, _, h⟩ := List.mem_flatMap.1 hu
  simp only [List.mem_cons, List.not_mem_nil, or_false] at h
  rcases h with rfl | rfl <;> rfl
theorem toks_get (l : List Tk) : ∀ (i : Nat) (h : i < l.length), (toks l)[i * 2]? = some (.int .i64 l[i].1) ∧ (toks l)[i * 2 + 1]? = some (.string l[i].2) := by
  induction l with
  | nil => intro i h; simp at h
  | cons a l ih =>
    intro i h
    have e : toks (a :: l) = .int .i64 a.1 :: .string a.2 :: toks l := rfl
    cases i with
    | zero => exact ⟨rfl, rfl⟩
    | succ i =>
      have := ih i (by simpa using h)
      rw [e, show (i + 1) * 2 = i * 2 + 1 + 1 by omega]
      simpa using this
def OwnToks (w : World) (base : Nat) (v : Value) (l : List Tk) : Prop := OwnAt w base 37 2 v l.length (toks l)
theorem own_toks_nil (w : World) (b : Nat) : OwnToks w b (.slice none 0 0) [] := OwnAt.nil _ _ _ _
theorem own_toks_snoc {w : World} {base : Nat} {v : Value} {l : List Tk} {x : Tk} {n : Nat} (hn : n = l.length) (h : OwnAt w base 37 2 v (n + 1) (toks l ++ toks [x])) : OwnToks w base v (l ++ [x]) := by
  subst hn
  unfold OwnToks
  rw [toks_append, List.length_append]
  exact h
theorem tok_info : (Tryd.prog.info? 37).map (fun i => (i.zero, i.size, i.bytes)) = some (some (.agg #[.int .i64 0, .string ⟨#[]⟩]), 2, 24) := by kernel_rfl
theorem cells_new_toks (w : World) (l : List Tk) : ∀ j u, (toks l)[j]? = some u → (w.alloc (.cells (toks l).toArray 37)).cell? ((⟨w.heap.size, 0, none⟩ : Addr).add j) = some u := by
  intro j u hj
  rw [Addr.add_lit, Nat.zero_add, cell_new]
  simpa using hj
theorem cells_new_tok2 (w : World) (o : Obj) (l : List Tk) : ∀ j u, (toks l)[j]? = some u → ((w.alloc o).alloc (.cells (toks l).toArray 37)).cell? ((⟨w.heap.size + 1, 0, none⟩ : Addr).add j) = some u := by
  rw [show w.heap.size + 1 = (w.alloc o).heap.size by simp]
  exact cells_new_toks (w.alloc o) l
/-- It returns tokens of the call's own, and an error. -/
def RetToks (w : World) (R : List Tk × Int) (e : Ending) (w' : World) : Prop := ∃ v, e = .returned (.tuple #[v, .int .i64 R.2]) ∧ OwnToks w' w.heap.size v R.1 ∧ Ext w w'
theorem own_form {w : World} {base : Nat} {e : TypeId} {size : Nat} {v : Value} {n : Nat} {xs : List Value} (h : OwnAt w base e size v n xs) : ∃ A c, v = .slice A n c := by
  obtain ⟨_, ⟨rfl, rfl⟩ | ⟨g, off, cap, cur, rfl, _⟩⟩ := h
  · exact ⟨_, _, rfl⟩
  · exact ⟨_, _, rfl⟩
theorem own_lt {w : World} {base : Nat} {e : TypeId} {size : Nat} {v : Value} {n : Nat} {xs : List Value} {g : Nat} (h : OwnAt w base e size v n xs) (hg : v.ownBlock = some g) : g < w.heap.size := by
  obtain ⟨_, ⟨rfl, _⟩ | ⟨g', off, cap, cur, rfl, _, hh, _⟩⟩ := h
  · simp [Value.ownBlock] at hg
  · simp [Value.ownBlock] at hg
    subst hg
    rcases Nat.lt_or_ge g' w.heap.size with h | h
    · exact h
    · rw [Array.getElem?_eq_none h] at hh; cases hh
def strLen : Value → Nat | .string s => s.size | _ => 0

set_option maxRecDepth 4000 in
set_option maxHeartbeats 1000000 in
theorem Tokens_any (s : ByteArray) (w : World) (hs : s.size ≤ 65536) : Calls Tryd.prog 5 #[.string s] w (RetToks w (K.tk s.data.toList [])) := by
  obtain ⟨R, hR⟩ : ∃ R, R = K.tk s.data.toList [] := ⟨_, rfl⟩
  rw [← hR]
  obtain ⟨i0, hi, hz0, hz1, hz2⟩ := info_parts tok_info
  have HR := Lib.hid hR
  clear hR
  go_enter Tryd.func5, Tryd.ntmps5
  go_wp2_with fail
  go_step3
  go_wp2_with fail
  go_step3
  go_wp2_with fail
  go_loopw [0, 4] (fun t v wr => ∃ (x : ByteArray) (acc : List Tk) (A : Option Addr) (n c : Nat), x.size ≤ 65536 ∧ n ≤ 256 ∧ Hid (n = acc.length) ∧ t = .string x ∧ v = .slice A n c ∧ OwnAt wr w.heap.size 37 2 v n (toks acc) ∧ Hid (K.tk x.data.toList acc = R) ∧ Ext w wr) (fun t _ _ => strLen t)
  case atStart => exact ⟨s, [], none, 0, 0, hs, by omega, rfl, rfl, rfl, own_toks_nil _ _, HR.out.symm, Ext.refl _⟩
  case round =>
    obtain ⟨x, acc, A, n, c, hx, hn, HN, rfl, rfl, hown, HT, hd⟩ := hrel
    by_cases h0 : 0 < x.size
    · obtain ⟨p1, p2, p3⟩ := str_pos x h0
      have hb0 : x[0].toNat ≤ 255 := by have := x[0].toNat_lt; omega
      by_cases hbl : x[0] = 32
      · have e1 : ((x[0].toNat : Int) == 32) = true := by rw [hbl]; rfl
        have HT2 : Hid (K.tk (x.data.toList.drop 1) acc = R) := by
          have := HT.out
          rw [p3, hbl, K.tk_blank] at this
          exact this
        clear p3 hbl
        go_wp2_with fail
        go_roundw
        case rel => exact ⟨x.extract 1 x.size, acc, A, n, c, by have := ByteArray.size_extract (a := x) (b := 1) (e := x.size); omega, hn, HN, rfl, rfl, hown, by rw [Lib.extract_data, List.take_of_length_le (by simp)]; exact HT2, hd⟩
        case measure => simp [strLen]; omega
      · have e1 : ((x[0].toNat : Int) == 32) = false := by
          have : x[0].toNat ≠ 32 := fun h => hbl (UInt8.toNat.inj h)
          simp; omega
        by_cases hf : n = 256
        · have HT2 : Hid (([], 10) = R) := by
            have := HT.out
            rw [p3, K.tk_full _ _ _ hbl (by rw [← HN.out]; exact hf)] at this
            exact this
          have e2 : ((n : Int) == 256) = true := by simp; omega
          clear p3 hbl hf
          go_wp2_with fail
          go_ret2
          exact ⟨_, by rw [← HT2.out]; rfl, by rw [← HT2.out]; exact own_toks_nil _ _, hd⟩
        · have e2 : ((n : Int) == 256) = false := by simp; omega
          obtain ⟨k, m, er, hnx⟩ : ∃ k m er, K.nxt x.data.toList = (k, m, er) := ⟨_, _, _, rfl⟩
          have HV := Lib.hid (nextV_of hnx)
          by_cases he : er = 0
          · subst he
            have hml := K.nxt_len x.data.toList (by rw [hnx])
            rw [hnx, size_list] at hml
            have HT2 : Hid (K.tk (x.data.toList.drop m) (acc ++ [(k, x.extract 0 m)]) = R) := by
              have := HT.out
              rw [p3, K.tk_step _ _ _ hbl (by rw [← HN.out]; exact hf) (by rw [← p3, hnx]), ← p3, hnx, ← ext_str] at this
              exact this
            obtain ⟨hm1, hm2⟩ : 0 < m ∧ m ≤ x.size := hml
            have hes : (x.extract 0 m).size = m := by rw [ByteArray.size_extract]; omega
            obtain ⟨t, ht⟩ : ∃ t, t = x.extract 0 m := ⟨_, rfl⟩
            rw [← ht] at HV HT2 hes
            have hn2 : n < 256 := by omega
            clear p3 hbl hf hnx ht
            go_wp2_with fail
            refine (next_any _ _ h0 (by omega)).mono ?_
            rw [HV.out]
            rintro e w1 ⟨rfl, d1⟩
            have hown1 := hown.ext d1
            go_wp2_with (at_builtin; (refine wpList_append_ownAt _ rfl (.tmp 28) (.tmp 30) 23 rfl w.heap.size 37 i0 (.agg #[.int .i64 0, .string ⟨#[]⟩]) 2 24 Tryd.underlying23 hi hz0 hz1 hz2 rfl (by decide) _ _ _ rfl ((hown1.alloc _).alloc _) ⟨w1.heap.size + 1, 0, none⟩ 1 1 (toks [(k, t)]) rfl rfl (cells_new_tok2 w1 _ [(k, t)]) (toks_one _) (by unfold maxLen; omega) (by omega) (by have := hd.size; have := d1.size; simp; omega) (by decide) ?_; intro v2 w2 hown2 hg2 _ _; have hc1 := grown_keepc hg2 (alloc_keepc _ (cell_new w1 #[.int .i64 k, .string t] 37 1)) (fun e => absurd (own_lt hown1 e) (Nat.lt_irrefl _))))
            go_roundw
            case rel =>
              obtain ⟨A2, c2, rfl⟩ := own_form hown2
              exact ⟨x.extract m x.size, acc ++ [(k, t)], A2, n + 1, c2, by rw [ByteArray.size_extract]; omega, by omega, by unfold Hid; rw [List.length_append]; have := HN.out; simp; omega, rfl, rfl, by rw [toks_append]; exact hown2, by rw [Lib.extract_data, List.take_of_length_le (by simp)]; exact HT2, ((((hd.trans d1).alloc _).alloc _).grown (hown1) hg2)⟩
            case measure => simp [strLen]; omega
          · have HT2 : Hid (([], er) = R) := by
              have := HT.out
              rw [p3, K.tk_err _ _ _ hbl (by rw [← HN.out]; exact hf) (by rw [← p3, hnx]; exact he), ← p3, hnx] at this
              exact this
            have t1 : (er != 0) = true := by simpa using he
            clear p3 hbl hf hnx he
            go_wp2_with fail
            refine (next_any _ _ h0 (by omega)).mono ?_
            rw [HV.out]
            rintro e w1 ⟨rfl, d1⟩
            go_wp2_with fail
            rw [Exit.noGoto_ret]
            go_ret2
            exact ⟨_, by rw [← HT2.out]; rfl, by rw [← HT2.out]; exact own_toks_nil _ _, (hd.trans d1).alloc _⟩
    · have he : x.data.toList = [] := List.eq_nil_of_length_eq_zero (by rw [size_list]; omega)
      have p2 : x.toList.isEmpty = true := by rw [ByteArray.toList_eq, he]; rfl
      have p1 : x.toList = [] := by rw [ByteArray.toList_eq, he]
      have HT2 : Hid ((acc, 0) = R) := by have := HT.out; rw [he, K.tk_nil] at this; exact this
      clear he
      go_wp2_with fail
      rw [Exit.noGoto_ret]
      go_ret2
      exact ⟨_, by rw [← HT2.out]; rfl, by rw [← HT2.out]; unfold OwnToks; rw [← HN.out]; exact hown, hd⟩
end Go.Proofs.YtaniamfonkfekaaDoor
