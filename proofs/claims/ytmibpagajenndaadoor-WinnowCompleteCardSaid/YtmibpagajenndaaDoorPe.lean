/- normalize.Valid. -/
import Derived.Test.YtmibpagajenndaaDoorPd
import Derived.Lib.ConvBytes
namespace Go.Proofs.YtmibpagajenndaaDoor
open Go.RowKit

theorem bytes_ext (w : World) (e : TypeId) (s : ByteArray) : Ext w (Lib.bytesWorld w e s) := ⟨rfl, rfl, rfl, by rw [Lib.bytesWorld_size]; omega, fun j hj => Lib.bytesWorld_at_old w e s j hj⟩
theorem blanks_is (s : ByteArray) (c : Nat) (B : Bool) (w : World) (hs : s.size ≤ 9000000) (hB : (s.data.toList.any fun c => blankN (c.toNat : Int)) = B) :
    Calls Tryd.prog 32 #[.slice (some ⟨w.heap.size, 0, none⟩) s.size c, .func (.func 33) #[] #[]] (Lib.bytesWorld w 5 s) (Al (.bool B) (Lib.bytesWorld w 5 s)) := by
  rw [← hB]
  refine ContainsBytes s.data.toList w.heap.size c s.size 33 #[] (fun c => blankN (c.toNat : Int)) _ eg33 (by simp) hs (fun j h => ?_) (fun x _ w' => blank_any _ _)
  rw [Lib.bytesWorld_cell w 5 s j (by simpa using h)]
  have hj : j < s.data.size := by simpa using h
  simp [List.getD, Array.getElem?_eq_getElem hj]
/-- What a word is, the line of the word before it being known. -/
def wordB (s : ByteArray) (n least : Int) : Bool := decide (0 < s.size) && !(s.data.toList.any fun c => blankN c.toNat) && decide (least ≤ n) && decide (n < 1024)
def wordsB : List (ByteArray × Int) → Int → Bool
  | [], _ => true
  | x :: l, least => wordB x.1 x.2 least && wordsB l x.2
/-- What a text is. -/
def textB (p : ByteArray) (l : List (ByteArray × Int)) : Bool := decide (l.length ≤ 8192) && pathB p && wordsB l 0

set_option maxRecDepth 8000 in
set_option maxHeartbeats 1000000 in
theorem Valid_any (p : ByteArray) (l : List (ByteArray × Int)) (A : Option Addr) (c n : Nat) (m : Int) (w : World) (hn : n = l.length) (hp : p.size ≤ 1000000) (hA : SliceAt lexR w (Old w) A c l) (hl : n ≤ 8192) (hw : ∀ x ∈ l, x.1.size ≤ 9000000) (hm : w.cell? ⟨0, 0, none⟩ = some (.int .i64 m)) :
    Calls Tryd.prog 16 #[.agg #[.string p, .slice A n c]] w (Al (.bool (textB p l)) w) := by
  have HN := Lib.hid hn
  have HW := Lib.hid hw
  have HA := Lib.hid hA
  clear hw
  have HM := Lib.hid hm
  have hpa := fun w' (h : w'.cell? ⟨0, 0, none⟩ = some (.int .i64 m)) => Path_any p m w' hp h
  have HPA := Lib.hid hpa
  have hv : Hid (textB p l = (decide (l.length ≤ 8192) && pathB p && wordsB l 0)) := rfl
  have he : Hid (pathE p = if pathB p = true then 0 else 2) := rfl
  clear hn hA hm hpa
  cases hpb : pathB p with
  | false =>
    have h2 : pathE p = 2 := by rw [he.out, hpb]; rfl
    have ht : textB p l = false := by rw [hv.out, hpb]; simp
    rw [ht]
    clear ht hpb
    have H2 := Lib.hid h2
    clear h2
    go_enter Tryd.func16, Tryd.ntmps16
    go_wp2_with fail
    refine (HPA.out _ (alloc_keepc _ HM.out)).mono ?_
    rw [H2.out]
    rintro e w1 ⟨rfl, d1⟩
    go_wp2_with fail
    go_ret
    exact ⟨rfl, ((Ext.refl w).alloc _).trans d1⟩
  | true =>
    have h2 : pathE p = 0 := by rw [he.out, hpb]; rfl
    have ht : textB p l = wordsB l 0 := by rw [hv.out, hpb, decide_eq_true (by have := HN.out; omega)]; simp
    rw [ht]
    clear ht hpb
    have H2 := Lib.hid h2
    clear h2
    obtain ⟨B, hB⟩ : ∃ B, B = wordsB l 0 := ⟨_, rfl⟩
    rw [← hB]
    have HB := Lib.hid hB
    clear hB
    go_enter Tryd.func16, Tryd.ntmps16
    go_wp2_with fail
    refine (HPA.out _ (alloc_keepc _ HM.out)).mono ?_
    rw [H2.out]
    rintro e w1 ⟨rfl, d1⟩
    have b0 := d1.keepc (cell_new w #[.string p, .slice A n c] 24 0)
    have b1 := d1.keepc (cell_new w #[.string p, .slice A n c] 24 1)
    have b0' : w1.cell? ⟨w.heap.size, 0, none⟩ = some (.string p) := b0
    have b1' : w1.cell? ⟨w.heap.size, 1, none⟩ = some (.slice A n c) := b1
    clear b0 b1
    have e1 : Ext w w1 := ((Ext.refl w).alloc _).trans d1
    go_wp2_with fail
    go_loopw [3, 19] (fun v i wr => ∃ (k : Nat) (least : Int), k ≤ n ∧ i = .int .i64 k ∧ v = .int .i64 least ∧ Hid (B = wordsB (l.drop k) least) ∧ Ext w wr) (fun _ i _ => n - (intOf i).toNat)
    case atStart => exact ⟨0, 0, Nat.zero_le _, rfl, rfl, by rw [HB.out]; rfl, e1⟩
    case round =>
      obtain ⟨k, least, hk, rfl, rfl, HBK, hd⟩ := hrel
      by_cases hlt : k < n
      · obtain ⟨b, off, rfl, hb, hr⟩ := HA.out.2.2 (by intro h; have := HN.out; rw [h] at this; simp at this; omega)
        have hkl : k < l.length := by have := HN.out; omega
        obtain ⟨c0, c1, hs⟩ := lex_cells hr k hkl
        have c0' := hd.keepc c0
        have c1' := hd.keepc c1
        have hB : B = (wordB l[k].1 l[k].2 least && wordsB (l.drop (k + 1)) l[k].2) := by rw [HBK.out, List.drop_eq_getElem_cons hkl]; rfl
        have hs9 := HW.out l[k] (List.getElem_mem hkl)
        clear hr c0 c1
        generalize l[k].1 = s at hB c0' hs hs9
        generalize l[k].2 = nl at hB c1'
        obtain ⟨bl, hbl⟩ : ∃ bl, (s.data.toList.any fun c => blankN (c.toNat : Int)) = bl := ⟨_, rfl⟩
        have hwB : wordB s nl least = (decide (0 < s.size) && !bl && decide (least ≤ nl) && decide (nl < 1024)) := by unfold wordB; rw [hbl]
        rw [hwB] at hB
        have HBB := Lib.hid hB
        have HBL := Lib.hid hbl
        have hcv : ∀ w', (convert 9 61 (.string s)).run Tryd.prog w' = .ok (.slice (some ⟨w'.heap.size, 0, none⟩) s.size (grownCap w' s.size 0 5)) (Lib.bytesWorld w' 5 s) := fun w' => Lib.run_convert_string_bytes w' 9 61 5 s Tryd.underlying9 Tryd.underlying61 Tryd.underlying5
        clear hB hbl hwB
        by_cases h0 : 0 < s.size
        · have hne : s.toList.isEmpty = false := by
            rw [ByteArray.toList_eq]
            have hl : s.data.toList.length = s.size := by simp
            cases hq : s.data.toList with
            | nil => rw [hq] at hl; simp at hl; omega
            | cons a l => rfl
          have hblk := fun c (V : World) => blanks_is s c bl V hs9 HBL.out
          have HBLK := Lib.hid hblk
          clear hblk
          have hg : (wr.alloc (.cells #[.string s, .int .i64 nl] 49)).heap.size = wr.heap.size + 1 := by simp
          have k0 := (bytes_ext (wr.alloc (.cells #[.string s, .int .i64 nl] 49)) 5 s).keepc (cell_new wr #[.string s, .int .i64 nl] 49 0)
          have k1 : (Lib.bytesWorld (wr.alloc (.cells #[.string s, .int .i64 nl] 49)) 5 s).cell? ⟨wr.heap.size, 1, none⟩ = some (.int .i64 nl) := (bytes_ext (wr.alloc (.cells #[.string s, .int .i64 nl] 49)) 5 s).keepc (cell_new wr #[.string s, .int .i64 nl] 49 1)
          have e5 : Ext w (Lib.bytesWorld (wr.alloc (.cells #[.string s, .int .i64 nl] 49)) 5 s) := (hd.alloc _).trans (bytes_ext _ _ _)
          cases bl
          · by_cases h1 : least ≤ nl
            · by_cases h2 : nl < 1024
              · have hbe : B = wordsB (l.drop (k + 1)) nl := by rw [HBB.out]; simp [h0, h1, h2]
                have HBE := Lib.hid hbe
                clear hbe h0
                go_wp2_with fail
                have hb32 := HBLK.out (grownCap (wr.alloc (.cells #[.string s, .int .i64 nl] 49)) s.size 0 5) (wr.alloc (.cells #[.string s, .int .i64 nl] 49))
                rw [hg] at hb32
                refine hb32.mono ?_
                rintro e w6 ⟨rfl, d6⟩
                have n1 := d6.keepc k1
                go_wp2_with fail
                go_roundw
                case rel => exact ⟨k + 1, nl, by omega, by go_num, rfl, HBE, e5.trans d6⟩
                case measure => simp [intOf]; omega
              · have hbf : B = false := by rw [HBB.out]; simp [h2]
                subst hbf
                clear h0
                go_wp2_with fail
                have hb32 := HBLK.out (grownCap (wr.alloc (.cells #[.string s, .int .i64 nl] 49)) s.size 0 5) (wr.alloc (.cells #[.string s, .int .i64 nl] 49))
                rw [hg] at hb32
                refine hb32.mono ?_
                rintro e w6 ⟨rfl, d6⟩
                have n1 := d6.keepc k1
                go_wp2_with fail
                go_ret
                exact ⟨rfl, e5.trans d6⟩
            · have hbf : B = false := by rw [HBB.out]; simp [h1]
              subst hbf
              clear h0
              go_wp2_with fail
              have hb32 := HBLK.out (grownCap (wr.alloc (.cells #[.string s, .int .i64 nl] 49)) s.size 0 5) (wr.alloc (.cells #[.string s, .int .i64 nl] 49))
              rw [hg] at hb32
              refine hb32.mono ?_
              rintro e w6 ⟨rfl, d6⟩
              have n1 := d6.keepc k1
              go_wp2_with fail
              go_ret
              exact ⟨rfl, e5.trans d6⟩
          · have hbf : B = false := by rw [HBB.out]; simp
            subst hbf
            clear h0
            go_wp2_with fail
            have hb32 := HBLK.out (grownCap (wr.alloc (.cells #[.string s, .int .i64 nl] 49)) s.size 0 5) (wr.alloc (.cells #[.string s, .int .i64 nl] 49))
            rw [hg] at hb32
            refine hb32.mono ?_
            rintro e w6 ⟨rfl, d6⟩
            have n1 := d6.keepc k1
            go_wp2_with fail
            go_ret
            exact ⟨rfl, e5.trans d6⟩
        · have hne : s.toList.isEmpty = true := by
            rw [ByteArray.toList_eq]
            have hl : s.data.toList.length = s.size := by simp
            cases hq : s.data.toList with
            | nil => rfl
            | cons a l => rw [hq] at hl; simp at hl; omega
          have hbf : B = false := by rw [HBB.out]; simp [h0]
          subst hbf
          clear h0
          go_wp2_with fail
          go_ret
          exact ⟨rfl, hd.alloc _⟩
      · have hkn : k = n := by omega
        have hbt : B = true := by rw [HBK.out, hkn, HN.out, List.drop_length]; rfl
        subst hbt
        go_wp2_with fail
        go_ret
        exact ⟨rfl, hd⟩

end Go.Proofs.YtmibpagajenndaaDoor
