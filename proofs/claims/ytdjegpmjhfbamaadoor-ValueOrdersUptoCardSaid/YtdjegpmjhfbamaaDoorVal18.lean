/-
  Walk: the law ValueKnown.
-/
import Derived.Test.YtdjegpmjhfbamaaDoorVal17
namespace Go.Proofs.YtdjegpmjhfbamaaDoor
open Go.RowKit Go.Proofs

def bA : ByteArray := ⟨#[97]⟩
def bB : ByteArray := ⟨#[98]⟩
theorem utf_A : utf bA = true := rfl
theorem utf_B : utf bB = true := rfl
def boolV (n : Int) : PVal := .mk 2 n ByteArray.empty [] [] []
def doc2V : PVal := .mk 6 0 ByteArray.empty [] [bB, bA] [nullV, nullV]
theorem good_bool2 : (boolV 2).good = 4 := by simp [boolV, PVal.good, PVal.all, formedB]
theorem good_doc2 : doc2V.good = 4 := by
  have h : blt bB bA = false := by decide +kernel
  simp [doc2V, PVal.good, PVal.all, formedB, rising, h]
theorem good_text255 : (textV ⟨#[255]⟩).good = 11 := by
  rw [good_text _ (by decide), show utf ⟨#[255]⟩ = false by decide]; rfl
def v8 : PVal := docV bA (listV [intV 1])
def l1 : PVal := listV [intV 1]
def l10 : PVal := listV [intV 1, intV 0]
def lv : PVal := listV [l1, intV 2]
theorem good_v8 : v8.good = 0 ∧ v8.size = 8 := by
  constructor <;> simp [v8, docV, listV, intV, PVal.good, PVal.all, allL, formedB, spelledB, fewB, rising, utf_empty, utf_A, PVal.depth, depthL, PVal.size, sizeL, namesSize, digits_small, turned] <;> simp [bA, digits_small, ByteArray.size]
theorem good_l1 : l1.good = 0 := by
  simp [l1, listV, intV, PVal.good, PVal.all, allL, formedB, spelledB, fewB, rising, utf_empty, PVal.depth, depthL, PVal.size, sizeL, digits_small, turned]
theorem good_l10 : l10.good = 0 := by
  simp [l10, listV, intV, PVal.good, PVal.all, allL, formedB, spelledB, fewB, rising, utf_empty, PVal.depth, depthL, PVal.size, sizeL, digits_small, turned]
theorem bytes_same : ∀ l, Lib.compareBytes l l = 0
  | [] => rfl
  | a :: r => by
    rw [Lib.compareBytes, if_neg (UInt8.lt_irrefl a), if_neg (UInt8.lt_irrefl a), bytes_same r]
theorem scmp_same (a : ByteArray) : scmp a a = 0 := bytes_same _
theorem less_l : cmpV l1 l10 = -1 ∧ cmpV l10 l1 = 1 := by
  constructor <;> simp [l1, l10, listV, intV, cmpV, cmpL, cmpF, icmp, scmp_same, orI]
theorem good_named1 (nm : ByteArray) (n : Int) (hn : I64 n) (hs : nm.size = 1) (hu : utf nm = true) : (docV nm (intV n)).good = 0 := by
  have := digits_le (turned n) (turned_lt hn)
  simp [docV, intV, PVal.good, PVal.all, allL, formedB, spelledB, fewB, rising, utf_empty, hu, hs, PVal.depth, depthL, PVal.size, sizeL, namesSize, digits_small]
  omega
theorem less_d : cmpV (docV bA (intV 2)) (docV bB (intV 1)) = -1 ∧ cmpV (docV bB (intV 1)) (docV bA (intV 2)) = 1 := by
  have h1 : scmp bA bB = -1 := by decide
  have h2 : scmp bB bA = 1 := by decide
  constructor <;> simp [docV, intV, cmpV, cmpL, cmpF, icmp, h1, h2, orI]
theorem size_null : nullV.size = 1 := by simp [nullV, PVal.size]
theorem good_null : nullV.good = 0 := by simp [nullV, PVal.good, PVal.all, formedB, spelledB, fewB, rising, utf_empty, PVal.depth, PVal.size]
theorem size_textA : (textV bA).size = 3 := by simp [textV, PVal.size, bA, digits_small, ByteArray.size]
theorem good_textA : (textV bA).good = 0 := by rw [good_text _ (by decide), utf_A]; rfl
theorem depth_lv : lv.depth = 2 := by simp [lv, l1, listV, intV, PVal.depth, depthL]
theorem count_lv : lv.count = 4 := by simp [lv, l1, listV, intV, PVal.count, countL]
theorem hash_null : mix 14695981039346656037 nullV.enc = 12638152016183539244 := by
  have : nullV.enc = [1] := by simp [nullV, PVal.enc]
  rw [this]; decide +kernel

/-- A flat value's cells. -/
theorem rd_int (w : World) (S : Nat → Prop) {n : Int} (h : I64 n) : Rd w S (intV n) [.int .i64 3, .int .i64 n, .string ByteArray.empty, .slice none 0 0, .slice none 0 0] := rd_flat _ _ ⟨by decide, by decide⟩ h (by decide)
theorem rd_null (w : World) (S : Nat → Prop) : Rd w S nullV [.int .i64 1, .int .i64 0, .string ByteArray.empty, .slice none 0 0, .slice none 0 0] := rd_flat _ _ ⟨by decide, by decide⟩ ⟨by decide, by decide⟩ (by decide)
theorem rd_text (w : World) (S : Nat → Prop) (s : ByteArray) (h : s.size ≤ 140737488355328) : Rd w S (textV s) [.int .i64 4, .int .i64 0, .string s, .slice none 0 0, .slice none 0 0] := rd_flat _ _ ⟨by decide, by decide⟩ ⟨by decide, by decide⟩ h
theorem rd_lists {w : World} {S : Nat → Prop} {l : List PVal} {la : Option Addr} {n c : Nat} (hn : n = l.length) (h : RdL w S l (.slice la n c)) :
    Rd w S (listV l) [.int .i64 5, .int .i64 0, .string ByteArray.empty, .slice la n c, .slice none 0 0] := by
  subst hn
  exact rd_list h
theorem rd_docs {w : World} {S : Nat → Prop} {fn : List ByteArray} {fv : List PVal} {fa : Option Addr} {n c : Nat} (hn : n = fv.length) (h : RdF w S fn fv (.slice fa n c)) :
    Rd w S (.mk 6 0 ByteArray.empty [] fn fv) [.int .i64 6, .int .i64 0, .string ByteArray.empty, .slice none 0 0, .slice fa n c] := by
  subst hn
  obtain ⟨hlen, hfs, fa', cap', cs, hv, h1, h2, h3, h4⟩ := h
  injection hv with e1 e2 e3
  subst e1 e3
  exact .mk (la := none) (lc := 0) (fun _ => []) cs (by decide) (by decide) (by decide) hfs hlen (by decide) (by decide) h1 h2 (.inl rfl) (fun i x h => by simp at h) h3 h4
theorem one_rd {w : World} {S : Nat → Prop} {V : PVal} {c : List Value} (h : Rd w S V c) : ∀ (i : Nat) (x : PVal) (cs : List Value), [V][i]? = some x → [c][i]? = some cs → Rd w S x cs := by
  intro i x cs hx hc
  match i with
  | 0 =>
    simp at hx hc
    subst hx hc
    exact h
  | i + 1 => simp at hx
theorem two_rd {w : World} {S : Nat → Prop} {V V' : PVal} {c c' : List Value} (h : Rd w S V c) (h' : Rd w S V' c') : ∀ (i : Nat) (x : PVal) (cs : List Value), [V, V'][i]? = some x → [c, c'][i]? = some cs → Rd w S x cs := by
  intro i x cs hx hc
  match i with
  | 0 =>
    simp at hx hc
    subst hx hc
    exact h
  | 1 =>
    simp at hx hc
    subst hx hc
    exact h'
  | i + 2 => simp at hx

set_option maxRecDepth 100000 in
set_option maxHeartbeats 4000000 in
theorem known_calls (w : World) (hT : Tabs w) : Calls Tryd.prog 15 #[] w fun e w' => e = .returned (.bool true) ∧ Below w.heap.size w w' := by
  have hT := hid (fun w' hb => Tabs.stays w w' hT hb)
  have hi := hid int_calls
  have ht := hid text_calls
  have hn := hid null_calls
  have hl := hid list_calls
  have ha := hid awake_calls
  have hm := hid (fun w => many_calls 33 (by decide) w)
  have hh := hid (fun w hT => hash_tells nullV w _ (by decide) hT (rd_null _ _))
  rw [good_null, hash_null, if_pos rfl] at hh
  have hg5 := hid (fun w cs hT hV => good_calls (intV 5) w cs (by decide) hT hV)
  rw [good_int 5 ⟨by decide, by decide⟩] at hg5
  have hgb := hid (fun w cs hT hV => good_calls (boolV 2) w cs (by decide) hT hV)
  rw [good_bool2] at hgb
  have hgd := hid (fun w cs hT hV => good_calls doc2V w cs (by decide) hT hV)
  rw [good_doc2] at hgd
  have hgt := hid (fun w cs hT hV => good_calls (textV ⟨#[255]⟩) w cs (by decide) hT hV)
  rw [good_text255] at hgt
  have hgm := hid (fun w cs hT hV => good_calls (listV (List.replicate 33 nullV)) w cs (by rw [nodes_many]; decide) hT hV)
  rw [good_many 33 (by decide), if_pos (by decide)] at hgm
  have hs1 := hid (fun w cs hT hV => sized_calls nullV 1 w cs (by decide) hT hV good_null size_null)
  have hs3 := hid (fun w cs hT hV => sized_calls (textV ⟨#[97]⟩) 3 w cs (by decide) hT hV good_textA size_textA)
  have hs8 := hid (fun w cs hT hV => sized_calls v8 8 w cs (by decide) hT hV good_v8.1 good_v8.2)
  have hll := hid (fun w cs cs' hT hV hV' => less_calls l1 l10 w cs cs' (by decide) (by decide) hT hV hV' good_l1 good_l10 less_l.1 less_l.2)
  have hld := hid (fun w cs cs' hT hV hV' => less_calls (docV bA (intV 2)) (docV bB (intV 1)) w cs cs' (by decide) (by decide) hT hV hV' (good_named1 _ _ ⟨by decide, by decide⟩ rfl utf_A) (good_named1 _ _ ⟨by decide, by decide⟩ rfl utf_B) less_d.1 less_d.2)
  have hde := hid (fun w cs hV => depth_calls lv w cs (by decide) hV)
  rw [depth_lv] at hde
  have hco := hid (fun w cs hV => count_calls lv w cs (by decide) hV)
  rw [count_lv] at hco
  go_enter Tryd.func15, Tryd.ntmps15
  go_wp2_with fail
  refine (hn.out _).mono ?_
  rintro e w1 ⟨rfl, h1⟩
  have B := hid h1
  go_wp2_with fail
  refine (hh.out _ (hT.out _ B.out)).mono ?_
  rintro e w2 ⟨rfl, h2⟩
  replace B := hid (B.out.step h2)
  go_wp2_with fail
  refine (hi.out 1 _).mono ?_
  rintro e w3 ⟨rfl, h3⟩
  replace B := hid (B.out.step h3)
  go_wp2_with fail
  refine (hl.out _ _ _ _).mono ?_
  rintro e w4 ⟨rfl, h4⟩
  replace B := hid (by first | exact B.out.step h4 | exact (B.out.step (below_new _ _)).step h4 | exact ((B.out.step (below_new _ _)).step (below_new _ _)).step h4)
  have R1 := rd_lists (l := [intV 1]) rfl (rdL_new (css := [[.int .i64 3, .int .i64 1, .string ByteArray.empty, .slice none 0 0, .slice none 0 0]]) rfl rfl rfl (one_rd (rd_int _ _ ⟨by decide, by decide⟩)) h4 (by decide))
  go_wp2_with fail
  refine (hi.out 2 _).mono ?_
  rintro e w5 ⟨rfl, h5⟩
  replace B := hid (by first | exact B.out.step h5 | exact (B.out.step (below_new _ _)).step h5 | exact ((B.out.step (below_new _ _)).step (below_new _ _)).step h5)
  have R2 := R1.later h5
  go_wp2_with fail
  refine (hl.out _ _ _ _).mono ?_
  rintro e w6 ⟨rfl, h6⟩
  replace B := hid (by first | exact B.out.step h6 | exact (B.out.step (below_new _ _)).step h6 | exact ((B.out.step (below_new _ _)).step (below_new _ _)).step h6)
  have R3 := rd_lists (l := [l1, intV 2]) rfl (rdL_new (css := [[.int .i64 5, .int .i64 0, .string ByteArray.empty, .slice (some ⟨w3.heap.size, 0, none⟩) 1 1, .slice none 0 0], [.int .i64 3, .int .i64 2, .string ByteArray.empty, .slice none 0 0, .slice none 0 0]]) rfl rfl rfl (two_rd R2 (rd_int _ _ ⟨by decide, by decide⟩)) h6 (by decide))
  clear R1 R2
  have D := hid (Below.refl (w6.alloc (.cells #[.int .i64 5, .int .i64 0, .string ByteArray.empty, .slice (some ⟨w5.heap.size, 0, none⟩) 2 2, .slice none 0 0] 52)).heap.size (w6.alloc (.cells #[.int .i64 5, .int .i64 0, .string ByteArray.empty, .slice (some ⟨w5.heap.size, 0, none⟩) 2 2, .slice none 0 0] 52)))
  have BW := hid (B.out.step (below_new w6 (.cells #[.int .i64 5, .int .i64 0, .string ByteArray.empty, .slice (some ⟨w5.heap.size, 0, none⟩) 2 2, .slice none 0 0] 52)))
  clear B
  go_wp2_with fail
  refine (ha.out _ (hT.out _ (BW.out.step D.out))).mono ?_
  rintro e w7 ⟨rfl, h7⟩
  replace D := hid (by first | exact D.out.step h7 | exact (D.out.step (below_new _ _)).step h7 | exact ((D.out.step (below_new _ _)).step (below_new _ _)).step h7)
  go_wp2_with fail
  refine (hi.out 5 _).mono ?_
  rintro e w8 ⟨rfl, h8⟩
  replace D := hid (by first | exact D.out.step h8 | exact (D.out.step (below_new _ _)).step h8 | exact ((D.out.step (below_new _ _)).step (below_new _ _)).step h8)
  go_wp2_with fail
  refine (hg5.out _ _ (hT.out _ (BW.out.step D.out)) (rd_int _ _ ⟨by decide, by decide⟩)).mono ?_
  rintro e w9 ⟨rfl, h9⟩
  replace D := hid (by first | exact D.out.step h9 | exact (D.out.step (below_new _ _)).step h9 | exact ((D.out.step (below_new _ _)).step (below_new _ _)).step h9)
  go_wp2_with fail
  refine (hgb.out _ _ (hT.out _ (BW.out.step D.out)) (rd_flat _ _ ⟨by decide, by decide⟩ ⟨by decide, by decide⟩ (by decide))).mono ?_
  rintro e w10 ⟨rfl, h10⟩
  replace D := hid (by first | exact D.out.step h10 | exact (D.out.step (below_new _ _)).step h10 | exact ((D.out.step (below_new _ _)).step (below_new _ _)).step h10)
  go_wp2_with fail
  refine (hn.out _).mono ?_
  rintro e w11 ⟨rfl, h11⟩
  replace D := hid (by first | exact D.out.step h11 | exact (D.out.step (below_new _ _)).step h11 | exact ((D.out.step (below_new _ _)).step (below_new _ _)).step h11)
  go_wp2_with fail
  refine (hn.out _).mono ?_
  rintro e w12 ⟨rfl, h12⟩
  replace D := hid (by first | exact D.out.step h12 | exact (D.out.step (below_new _ _)).step h12 | exact ((D.out.step (below_new _ _)).step (below_new _ _)).step h12)
  have R4 := fun w' hb => rd_docs (fn := [bB, bA]) (fv := [nullV, nullV]) rfl (rdF_new (w := w12) (w' := w') (t := 77) (css := [[.int .i64 1, .int .i64 0, .string ByteArray.empty, .slice none 0 0, .slice none 0 0], [.int .i64 1, .int .i64 0, .string ByteArray.empty, .slice none 0 0, .slice none 0 0]]) rfl rfl rfl (by decide) rfl (two_rd (rd_null _ _) (rd_null _ _)) hb (by decide))
  go_wp2_with fail
  refine (hgd.out _ _ (hT.out _ ((BW.out.step D.out).step (below_new _ _))) (R4 _ (Below.refl _ _))).mono ?_
  rintro e w13 ⟨rfl, h13⟩
  replace D := hid (by first | exact D.out.step h13 | exact (D.out.step (below_new _ _)).step h13 | exact ((D.out.step (below_new _ _)).step (below_new _ _)).step h13)
  clear R4
  go_wp2_with fail
  refine (ht.out ⟨#[255]⟩ _).mono ?_
  rintro e w14 ⟨rfl, h14⟩
  replace D := hid (by first | exact D.out.step h14 | exact (D.out.step (below_new _ _)).step h14 | exact ((D.out.step (below_new _ _)).step (below_new _ _)).step h14)
  go_wp2_with fail
  refine (hgt.out _ _ (hT.out _ (BW.out.step D.out)) (rd_text _ _ _ (by decide))).mono ?_
  rintro e w15 ⟨rfl, h15⟩
  replace D := hid (by first | exact D.out.step h15 | exact (D.out.step (below_new _ _)).step h15 | exact ((D.out.step (below_new _ _)).step (below_new _ _)).step h15)
  go_wp2_with fail
  refine (hm.out _).mono ?_
  rintro e w16 ⟨la, cap, rfl, hm16, h16⟩
  replace D := hid (D.out.step h16)
  have R5 := rd_lists (l := List.replicate 33 nullV) (n := 33) (by simp) (hm16.keep (S' := Now w16) (fun _ h => h.2) (fun _ _ => rfl))
  go_wp2_with fail
  refine (hgm.out _ _ (hT.out _ (BW.out.step D.out)) R5).mono ?_
  rintro e w17 ⟨rfl, h17⟩
  replace D := hid (by first | exact D.out.step h17 | exact (D.out.step (below_new _ _)).step h17 | exact ((D.out.step (below_new _ _)).step (below_new _ _)).step h17)
  clear R5
  go_wp2_with fail
  refine (hn.out _).mono ?_
  rintro e w18 ⟨rfl, h18⟩
  replace D := hid (by first | exact D.out.step h18 | exact (D.out.step (below_new _ _)).step h18 | exact ((D.out.step (below_new _ _)).step (below_new _ _)).step h18)
  go_wp2_with fail
  refine (hs1.out _ _ (hT.out _ (BW.out.step D.out)) (rd_null _ _)).mono ?_
  rintro e w19 ⟨rfl, h19⟩
  replace D := hid (by first | exact D.out.step h19 | exact (D.out.step (below_new _ _)).step h19 | exact ((D.out.step (below_new _ _)).step (below_new _ _)).step h19)
  go_wp2_with fail
  refine (ht.out ⟨#[97]⟩ _).mono ?_
  rintro e w20 ⟨rfl, h20⟩
  replace D := hid (by first | exact D.out.step h20 | exact (D.out.step (below_new _ _)).step h20 | exact ((D.out.step (below_new _ _)).step (below_new _ _)).step h20)
  go_wp2_with fail
  refine (hs3.out _ _ (hT.out _ (BW.out.step D.out)) (rd_text _ _ _ (by decide))).mono ?_
  rintro e w21 ⟨rfl, h21⟩
  replace D := hid (by first | exact D.out.step h21 | exact (D.out.step (below_new _ _)).step h21 | exact ((D.out.step (below_new _ _)).step (below_new _ _)).step h21)
  go_wp2_with fail
  refine (hi.out 1 _).mono ?_
  rintro e w22 ⟨rfl, h22⟩
  replace D := hid (by first | exact D.out.step h22 | exact (D.out.step (below_new _ _)).step h22 | exact ((D.out.step (below_new _ _)).step (below_new _ _)).step h22)
  go_wp2_with fail
  refine (hl.out _ _ _ _).mono ?_
  rintro e w23 ⟨rfl, h23⟩
  replace D := hid (by first | exact D.out.step h23 | exact (D.out.step (below_new _ _)).step h23 | exact ((D.out.step (below_new _ _)).step (below_new _ _)).step h23)
  have R6 := rd_lists (l := [intV 1]) rfl (rdL_new (css := [[.int .i64 3, .int .i64 1, .string ByteArray.empty, .slice none 0 0, .slice none 0 0]]) rfl rfl rfl (one_rd (rd_int _ _ ⟨by decide, by decide⟩)) h23 (by decide))
  go_wp2_with fail
  refine (doc_calls bA (listV [intV 1]) (Now w23) w23 _ (by decide) R6 (fun _ h => h)).mono ?_
  rintro e w24 ⟨fa, fc, rfl, R7, h24⟩
  replace D := hid (D.out.step h24)
  replace R7 := R7.keep (S' := Now w24) (fun b h => h.elim (fun h => Nat.lt_of_lt_of_le h h24.size) (fun h => h.2)) (fun _ _ => rfl)
  go_wp2_with fail
  refine (hs8.out _ _ (hT.out _ (BW.out.step D.out)) R7).mono ?_
  rintro e w25 ⟨rfl, h25⟩
  replace D := hid (by first | exact D.out.step h25 | exact (D.out.step (below_new _ _)).step h25 | exact ((D.out.step (below_new _ _)).step (below_new _ _)).step h25)
  clear R6 R7
  go_wp2_with fail
  refine (hi.out 1 _).mono ?_
  rintro e w26 ⟨rfl, h26⟩
  replace D := hid (by first | exact D.out.step h26 | exact (D.out.step (below_new _ _)).step h26 | exact ((D.out.step (below_new _ _)).step (below_new _ _)).step h26)
  go_wp2_with fail
  refine (hl.out _ _ _ _).mono ?_
  rintro e w27 ⟨rfl, h27⟩
  replace D := hid (by first | exact D.out.step h27 | exact (D.out.step (below_new _ _)).step h27 | exact ((D.out.step (below_new _ _)).step (below_new _ _)).step h27)
  have R8 := rd_lists (l := [intV 1]) rfl (rdL_new (css := [[.int .i64 3, .int .i64 1, .string ByteArray.empty, .slice none 0 0, .slice none 0 0]]) rfl rfl rfl (one_rd (rd_int _ _ ⟨by decide, by decide⟩)) h27 (by decide))
  go_wp2_with fail
  refine (hi.out 1 _).mono ?_
  rintro e w28 ⟨rfl, h28⟩
  replace D := hid (by first | exact D.out.step h28 | exact (D.out.step (below_new _ _)).step h28 | exact ((D.out.step (below_new _ _)).step (below_new _ _)).step h28)
  go_wp2_with fail
  refine (hi.out 0 _).mono ?_
  rintro e w29 ⟨rfl, h29⟩
  replace D := hid (by first | exact D.out.step h29 | exact (D.out.step (below_new _ _)).step h29 | exact ((D.out.step (below_new _ _)).step (below_new _ _)).step h29)
  go_wp2_with fail
  refine (hl.out _ _ _ _).mono ?_
  rintro e w30 ⟨rfl, h30⟩
  replace D := hid (by first | exact D.out.step h30 | exact (D.out.step (below_new _ _)).step h30 | exact ((D.out.step (below_new _ _)).step (below_new _ _)).step h30)
  have R9 := rd_lists (l := [intV 1, intV 0]) rfl (rdL_new (css := [[.int .i64 3, .int .i64 1, .string ByteArray.empty, .slice none 0 0, .slice none 0 0], [.int .i64 3, .int .i64 0, .string ByteArray.empty, .slice none 0 0, .slice none 0 0]]) rfl rfl rfl (two_rd (rd_int _ _ ⟨by decide, by decide⟩) (rd_int _ _ ⟨by decide, by decide⟩)) h30 (by decide))
  replace R8 := R8.later ((h28.step h29).step ((below_new _ _).step h30))
  go_wp2_with fail
  refine (hll.out _ _ _ (hT.out _ (BW.out.step D.out)) R8 R9).mono ?_
  rintro e w31 ⟨rfl, h31⟩
  replace D := hid (by first | exact D.out.step h31 | exact (D.out.step (below_new _ _)).step h31 | exact ((D.out.step (below_new _ _)).step (below_new _ _)).step h31)
  clear R8 R9
  go_wp2_with fail
  refine (hi.out 2 _).mono ?_
  rintro e w32 ⟨rfl, h32⟩
  replace D := hid (by first | exact D.out.step h32 | exact (D.out.step (below_new _ _)).step h32 | exact ((D.out.step (below_new _ _)).step (below_new _ _)).step h32)
  go_wp2_with fail
  refine (doc_calls bA (intV 2) (fun _ => False) w32 _ (by decide) (rd_int _ _ ⟨by decide, by decide⟩) (fun _ h => h.elim)).mono ?_
  rintro e w33 ⟨fa', fc', rfl, Ra, h33⟩
  replace D := hid (D.out.step h33)
  replace Ra := Ra.keep (S' := Now w33) (fun b h => h.elim (fun h => h.elim) (fun h => h.2)) (fun _ _ => rfl)
  go_wp2_with fail
  refine (hi.out 1 _).mono ?_
  rintro e w34 ⟨rfl, h34⟩
  replace D := hid (by first | exact D.out.step h34 | exact (D.out.step (below_new _ _)).step h34 | exact ((D.out.step (below_new _ _)).step (below_new _ _)).step h34)
  go_wp2_with fail
  refine (doc_calls bB (intV 1) (fun _ => False) w34 _ (by decide) (rd_int _ _ ⟨by decide, by decide⟩) (fun _ h => h.elim)).mono ?_
  rintro e w35 ⟨fb, fd, rfl, Rb, h35⟩
  replace D := hid (D.out.step h35)
  replace Rb := Rb.keep (S' := Now w35) (fun b h => h.elim (fun h => h.elim) (fun h => h.2)) (fun _ _ => rfl)
  replace Ra := Ra.later (h34.step h35)
  go_wp2_with fail
  refine (hld.out _ _ _ (hT.out _ (BW.out.step D.out)) Ra Rb).mono ?_
  rintro e w36 ⟨rfl, h36⟩
  replace D := hid (by first | exact D.out.step h36 | exact (D.out.step (below_new _ _)).step h36 | exact ((D.out.step (below_new _ _)).step (below_new _ _)).step h36)
  clear Ra Rb
  have a0 := box_cell (j := 0) D.out rfl
  have a1 := box_cell (j := 1) D.out rfl
  have a2 := box_cell (j := 2) D.out rfl
  have a3 := box_cell (j := 3) D.out rfl
  have a4 := box_cell (j := 4) D.out rfl
  go_wp2_with fail
  refine (hde.out _ _ (R3.later ((below_new _ _).step D.out))).mono ?_
  rintro e w37 ⟨rfl, h37⟩
  replace D := hid (by first | exact D.out.step h37 | exact (D.out.step (below_new _ _)).step h37 | exact ((D.out.step (below_new _ _)).step (below_new _ _)).step h37)
  clear a0 a1 a2 a3 a4
  have a0 := box_cell (j := 0) D.out rfl
  have a1 := box_cell (j := 1) D.out rfl
  have a2 := box_cell (j := 2) D.out rfl
  have a3 := box_cell (j := 3) D.out rfl
  have a4 := box_cell (j := 4) D.out rfl
  go_wp2_with fail
  refine (hco.out _ _ (R3.later ((below_new _ _).step D.out))).mono ?_
  rintro e w38 ⟨rfl, h38⟩
  replace D := hid (by first | exact D.out.step h38 | exact (D.out.step (below_new _ _)).step h38 | exact ((D.out.step (below_new _ _)).step (below_new _ _)).step h38)
  go_wp2_with fail
  go_ret
  exact ⟨rfl, BW.out.step D.out⟩
end Go.Proofs.YtdjegpmjhfbamaaDoor
