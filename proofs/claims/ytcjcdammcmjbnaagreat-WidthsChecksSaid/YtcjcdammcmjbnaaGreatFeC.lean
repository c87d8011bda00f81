/- The references' front end: what its functions ask and answer. -/
import Derived.Test.YtcjcdammcmjbnaaGreatFeT
namespace Go.Proofs.YtcjcdammcmjbnaaGreat.U
open Go Go.Vai
set_option linter.unusedVariables false
abbrev pre_is (S : ByteArray) (utf X : Bool) (most i : Int) (s : ByteArray) : Prop := 0 ≤ i ∧ i ≤ 100000 ∧ s.size ≤ 100000 ∧ (i ≤ S.size ∨ 1 ≤ s.size)
abbrev post_is (S : ByteArray) (utf X : Bool) (most i : Int) (s : ByteArray) (r : Bool) : Prop := (r = true → i + s.size ≤ S.size) ∧ r = isB S i s
abbrev pre_Sequence (c : Int) : Prop := True
abbrev post_Sequence (c : Int) (l : List AV) : Prop := Bs l
abbrev pre_OfL (b : List AV) : Prop := Bs b
abbrev post_OfL (b : List AV) (c : Int) : Prop := True
abbrev pre_Of (b : List AV) : Prop := Bs b
abbrev post_Of (b : List AV) (c : Int) : Prop := b = [.sc (.int .u8 40)] → c = 40
abbrev pre_At (b : List AV) (at' : Int) : Prop := Bs b ∧ 0 ≤ at' ∧ at' ≤ b.length ∧ b.length ≤ 100000
abbrev post_At (b : List AV) (at' : Int) (c n : Int) : Prop := 0 ≤ n ∧ n ≤ 4 ∧ at' + n ≤ b.length ∧ -1 ≤ c ∧ (0 < n → 0 ≤ c) ∧ (b[at'.toNat]? = some (.sc (.int .u8 40)) → c = 40)
abbrev inv_At_0 (b : List AV) (at' : Int) (_ n : Int) : Prop := pre_At b at' ∧ 1 ≤ n ∧ n ≤ 5 ∧ (b[at'.toNat]? = some (.sc (.int .u8 40)) → n = 1)
abbrev mu_At_0 (b : List AV) (at' : Int) (n : Int) : Nat := (5 - n).toNat
abbrev out_At_0_0 (b : List AV) (at' : Int) (_ c n : Int) : Prop := post_At b at' c n
abbrev out_At_0_1 (b : List AV) (at' : Int) (_ n : Int) : Prop := b[at'.toNat]? = some (.sc (.int .u8 40)) → False
abbrev pre_Valid (b : List AV) : Prop := Bs b ∧ b.length ≤ 100000
abbrev post_Valid (b : List AV) (at' : Int) (ok : Bool) : Prop := True
abbrev inv_Valid_0 (b : List AV) (_ at' : Int) : Prop := Bs b ∧ 0 ≤ at' ∧ at' ≤ b.length ∧ b.length ≤ 100000
abbrev mu_Valid_0 (b : List AV) (at' : Int) : Nat := (b.length - at').toNat
abbrev out_Valid_0_0 (b : List AV) (_ at' : Int) : Prop := True
abbrev out_Valid_0_1 (b : List AV) (_ at' : Int) : Prop := True
abbrev pre_Next (b : List AV) (at' : Int) (utf : Bool) : Prop := Bs b ∧ 0 ≤ at' ∧ at' ≤ 100000 ∧ b.length ≤ 100000
abbrev post_Next (b : List AV) (at' : Int) (utf : Bool) (c to : Int) : Prop := -1 ≤ c ∧ (at' < b.length → at' < to ∧ to ≤ b.length ∧ 0 ≤ c) ∧ (b.length ≤ at' → to = at') ∧ (b[at'.toNat]? = some (.sc (.int .u8 40)) → c = 40)
abbrev pre_number (S : ByteArray) (utf X : Bool) (most i : Int) : Prop := 0 ≤ i ∧ i ≤ 100000 ∧ S.size ≤ 100000
abbrev post_number (S : ByteArray) (utf X : Bool) (most i : Int) (n to : Int) (great : Bool) : Prop := 0 ≤ n ∧ n ≤ 1000 ∧ i ≤ to ∧ (i ≤ S.size → to ≤ S.size) ∧ (great = false → n ≤ 255)
abbrev inv_number_0 (S : ByteArray) (utf X : Bool) (most i0 n0 : Int) (g0 : Bool) (i n : Int) (great : Bool) : Prop := 0 ≤ i ∧ i0 ≤ i ∧ (i0 ≤ S.size → i ≤ S.size) ∧ S.size ≤ 100000 ∧ i ≤ 100000 ∧ 0 ≤ n ∧ n ≤ 1000 ∧ (great = false → n ≤ 255)
abbrev mu_number_0 (S : ByteArray) (utf X : Bool) (most i n : Int) (great : Bool) : Nat := (S.size - i).toNat
abbrev out_number_0_0 (S : ByteArray) (utf X : Bool) (most i0 n0 : Int) (g0 : Bool) (i n : Int) (great : Bool) : Prop := inv_number_0 S utf X most i0 n0 g0 i n great
abbrev At (S : ByteArray) (i : Int) : Prop := 0 ≤ i ∧ i ≤ 100000 ∧ S.size ≤ 100000
abbrev pre_Char (S : ByteArray) (utf X : Bool) (most i : Int) : Prop := At S i
abbrev post_Char (S : ByteArray) (utf X : Bool) (most i : Int) (c to : Int) : Prop := -1 ≤ c ∧ (i < S.size → i < to ∧ to ≤ S.size ∧ 0 ≤ c) ∧ (S.size ≤ i → to = i) ∧ (isB S i (bs [40]) = true → c = 40)
abbrev pre_digit (c : Int) : Prop := True
abbrev post_digit (c : Int) (r : Bool) : Prop := r = true → 48 ≤ c ∧ c ≤ 57
abbrev pre_letter (c : Int) : Prop := True
abbrev post_letter (c : Int) (r : Bool) : Prop := True
abbrev pre_hex (c : Int) : Prop := 0 ≤ c ∧ c < 256
abbrev post_hex (c r : Int) : Prop := -1 ≤ r ∧ r ≤ 15 ∧ r = hexv c
abbrev pre_name (S : ByteArray) (utf X : Bool) (most i : Int) : Prop := 0 ≤ i ∧ i ≤ S.size ∧ S.size ≤ 100000
abbrev post_name (S : ByteArray) (utf X : Bool) (most i : Int) (s : ByteArray) (to : Int) (ok : Bool) : Prop := i ≤ to ∧ to ≤ S.size ∧ s.size ≤ S.size ∧ (ok = true → i < to)
abbrev inv_name_0 (S : ByteArray) (utf X : Bool) (most from' io i : Int) : Prop := 0 ≤ io ∧ io ≤ i ∧ i ≤ S.size ∧ S.size ≤ 100000
abbrev mu_name_0 (S : ByteArray) (utf X : Bool) (most from' i : Int) : Nat := (S.size - i).toNat
abbrev out_name_0_0 (S : ByteArray) (utf X : Bool) (most from' io i : Int) : Prop := inv_name_0 S utf X most from' io i
abbrev Few (l : List AV) : Prop := l.length ≤ 10000000000
abbrev pre_Table : Prop := True
abbrev post_Table (l : List AV) : Prop := Ws l ∧ l.length ≤ 200
abbrev pre_Posix (s : ByteArray) : Prop := True
abbrev post_Posix (s : ByteArray) (l : List AV) (there : Bool) : Prop := Rs l ∧ l.length ≤ 4
abbrev pre_Escape (c : Int) : Prop := True
abbrev post_Escape (c : Int) (l : List AV) (there : Bool) : Prop := Rs l ∧ l.length ≤ 4
abbrev pre_Property (s : ByteArray) : Prop := s.size ≤ 100000 ∧ True
abbrev post_Property (s : ByteArray) (l : List AV) (there : Bool) : Prop := Rs l ∧ l.length ≤ 1114112
abbrev inv_Property_0 (s : ByteArray) (t : List AV) (lo ao : List AV) (io : Int) (l a : List AV) (i : Int) : Prop := Ws t ∧ t.length ≤ 200 ∧ 0 ≤ i ∧ i ≤ t.length ∧ Rs l ∧ l.length ≤ i ∧ Rs a ∧ a.length ≤ i
abbrev mu_Property_0 (s : ByteArray) (t : List AV) (l a : List AV) (i : Int) : Nat := (t.length - i).toNat
abbrev out_Property_0_0 (s : ByteArray) (t : List AV) (lo ao : List AV) (io : Int) (l a : List AV) (i : Int) : Prop := Rs l ∧ l.length ≤ 200 ∧ Rs a ∧ a.length ≤ 200
abbrev pre_hexadecimal (S : ByteArray) (utf X : Bool) (most i : Int) : Prop := At S i ∧ i ≤ S.size
abbrev post_hexadecimal (S : ByteArray) (utf X : Bool) (most i : Int) (n to : Int) : Prop := i ≤ to ∧ to ≤ S.size ∧ -1 ≤ n
abbrev inv_hexadecimal_0 (i : Int) (S : ByteArray) (utf X : Bool) (most no ko n k : Int) : Prop := At S i ∧ i + 1 ≤ S.size ∧ i + 1 ≤ k ∧ k ≤ S.size ∧ k ≤ i + 8 ∧ 0 ≤ n ∧ (k = i + 1 → n = 0) ∧ (k = i + 2 → n ≤ 15) ∧ (k = i + 3 → n ≤ 255) ∧ (k = i + 4 → n ≤ 4095) ∧ (k = i + 5 → n ≤ 65535) ∧ (k = i + 6 → n ≤ 1048575) ∧ (k = i + 7 → n ≤ 16777215) ∧ (k = i + 8 → n ≤ 268435455)
abbrev mu_hexadecimal_0 (i : Int) (S : ByteArray) (utf X : Bool) (most n k : Int) : Nat := (S.size - k).toNat
abbrev out_hexadecimal_0_0 (i : Int) (S : ByteArray) (utf X : Bool) (most no ko n k : Int) : Prop := 0 ≤ n ∧ i + 1 ≤ k ∧ k ≤ S.size
abbrev inv_hexadecimal_1 (S : ByteArray) (utf X : Bool) (most io no ko i n k : Int) : Prop := At S i ∧ io ≤ i ∧ i ≤ S.size ∧ 0 ≤ n ∧ 0 ≤ k ∧ (k = 0 → n = 0) ∧ (k = 1 → n ≤ 15) ∧ n ≤ 255 ∧ k ≤ 2
abbrev mu_hexadecimal_1 (S : ByteArray) (utf X : Bool) (most i n k : Int) : Nat := (2 - k).toNat
abbrev out_hexadecimal_1_0 (S : ByteArray) (utf X : Bool) (most io no ko i n k : Int) : Prop := 0 ≤ n ∧ io ≤ i ∧ i ≤ S.size
abbrev pre_braced (S : ByteArray) (utf X : Bool) (most i : Int) : Prop := At S i
abbrev post_braced (S : ByteArray) (utf X : Bool) (most i : Int) (s : ByteArray) (to : Int) : Prop := s.size ≤ S.size ∧ (0 ≤ to → i < to ∧ to ≤ S.size)
abbrev inv_braced_0 (i : Int) (S : ByteArray) (utf X : Bool) (most ko k : Int) : Prop := At S i ∧ i + 1 ≤ k ∧ k ≤ S.size
abbrev mu_braced_0 (i : Int) (S : ByteArray) (utf X : Bool) (most k : Int) : Nat := (S.size - k).toNat
abbrev out_braced_0_0 (i : Int) (S : ByteArray) (utf X : Bool) (most ko : Int) (s : ByteArray) (to : Int) : Prop := s.size ≤ S.size ∧ i < to ∧ to ≤ S.size
abbrev out_braced_0_1 (i : Int) (S : ByteArray) (utf X : Bool) (most ko k : Int) : Prop := True
abbrev Most (most : Int) : Prop := most ≤ 1114111
abbrev pre_many (S : ByteArray) (utf X : Bool) (most c i : Int) : Prop := At S i ∧ i ≤ S.size ∧ Most most
abbrev post_many (S : ByteArray) (utf X : Bool) (most c i : Int) (l : List AV) (neg : Bool) (to : Int) (there : Bool) (e : Int) : Prop := SetR l ∧ Rs l ∧ l.length ≤ 1114112 ∧ i ≤ to ∧ to ≤ S.size
abbrev pre_cut (S : ByteArray) (utf X : Bool) (most : Int) (l : List AV) : Prop := Rs l ∧ l.length ≤ 10000000000
abbrev post_cut (S : ByteArray) (utf X : Bool) (most : Int) (l r : List AV) : Prop := SetR r ∧ r.length ≤ 1114112
abbrev pre_not (S : ByteArray) (utf X : Bool) (most : Int) (l : List AV) : Prop := Rs l ∧ l.length ≤ 10000000000
abbrev post_not (S : ByteArray) (utf X : Bool) (most : Int) (l r : List AV) : Prop := SetR r ∧ Rs r ∧ r.length ≤ 1114112
abbrev pre_simple (c : Int) : Prop := True
abbrev post_simple (c r : Int) : Prop := True
abbrev pre_assert (c : Int) : Prop := True
abbrev post_assert (c r : Int) : Prop := True
abbrev In' (S : ByteArray) (i : Int) : Prop := 0 ≤ i ∧ i < S.size ∧ S.size ≤ 2000
abbrev pre_escapeO (S : ByteArray) (utf X : Bool) (most i : Int) : Prop := In' S i ∧ Most most
abbrev post_escapeO (S : ByteArray) (utf X : Bool) (most i : Int) (l : List AV) : Prop := GotL S i l
abbrev inv_escapeO_0 (i : Int) (S : ByteArray) (utf X : Bool) (most : Int) (to1 : Int) (ko k' : Int) : Prop := In' S i ∧ i ≤ to1 ∧ to1 ≤ S.size ∧ 0 ≤ k' ∧ k' ≤ 3
abbrev mu_escapeO_0 (i : Int) (S : ByteArray) (utf X : Bool) (most : Int) (to1 : Int) (k' : Int) : Nat := (3 - k').toNat
abbrev out_escapeO_0_0 (i : Int) (S : ByteArray) (utf X : Bool) (most : Int) (to1 : Int) (ko : Int) (y2 : Int) (y9 : ByteArray) (y13 : Int) : Prop := i < y13 ∧ y13 ≤ S.size
abbrev out_escapeO_0_1 (i : Int) (S : ByteArray) (utf X : Bool) (most : Int) (to1 : Int) (ko k' : Int) : Prop := True
abbrev pre_signed (S : ByteArray) (utf X : Bool) (most i : Int) : Prop := 0 ≤ i ∧ i ≤ S.size ∧ S.size ≤ 2000
abbrev post_signed (S : ByteArray) (utf X : Bool) (most i : Int) (n m to : Int) (great : Bool) : Prop := i ≤ to ∧ to ≤ S.size
abbrev pre_referO (S : ByteArray) (utf X : Bool) (most at0 i : Int) : Prop := In' S at0 ∧ at0 < i ∧ i ≤ S.size
abbrev post_referO (S : ByteArray) (utf X : Bool) (most at0 i : Int) (l : List AV) : Prop := GotL S at0 l
abbrev pre_item (S : ByteArray) (utf X : Bool) (most i : Int) : Prop := In' S i ∧ Most most
abbrev post_item (S : ByteArray) (utf X : Bool) (most i : Int) (l : List AV) (single : Bool) (to e where' : Int) : Prop := Rs l ∧ l.length ≤ 1114112 ∧ (e = 0 → i < to ∧ to ≤ S.size) ∧ (single = true → l.length = 1)
abbrev inv_item_0 (i : Int) (S : ByteArray) (utf X : Bool) (most : Int) (neg : Bool) (from' ko k : Int) : Prop := In' S i ∧ Most most ∧ i < from' ∧ from' ≤ k ∧ ko = from' ∧ (from' ≤ S.size → k ≤ S.size) ∧ k ≤ 3000
abbrev mu_item_0 (i : Int) (S : ByteArray) (utf X : Bool) (most : Int) (neg : Bool) (from' k : Int) : Nat := (S.size - k).toNat
abbrev out_item_0_0 (i : Int) (S : ByteArray) (utf X : Bool) (most : Int) (neg : Bool) (from' ko k : Int) : Prop := i < from' ∧ from' ≤ k ∧ (from' ≤ S.size → k ≤ S.size) ∧ k ≤ 3000
abbrev pre_classTO (S : ByteArray) (utf X : Bool) (most i : Int) : Prop := In' S i ∧ Most most
abbrev post_classTO (S : ByteArray) (utf X : Bool) (most i : Int) (l : List AV) : Prop := GotL S i l
abbrev pre_shutO (S : ByteArray) (utf X : Bool) (most : Int) (tk ta tt tc : Int) (ts : List AV) (tneg : Bool) (tn tm tmode : Int) (tnm : ByteArray) (ton toff : Int) (at0 i : Int) (s : ByteArray) (e : Int) : Prop := In' S at0 ∧ at0 < i ∧ i ≤ S.size ∧ s.size ≤ 10 ∧ SetR ts ∧ tk ≠ 9 ∧ e ≠ 0 ∧ (tk = 10 → tn ≠ 13)
abbrev post_shutO (S : ByteArray) (utf X : Bool) (most : Int) (tk ta tt tc : Int) (ts : List AV) (tneg : Bool) (tn tm tmode : Int) (tnm : ByteArray) (ton toff : Int) (at0 i : Int) (s0 : ByteArray) (e : Int) (l : List AV) : Prop := GotL S at0 l
abbrev pre_calledO (S : ByteArray) (utf X : Bool) (most : Int) (tk ta tt tc : Int) (ts : List AV) (tneg : Bool) (tn tm tmode : Int) (tnm : ByteArray) (ton toff : Int) (at0 i : Int) (s : ByteArray) : Prop := In' S at0 ∧ at0 < i ∧ i ≤ S.size ∧ s.size ≤ 10 ∧ SetR ts ∧ tk ≠ 9 ∧ (tk = 10 → tn ≠ 13)
abbrev post_calledO (S : ByteArray) (utf X : Bool) (most : Int) (tk ta tt tc : Int) (ts : List AV) (tneg : Bool) (tn tm tmode : Int) (tnm : ByteArray) (ton toff : Int) (at0 i : Int) (s0 : ByteArray) (l : List AV) : Prop := GotL S at0 l
abbrev pre_conditionO (S : ByteArray) (utf X : Bool) (most at0 i : Int) : Prop := In' S at0 ∧ at0 + 3 = i ∧ i ≤ S.size ∧ isB S (at0 + 2) (bs [40]) = true
abbrev post_conditionO (S : ByteArray) (utf X : Bool) (most at0 i : Int) (l : List AV) : Prop := GotL S at0 l
abbrev pre_flagsO (S : ByteArray) (utf X : Bool) (most at0 i : Int) : Prop := In' S at0 ∧ at0 < i ∧ i ≤ S.size
abbrev post_flagsO (S : ByteArray) (utf X : Bool) (most at0 i : Int) (l : List AV) : Prop := GotL S at0 l
abbrev pre_verbO (S : ByteArray) (utf X : Bool) (most i : Int) : Prop := In' S i ∧ i + 2 ≤ S.size
abbrev post_verbO (S : ByteArray) (utf X : Bool) (most i : Int) (l : List AV) : Prop := GotL S i l
abbrev pre_openTO (S : ByteArray) (utf X : Bool) (most i : Int) : Prop := In' S i
abbrev post_openTO (S : ByteArray) (utf X : Bool) (most i : Int) (l : List AV) : Prop := GotL S i l ∧ (lookB S i = true → Opens l)
abbrev pre_quantO (S : ByteArray) (utf X : Bool) (most i to n m : Int) : Prop := In' S i ∧ i < to ∧ to ≤ S.size ∧ 0 ≤ n ∧ n ≤ 255 ∧ -1 ≤ m ∧ m ≤ 255 ∧ (m = -1 ∨ n ≤ m)
abbrev post_quantO (S : ByteArray) (utf X : Bool) (most i to0 n0 m0 : Int) (l : List AV) : Prop := GotL S i l
abbrev pre_TokenO (S : ByteArray) (utf X : Bool) (most i : Int) : Prop := In' S i ∧ Most most
abbrev post_TokenO (S : ByteArray) (utf X : Bool) (most i : Int) (l : List AV) : Prop := GotL S i l ∧ (lookB S i = true → Opens l)
abbrev inv_classTO_0 (at0 : Int) (S : ByteArray) (utf X : Bool) (most : Int) (neg1 : Bool) (first : Int) (io : Int) (ao : List AV) (i : Int) (all : List AV) : Prop := In' S at0 ∧ Most most ∧ at0 < first ∧ first ≤ i ∧ i ≤ S.size ∧ Rs all ∧ all.length ≤ 1114112 * i
abbrev mu_classTO_0 (at0 : Int) (S : ByteArray) (utf X : Bool) (most : Int) (neg1 : Bool) (first : Int) (i : Int) (all : List AV) : Nat := (S.size - i).toNat
abbrev out_classTO_0_0 (at0 : Int) (S : ByteArray) (utf X : Bool) (most : Int) (neg1 : Bool) (first : Int) (io : Int) (ao : List AV) (y0 y1 y2 : Int) (y4 : List AV) (y5 : Bool) (y12 : Bool) (y13 y14 y15 : Int) : Prop := SetR y4 ∧ (y14 = 0 → at0 < y13 ∧ y13 ≤ S.size ∧ y0 ≠ 9 ∧ y0 ≠ 10)
abbrev inv_flagsO_0 (at0 : Int) (S : ByteArray) (utf X : Bool) (most : Int) (tk ta tt tc : Int) (ts : List AV) (tneg : Bool) (tn tm tmode : Int) (tnm : ByteArray) (io ono offo : Int) (oo : Bool) (i on1 off1 : Int) (o : Bool) : Prop := In' S at0 ∧ at0 < i ∧ i ≤ S.size ∧ SetR ts ∧ tk = 15
abbrev mu_flagsO_0 (at0 : Int) (S : ByteArray) (utf X : Bool) (most : Int) (tk ta tt tc : Int) (ts : List AV) (tneg : Bool) (tn tm tmode : Int) (tnm : ByteArray) (i on1 off1 : Int) (o : Bool) : Nat := (S.size - i).toNat
abbrev out_flagsO_0_0 (at0 : Int) (S : ByteArray) (utf X : Bool) (most : Int) (tk ta tt tc : Int) (ts : List AV) (tneg : Bool) (tn tm tmode : Int) (tnm : ByteArray) (io ono offo : Int) (oo : Bool) (k1 a1 t1 c1 : Int) (s1 : List AV) (neg1 : Bool) (n1 m1 mode1 : Int) (nm1 : ByteArray) (on1 off1 : Int) (some1 : Bool) (To1 E1 At1 : Int) : Prop := SetR s1 ∧ Got S at0 k1 a1 t1 c1 s1 neg1 n1 m1 mode1 nm1 on1 off1 some1 To1 E1 At1
abbrev inv_verbO_0 (at0 : Int) (S : ByteArray) (utf X : Bool) (most : Int) (io i : Int) : Prop := In' S at0 ∧ at0 + 2 ≤ i ∧ i ≤ S.size
abbrev mu_verbO_0 (at0 : Int) (S : ByteArray) (utf X : Bool) (most : Int) (i : Int) : Nat := (S.size - i).toNat
abbrev out_verbO_0_0 (at0 : Int) (S : ByteArray) (utf X : Bool) (most : Int) (io i : Int) : Prop := In' S at0 ∧ at0 + 2 ≤ i ∧ i ≤ S.size
abbrev inv_verbO_1 (at0 : Int) (i : Int) (s1 : ByteArray) (ko k' : Int) : Prop := 0 ≤ k' ∧ k' ≤ s1.size ∧ s1.size ≤ 2000
abbrev mu_verbO_1 (at0 : Int) (i : Int) (s1 : ByteArray) (k' : Int) : Nat := (s1.size - k').toNat
abbrev out_verbO_1_0 (at0 : Int) (i : Int) (s1 : ByteArray) (ko : Int) (y18 y19 : ByteArray) : Prop := True
abbrev out_verbO_1_1 (at0 : Int) (i : Int) (s1 : ByteArray) (ko k' : Int) : Prop := True
abbrev inv_openTO_1 (S : ByteArray) (utf X : Bool) (most : Int) (io i : Int) : Prop := 0 ≤ io ∧ io ≤ i ∧ i ≤ S.size ∧ S.size ≤ 2000
abbrev mu_openTO_1 (S : ByteArray) (utf X : Bool) (most : Int) (i : Int) : Nat := (S.size - i).toNat
abbrev out_openTO_1_0 (S : ByteArray) (utf X : Bool) (most : Int) (io i : Int) : Prop := 0 ≤ io ∧ io ≤ i ∧ i ≤ S.size
abbrev inv_TokenO_0 (S : ByteArray) (utf X : Bool) (most : Int) (io i : Int) : Prop := 1 ≤ io ∧ io ≤ i ∧ i ≤ S.size ∧ S.size ≤ 2000
abbrev mu_TokenO_0 (S : ByteArray) (utf X : Bool) (most : Int) (i : Int) : Nat := (S.size - i).toNat
abbrev out_TokenO_0_0 (S : ByteArray) (utf X : Bool) (most : Int) (io i : Int) : Prop := io ≤ i ∧ i ≤ S.size
abbrev pre_kind (L : List AV) (I O E At : Int) : Prop := 0 ≤ I ∧ Ts L
abbrev post_kind (L : List AV) (I O E At : Int) (r : Int) : Prop := r = kindOf L I E ∧ (r ≠ 0 → E = 0) ∧ (r ≠ 0 → I < L.length)
abbrev pre_fail (e at' : Int) (L : List AV) (I O E At : Int) : Prop := e ≠ 0
abbrev post_fail (e at' : Int) (L : List AV) (I O E At : Int) (E1 At1 : Int) : Prop := E1 ≠ 0
abbrev pre_one7 (kind : Int) (l : List AV) : Prop := Nf l ∧ l.length ≤ 3000 ∧ ((kind = 13 ∧ 1 ≤ l.length) ∨ kind = 12)
abbrev post_one7 (kind : Int) (l : List AV) (k a c : Int) (s : List AV) (g : Bool) (n m mode : Int) (nm : ByteArray) (on off : Int) (K : List AV) : Prop := nszL K ≤ nszL l ∧ Rs s ∧ Nf K ∧ (Ns l → NW k a c s g n m mode nm on off K)
abbrev pre_repeatable (k a c : Int) (s : List AV) (g : Bool) (n m mode : Int) (nm : ByteArray) (on off : Int) (K : List AV) : Prop := True
abbrev post_repeatable (k a c : Int) (s : List AV) (g : Bool) (n m mode : Int) (nm : ByteArray) (on off : Int) (K : List AV) (r : Bool) : Prop := True
abbrev rank_thing (L : List AV) (I O E At : Int) : Nat := 3 * (L.length - I).toNat
abbrev rank_sequence (L : List AV) (I O E At : Int) : Nat := 3 * (L.length - I).toNat + 1
abbrev rank_alternatives (L : List AV) (I O E At : Int) : Nat := 3 * (L.length - I).toNat + 2
abbrev pre_thing (L : List AV) (I O E At : Int) : Prop := Ts L ∧ TC L ∧ L.length ≤ 2000 ∧ 0 ≤ I ∧ I ≤ L.length ∧ 0 ≤ O ∧ O ≤ 40 ∧ E = 0 ∧ I < L.length
abbrev post_thing (L : List AV) (I O E At : Int) (k a c : Int) (s : List AV) (g : Bool) (n m mode : Int) (nm : ByteArray) (on off : Int) (K : List AV) (I1 O1 E1 At1 : Int) : Prop := I ≤ I1 ∧ I1 ≤ L.length ∧ 0 ≤ O1 ∧ O1 ≤ 40 ∧ (E1 = 0 → O1 = O) ∧ (E1 = 0 → E = 0) ∧ (E1 = 0 → I < I1) ∧ (E1 = 0 → nszL K + 1 ≤ 3 * (I1 - I)) ∧ Rs s ∧ Nf K ∧ (E1 = 0 → NW k a c s g n m mode nm on off K)
abbrev pre_sequence (L : List AV) (I O E At : Int) : Prop := Ts L ∧ TC L ∧ L.length ≤ 2000 ∧ 0 ≤ I ∧ I ≤ L.length ∧ 0 ≤ O ∧ O ≤ 40
abbrev post_sequence (L : List AV) (I O E At : Int) (k a c : Int) (s : List AV) (g : Bool) (n m mode : Int) (nm : ByteArray) (on off : Int) (K : List AV) (I1 O1 E1 At1 : Int) : Prop := I ≤ I1 ∧ I1 ≤ L.length ∧ 0 ≤ O1 ∧ O1 ≤ 40 ∧ (E1 = 0 → O1 = O) ∧ (E1 = 0 → E = 0) ∧ (E1 = 0 → nszL K ≤ 3 * (I1 - I)) ∧ Rs s ∧ Nf K ∧ (E1 = 0 → NW k a c s g n m mode nm on off K)
abbrev pre_alternatives (L : List AV) (I O E At : Int) : Prop := Ts L ∧ TC L ∧ L.length ≤ 2000 ∧ 0 ≤ I ∧ I ≤ L.length ∧ 0 ≤ O ∧ O ≤ 40
abbrev post_alternatives (L : List AV) (I O E At : Int) (l : List AV) (I1 O1 E1 At1 : Int) : Prop := I ≤ I1 ∧ I1 ≤ L.length ∧ 0 ≤ O1 ∧ O1 ≤ 40 ∧ (E1 = 0 → O1 = O) ∧ (E1 = 0 → E = 0) ∧ 1 ≤ l.length ∧ l.length ≤ 3000 ∧ (E1 = 0 → nszL l ≤ 3 * (I1 - I) + 1) ∧ Nf l ∧ (E1 = 0 → Ns l)
abbrev inv_sequence_0 (B : Nat) (L : List AV) (lo : List AV) (Io Oo Eo Ato : Int) (l : List AV) (I O E At : Int) : Prop := 3 * (L.length - I).toNat + 1 ≤ B ∧ Ts L ∧ TC L ∧ L.length ≤ 2000 ∧ 0 ≤ I ∧ I ≤ L.length ∧ 0 ≤ O ∧ O ≤ 40 ∧ Io ≤ I ∧ l.length ≤ I + 1 ∧ (E = 0 → l.length ≤ I) ∧ (E = 0 → O = Oo) ∧ (E = 0 → Eo = 0) ∧ (E = 0 → nszL l ≤ nszL lo + 3 * (I - Io)) ∧ Nf l ∧ (E = 0 → Ns l)
abbrev mu_sequence_0 (L : List AV) (l : List AV) (I O E At : Int) : Nat := (L.length - I).toNat + (if E = 0 then 1 else 0)
abbrev out_sequence_0_0 (L : List AV) (lo : List AV) (Io Oo Eo Ato : Int) (k1 a1 c1 : Int) (s1 : List AV) (g1 : Bool) (n1 m1 mode1 : Int) (nm1 : ByteArray) (on1 off1 : Int) (K1 : List AV) (I O E At : Int) : Prop := Io ≤ I ∧ I ≤ L.length ∧ 0 ≤ O ∧ O ≤ 40 ∧ (E = 0 → O = Oo) ∧ (E = 0 → Eo = 0) ∧ (E = 0 → nszL K1 ≤ nszL lo + 3 * (I - Io)) ∧ Rs s1 ∧ Nf K1 ∧ (E = 0 → NW k1 a1 c1 s1 g1 n1 m1 mode1 nm1 on1 off1 K1)
abbrev inv_alternatives_0 (B : Nat) (L : List AV) (lo : List AV) (Io Oo Eo Ato : Int) (l : List AV) (I O E At : Int) : Prop := 3 * (L.length - I).toNat + 2 ≤ B ∧ Ts L ∧ TC L ∧ L.length ≤ 2000 ∧ 0 ≤ I ∧ I ≤ L.length ∧ 0 ≤ O ∧ O ≤ 40 ∧ Io ≤ I ∧ 1 ≤ l.length ∧ l.length ≤ I + 1 ∧ (E = 0 → O = Oo) ∧ (E = 0 → Eo = 0) ∧ (E = 0 → nszL l ≤ nszL lo + 3 * (I - Io)) ∧ Nf l ∧ (E = 0 → Ns l)
abbrev mu_alternatives_0 (L : List AV) (l : List AV) (I O E At : Int) : Nat := (L.length - I).toNat
abbrev out_alternatives_0_0 (L : List AV) (lo : List AV) (Io Oo Eo Ato : Int) (l : List AV) (I O E At : Int) : Prop := Io ≤ I ∧ I ≤ L.length ∧ 0 ≤ O ∧ O ≤ 40 ∧ 1 ≤ l.length ∧ l.length ≤ 3000 ∧ (E = 0 → O = Oo) ∧ (E = 0 → Eo = 0) ∧ (E = 0 → nszL l ≤ nszL lo + 3 * (I - Io)) ∧ Nf l ∧ (E = 0 → Ns l)
abbrev pre_Parse (L : List AV) (end' : Int) : Prop := Ts L ∧ TC L ∧ L.length ≤ 2000
abbrev post_Parse (L : List AV) (end' : Int) (k a c : Int) (s : List AV) (g : Bool) (n m mode : Int) (nm : ByteArray) (on off : Int) (K : List AV) (e at' : Int) : Prop := (e = 0 → nszL K ≤ 10000) ∧ (e = 0 → NW k a c s g n m mode nm on off K)
abbrev pre_Lex (b : List AV) (o : Int) : Prop := Bs b ∧ b.length ≤ 9223372036854775807
abbrev post_Lex (b : List AV) (o : Int) (l : List AV) (e at' : Int) : Prop := Ts l ∧ l.length ≤ 1000 ∧ TC l
abbrev inv_Lex_0 (S : ByteArray) (utf X : Bool) (most : Int) (oo : List AV) (io : Int) (qo : Bool) (o : List AV) (i : Int) (q : Bool) : Prop := Ts o ∧ o.length ≤ i ∧ 0 ≤ i ∧ i ≤ S.size ∧ S.size ≤ 1000 ∧ Most most ∧ TCi o S i q
abbrev mu_Lex_0 (S : ByteArray) (utf X : Bool) (most : Int) (o : List AV) (i : Int) (q : Bool) : Nat := (S.size - i).toNat
abbrev out_Lex_0_0 (S : ByteArray) (utf X : Bool) (most : Int) (oo : List AV) (io : Int) (qo : Bool) (e at' : Int) : Prop := True
abbrev out_Lex_0_1 (S : ByteArray) (utf X : Bool) (most : Int) (oo : List AV) (io : Int) (qo : Bool) (o : List AV) (i : Int) (q : Bool) : Prop := Ts o ∧ o.length ≤ 1000 ∧ TC o
abbrev pre_Token (S : ByteArray) (utf X : Bool) (most i : Int) : Prop := pre_TokenO S utf X most i
abbrev post_Token (S : ByteArray) (utf X : Bool) (most i : Int) (k at' to c : Int) (s : List AV) (neg : Bool) (n m mode : Int) (nm : ByteArray) (on off : Int) (some' : Bool) (To E At' : Int) : Prop := SetR s ∧ Got S i k at' to c s neg n m mode nm on off some' To E At' ∧ (lookB S i = true → k = 10 ∧ n ≠ 13 ∧ some' = true ∧ E = 0)
abbrev pre_NewQ (l : List AV) (most : Int) : Prop := Rs l ∧ l.length ≤ 40000000000
abbrev post_NewQ (l : List AV) (most : Int) (x : List AV) : Prop := SetR x ∧ Rs x ∧ x.length ≤ 1114112
abbrev pre_JoinQ (kind : Int) (a b : List AV) (most : Int) : Prop := Rs a ∧ Rs b ∧ a.length ≤ 40000000000 ∧ b.length ≤ 40000000000
abbrev post_JoinQ (kind : Int) (a b : List AV) (most : Int) (x : List AV) : Prop := SetR x ∧ Rs x ∧ x.length ≤ 1114112
abbrev pre_one8 (c : Int) : Prop := True
abbrev post_one8 (c : Int) (l : List AV) : Prop := Rs l ∧ l.length ≤ 1 ∧ (0 ≤ c → c ≤ 1114111 → SetR l)
abbrev pre_seq (l : List AV) : Prop := Ns l ∧ l.length ≤ 100000000
abbrev post_seq (l : List AV) (k a c : Int) (s : List AV) (g : Bool) (n m mode : Int) (nm : ByteArray) (on off : Int) (K : List AV) : Prop := nszL K ≤ nszL l ∧ NW k a c s g n m mode nm on off K
abbrev pre_list (k a c : Int) (s : List AV) (g : Bool) (n m mode : Int) (nm : ByteArray) (on off : Int) (K : List AV) : Prop := NW k a c s g n m mode nm on off K
abbrev post_list (k a c : Int) (s : List AV) (g : Bool) (n m mode : Int) (nm : ByteArray) (on off : Int) (K : List AV) (l : List AV) : Prop := Ns l ∧ l.length ≤ nszL K + 1 ∧ nszL l ≤ nszL K + 1
abbrev pre_Turn (f on off : Int) : Prop := True
abbrev post_Turn (f on off r : Int) : Prop := True
abbrev pre_Of2 (c : Int) : Prop := True
abbrev post_Of2 (c a b : Int) (x y : ByteArray) (o : Int) : Prop := True
abbrev inv_Of2_0 (x10 x11 x12 : Int) (x13 x14 : ByteArray) (x15 : Int) (x16 : List AV) (x17o x17 : Int) : Prop := Ws x16 ∧ x16.length ≤ 200 ∧ 0 ≤ x17 ∧ x17 ≤ x16.length
abbrev mu_Of2_0 (x10 x11 x12 : Int) (x13 x14 : ByteArray) (x15 : Int) (x16 : List AV) (x17 : Int) : Nat := (x16.length - x17).toNat
abbrev out_Of2_0_0 (x10 x11 x12 : Int) (x13 x14 : ByteArray) (x15 : Int) (x16 : List AV) (x17o y0 y1 : Int) (y2 y3 : ByteArray) (y4 : Int) : Prop := True
abbrev out_Of2_0_1 (x10 x11 x12 : Int) (x13 x14 : ByteArray) (x15 : Int) (x16 : List AV) (x17o y7 : Int) : Prop := True
abbrev pre_Others (c : Int) (utf : Bool) : Prop := True
abbrev post_Others (c : Int) (utf : Bool) (l : List AV) : Prop := Is l ∧ l.length ≤ 4
abbrev pre_addQ (l n : List AV) : Prop := Rs l ∧ Is n ∧ l.length ≤ 10000000000 ∧ n.length ≤ 100
abbrev post_addQ (l n r : List AV) : Prop := Rs r ∧ r.length ≤ l.length + n.length
abbrev inv_addQ_0 (n : List AV) (lo : List AV) (io : Int) (l : List AV) (i : Int) : Prop := Rs l ∧ Is n ∧ lo.length ≤ 10000000000 ∧ n.length ≤ 100 ∧ 0 ≤ i ∧ i ≤ n.length ∧ l.length ≤ lo.length + i ∧ io = 0
abbrev mu_addQ_0 (n : List AV) (l : List AV) (i : Int) : Nat := (n.length - i).toNat
abbrev out_addQ_0_0 (n : List AV) (lo : List AV) (io : Int) (l : List AV) (i : Int) : Prop := Rs l ∧ l.length ≤ lo.length + n.length
abbrev pre_CaselessQ (l : List AV) (utf : Bool) : Prop := Rs l ∧ l.length ≤ 1000000000
abbrev post_CaselessQ (l : List AV) (utf : Bool) (r : List AV) : Prop := SetR r ∧ Rs r ∧ r.length ≤ 1114112
abbrev inv_CaselessQ_0 (l : List AV) (utf : Bool) (mo : List AV) (co : Int) (m : List AV) (c : Int) : Prop := Rs l ∧ l.length ≤ 1000000000 ∧ Rs m ∧ 0 ≤ c ∧ c ≤ 1201 ∧ m.length ≤ 1000000000 + 4 * c
abbrev mu_CaselessQ_0 (l : List AV) (utf : Bool) (m : List AV) (c : Int) : Nat := (1201 - c).toNat
abbrev out_CaselessQ_0_0 (l : List AV) (utf : Bool) (mo : List AV) (co : Int) (m : List AV) (c : Int) : Prop := Rs m ∧ m.length ≤ 1000010000
abbrev pre_set8 (utf : Bool) (most : Int) (l : List AV) (cs neg : Bool) : Prop := Rs l ∧ l.length ≤ 10000000
abbrev post_set8 (utf : Bool) (most : Int) (l : List AV) (cs neg : Bool) (r : List AV) : Prop := SetR r ∧ Rs r
abbrev rank_Node8 (utf : Bool) (most : Int) (k a c : Int) (s : List AV) (g : Bool) (n m mode : Int) (nm : ByteArray) (on off : Int) (K : List AV) (f : Int) : Nat := 2 * nszL K + 2
abbrev pre_Node8 (utf : Bool) (most : Int) (k a c : Int) (s : List AV) (g : Bool) (n m mode : Int) (nm : ByteArray) (on off : Int) (K : List AV) (f : Int) : Prop := NW k a c s g n m mode nm on off K ∧ nszL K ≤ 10000
abbrev post_Node8 (utf : Bool) (most : Int) (k a c : Int) (s : List AV) (g : Bool) (n m mode : Int) (nm : ByteArray) (on off : Int) (K : List AV) (f : Int) (k1 a1 c1 : Int) (s1 : List AV) (g1 : Bool) (n1 m1 mode1 : Int) (nm1 : ByteArray) (on1 off1 : Int) (K1 : List AV) (f1 : Int) : Prop := NW k1 a1 c1 s1 g1 n1 m1 mode1 nm1 on1 off1 K1 ∧ nszL K1 ≤ 6 * nszL K + 5
abbrev rank_row8 (utf : Bool) (most : Int) (l : List AV) (f : Int) : Nat := 2 * nszL l + 1
abbrev pre_row8 (utf : Bool) (most : Int) (l : List AV) (f : Int) : Prop := Ns l ∧ nszL l ≤ 10000 ∧ l.length ≤ nszL l
abbrev post_row8 (utf : Bool) (most : Int) (l : List AV) (f : Int) (r : List AV) (f1 : Int) : Prop := Ns r ∧ r.length = l.length ∧ nszL r ≤ 6 * nszL l
abbrev inv_row8_0 (B : Nat) (l : List AV) (utf : Bool) (most : Int) (fo : Int) (oo : List AV) (io : Int) (f : Int) (o : List AV) (i : Int) : Prop := 2 * nszL l + 1 ≤ B ∧ Ns l ∧ nszL l ≤ 10000 ∧ l.length ≤ nszL l ∧ 0 ≤ i ∧ i ≤ l.length ∧ Ns o ∧ (o.length : Int) = i ∧ nszL o + 6 * nszL (l.drop i.toNat) ≤ 6 * nszL l
abbrev mu_row8_0 (l : List AV) (utf : Bool) (most : Int) (f : Int) (o : List AV) (i : Int) : Nat := (l.length - i).toNat
abbrev out_row8_0_0 (l : List AV) (utf : Bool) (most : Int) (fo : Int) (oo : List AV) (io : Int) (f : Int) (o : List AV) (i : Int) : Prop := Ns o ∧ o.length = l.length ∧ nszL o ≤ 6 * nszL l
abbrev inv_Node8_0 (B : Nat) (utf : Bool) (most : Int) (k a c : Int) (s : List AV) (g : Bool) (n m mode : Int) (nm : ByteArray) (on off : Int) (K : List AV) (fo : Int) (oo : List AV) (io : Int) (f : Int) (o : List AV) (i : Int) : Prop := 2 * nszL K + 2 ≤ B ∧ NW k a c s g n m mode nm on off K ∧ nszL K ≤ 10000 ∧ 0 ≤ i ∧ i ≤ K.length ∧ Ns o ∧ nszL o + 6 * nszL (K.drop i.toNat) ≤ 6 * nszL K ∧ o.length ≤ nszL o
abbrev mu_Node8_0 (utf : Bool) (most : Int) (k a c : Int) (s : List AV) (g : Bool) (n m mode : Int) (nm : ByteArray) (on off : Int) (K : List AV) (f : Int) (o : List AV) (i : Int) : Nat := (K.length - i).toNat
abbrev out_Node8_0_0 (utf : Bool) (most : Int) (k a c : Int) (s : List AV) (g : Bool) (n m mode : Int) (nm : ByteArray) (on off : Int) (K : List AV) (fo : Int) (oo : List AV) (io : Int) (f : Int) (o : List AV) (i : Int) : Prop := Ns o ∧ nszL o ≤ 6 * nszL K ∧ o.length ≤ nszL o
abbrev pre_Resolve8 (k a c : Int) (s : List AV) (g : Bool) (n m mode : Int) (nm : ByteArray) (on off : Int) (K : List AV) (o : Int) : Prop := NW k a c s g n m mode nm on off K ∧ nszL K ≤ 10000
abbrev post_Resolve8 (k a c : Int) (s : List AV) (g : Bool) (n m mode : Int) (nm : ByteArray) (on off : Int) (K : List AV) (o : Int) (k1 a1 c1 : Int) (s1 : List AV) (g1 : Bool) (n1 m1 mode1 : Int) (nm1 : ByteArray) (on1 off1 : Int) (K1 : List AV) : Prop := NW k1 a1 c1 s1 g1 n1 m1 mode1 nm1 on1 off1 K1 ∧ nszL K1 ≤ 6 * nszL K + 5
abbrev rank_number9 (k a c : Int) (s : List AV) (g : Bool) (n m mode : Int) (nm : ByteArray) (on off : Int) (K : List AV) (last : Int) : Nat := nszL K
abbrev pre_number9 (k a c : Int) (s : List AV) (g : Bool) (n m mode : Int) (nm : ByteArray) (on off : Int) (K : List AV) (last : Int) : Prop := NW k a c s g n m mode nm on off K ∧ nszL K ≤ 100000 ∧ 0 ≤ last ∧ last + nszL K ≤ 1000000
abbrev post_number9 (k a c : Int) (s : List AV) (g : Bool) (n m mode : Int) (nm : ByteArray) (on off : Int) (K : List AV) (last : Int) (k1 a1 c1 : Int) (s1 : List AV) (g1 : Bool) (n1 m1 mode1 : Int) (nm1 : ByteArray) (on1 off1 : Int) (K1 : List AV) (mo : Int) : Prop := NW k1 a1 c1 s1 g1 n1 m1 mode1 nm1 on1 off1 K1 ∧ nszL K1 = nszL K ∧ last ≤ mo ∧ mo ≤ last + nszL K + 1
abbrev inv_number9_0 (B : Nat) (last : Int) (k a c : Int) (s : List AV) (g : Bool) (n m mode : Int) (nm : ByteArray) (on off : Int) (K : List AV) (moo : Int) (ko : List AV) (io : Int) (mo : Int) (ks : List AV) (i : Int) : Prop := nszL K ≤ B ∧ NW k a c s g n m mode nm on off K ∧ nszL K ≤ 100000 ∧ 0 ≤ last ∧ last + nszL K ≤ 1000001 ∧ 0 ≤ i ∧ i ≤ K.length ∧ Ns ks ∧ (ks.length : Int) = i ∧ nszL ks + nszL (K.drop i.toNat) = nszL K ∧ last ≤ mo ∧ mo ≤ last + nszL ks
abbrev mu_number9_0 (last : Int) (k a c : Int) (s : List AV) (g : Bool) (n m mode : Int) (nm : ByteArray) (on off : Int) (K : List AV) (mo : Int) (ks : List AV) (i : Int) : Nat := (K.length - i).toNat
abbrev out_number9_0_0 (last : Int) (k a c : Int) (s : List AV) (g : Bool) (n m mode : Int) (nm : ByteArray) (on off : Int) (K : List AV) (moo : Int) (ko : List AV) (io : Int) (mo : Int) (ks : List AV) (i : Int) : Prop := Ns ks ∧ ks.length = K.length ∧ nszL ks = nszL K ∧ last ≤ mo ∧ mo ≤ last + nszL K
abbrev rank_caps (k a c : Int) (s : List AV) (g : Bool) (n m mode : Int) (nm : ByteArray) (on off : Int) (K : List AV) : Nat := nszL K
abbrev pre_caps (k a c : Int) (s : List AV) (g : Bool) (n m mode : Int) (nm : ByteArray) (on off : Int) (K : List AV) : Prop := NW k a c s g n m mode nm on off K ∧ nszL K ≤ 100000
abbrev post_caps (k a c : Int) (s : List AV) (g : Bool) (n m mode : Int) (nm : ByteArray) (on off : Int) (K : List AV) (l : List AV) : Prop := Ns l ∧ l.length ≤ nszL K + 1
abbrev inv_caps_0 (B : Nat) (k a c : Int) (s : List AV) (g : Bool) (n m mode : Int) (nm : ByteArray) (on off : Int) (K : List AV) (lo : List AV) (io : Int) (l : List AV) (i : Int) : Prop := nszL K ≤ B ∧ NW k a c s g n m mode nm on off K ∧ nszL K ≤ 100000 ∧ 0 ≤ i ∧ i ≤ K.length ∧ Ns l ∧ l.length + nszL (K.drop i.toNat) ≤ nszL K + 1
abbrev mu_caps_0 (k a c : Int) (s : List AV) (g : Bool) (n m mode : Int) (nm : ByteArray) (on off : Int) (K : List AV) (l : List AV) (i : Int) : Nat := (K.length - i).toNat
abbrev out_caps_0_0 (k a c : Int) (s : List AV) (g : Bool) (n m mode : Int) (nm : ByteArray) (on off : Int) (K : List AV) (lo : List AV) (io : Int) (l : List AV) (i : Int) : Prop := Ns l ∧ l.length ≤ nszL K + 1
abbrev pre_Number (k a c : Int) (s : List AV) (g : Bool) (n m mode : Int) (nm : ByteArray) (on off : Int) (K : List AV) : Prop := NW k a c s g n m mode nm on off K ∧ nszL K ≤ 100000
abbrev post_Number (k a c : Int) (s : List AV) (g : Bool) (n m mode : Int) (nm : ByteArray) (on off : Int) (K : List AV) (k1 a1 c1 : Int) (s1 : List AV) (g1 : Bool) (n1 m1 mode1 : Int) (nm1 : ByteArray) (on1 off1 : Int) (K1 : List AV) (mo : Int) (N : List AV) (e at' : Int) : Prop := (e = 0 → NW k1 a1 c1 s1 g1 n1 m1 mode1 nm1 on1 off1 K1 ∧ nszL K1 ≤ 100000) ∧ Nm N ∧ N.length ≤ 200000
abbrev inv_Number_0 (k a c : Int) (s : List AV) (g : Bool) (n m mode : Int) (nm : ByteArray) (on off : Int) (K : List AV) (mo : Int) (l : List AV) (no : List AV) (io : Int) (N : List AV) (i : Int) : Prop := NW k a c s g n m mode nm on off K ∧ nszL K ≤ 100000 ∧ Ns l ∧ l.length ≤ 100001 ∧ Nm N ∧ N.length ≤ i ∧ 0 ≤ i ∧ i ≤ l.length
abbrev mu_Number_0 (k a c : Int) (s : List AV) (g : Bool) (n m mode : Int) (nm : ByteArray) (on off : Int) (K : List AV) (mo : Int) (l : List AV) (N : List AV) (i : Int) : Nat := (l.length - i).toNat
abbrev out_Number_0_0 (k a c : Int) (s : List AV) (g : Bool) (n m mode : Int) (nm : ByteArray) (on off : Int) (K : List AV) (mo : Int) (l : List AV) (no : List AV) (io : Int) (e at' : Int) : Prop := e ≠ 0
abbrev out_Number_0_1 (k a c : Int) (s : List AV) (g : Bool) (n m mode : Int) (nm : ByteArray) (on off : Int) (K : List AV) (mo : Int) (l : List AV) (no : List AV) (io : Int) (N : List AV) (i : Int) : Prop := Nm N ∧ N.length ≤ 100001
abbrev inv_Number_1 (k a c : Int) (s : List AV) (g : Bool) (n m mode : Int) (nm : ByteArray) (on off : Int) (K : List AV) (mo : Int) (l : List AV) (N : List AV) (i : Int) (bo : Bool) (ko : Int) (b : Bool) (k' : Int) : Prop := Ns l ∧ 0 ≤ i ∧ i < l.length ∧ Nm N ∧ N.length ≤ 100001 ∧ 0 ≤ k' ∧ k' ≤ N.length
abbrev mu_Number_1 (k a c : Int) (s : List AV) (g : Bool) (n m mode : Int) (nm : ByteArray) (on off : Int) (K : List AV) (mo : Int) (l : List AV) (N : List AV) (i : Int) (b : Bool) (k' : Int) : Nat := (N.length - k').toNat
abbrev out_Number_1_0 (k a c : Int) (s : List AV) (g : Bool) (n m mode : Int) (nm : ByteArray) (on off : Int) (K : List AV) (mo : Int) (l : List AV) (N : List AV) (i : Int) (bo : Bool) (ko : Int) (y : Int) : Prop := True
abbrev out_Number_1_1 (k a c : Int) (s : List AV) (g : Bool) (n m mode : Int) (nm : ByteArray) (on off : Int) (K : List AV) (mo : Int) (l : List AV) (N : List AV) (i : Int) (bo : Bool) (ko : Int) (b : Bool) (y : Int) : Prop := True
abbrev pre_meant (m k : Int) (nm : ByteArray) (last cnt : Int) (N : List AV) (E At : Int) : Prop := Nm N ∧ N.length ≤ 200000
abbrev post_meant (m k : Int) (nm : ByteArray) (last cnt : Int) (N : List AV) (E At : Int) (r : Int) : Prop := True
abbrev inv_meant_0 (nm : ByteArray) (cnt : Int) (N : List AV) (E At : Int) (io i : Int) : Prop := Nm N ∧ N.length ≤ 200000 ∧ 0 ≤ i ∧ i ≤ N.length
abbrev mu_meant_0 (nm : ByteArray) (cnt : Int) (N : List AV) (E At : Int) (i : Int) : Nat := (N.length - i).toNat
abbrev out_meant_0_0 (nm : ByteArray) (cnt : Int) (N : List AV) (E At : Int) (io y : Int) : Prop := True
abbrev out_meant_0_1 (nm : ByteArray) (cnt : Int) (N : List AV) (E At : Int) (io y : Int) : Prop := True
abbrev pre_need (k least at' cnt : Int) (N : List AV) (E At : Int) : Prop := True
abbrev post_need (k least at' cnt : Int) (N : List AV) (E At E1 At1 : Int) : Prop := True
abbrev rank_node10 (k a c : Int) (s : List AV) (g : Bool) (n m mode : Int) (nm : ByteArray) (on off : Int) (K : List AV) (last cnt : Int) (N : List AV) (E At : Int) : Nat := nszL K
abbrev pre_node10 (k a c : Int) (s : List AV) (g : Bool) (n m mode : Int) (nm : ByteArray) (on off : Int) (K : List AV) (last cnt : Int) (N : List AV) (E At : Int) : Prop := NW k a c s g n m mode nm on off K ∧ nszL K ≤ 100000 ∧ Nm N ∧ N.length ≤ 200000
abbrev post_node10 (k a c : Int) (s : List AV) (g : Bool) (n m mode : Int) (nm : ByteArray) (on off : Int) (K : List AV) (last cnt : Int) (N : List AV) (E At : Int) (k1 a1 c1 : Int) (s1 : List AV) (g1 : Bool) (n1 m1 mode1 : Int) (nm1 : ByteArray) (on1 off1 : Int) (K1 : List AV) (mo E1 At1 : Int) : Prop := NW k1 a1 c1 s1 g1 n1 m1 mode1 nm1 on1 off1 K1 ∧ nszL K1 = nszL K
abbrev inv_node10_0 (B : Nat) (last : Int) (k a c : Int) (s : List AV) (g : Bool) (n m mode : Int) (nm : ByteArray) (on off : Int) (K : List AV) (cnt : Int) (N : List AV) (moo : Int) (ko : List AV) (io Eo Ato : Int) (mo : Int) (ks : List AV) (i E At : Int) : Prop := nszL K ≤ B ∧ NW k a c s g n m mode nm on off K ∧ nszL K ≤ 100000 ∧ Nm N ∧ N.length ≤ 200000 ∧ 0 ≤ i ∧ i ≤ K.length ∧ Ns ks ∧ (ks.length : Int) = i ∧ nszL ks + nszL (K.drop i.toNat) = nszL K
abbrev mu_node10_0 (last : Int) (k a c : Int) (s : List AV) (g : Bool) (n m mode : Int) (nm : ByteArray) (on off : Int) (K : List AV) (cnt : Int) (N : List AV) (mo : Int) (ks : List AV) (i E At : Int) : Nat := (K.length - i).toNat
abbrev out_node10_0_0 (last : Int) (k a c : Int) (s : List AV) (g : Bool) (n m mode : Int) (nm : ByteArray) (on off : Int) (K : List AV) (cnt : Int) (N : List AV) (moo : Int) (ko : List AV) (io Eo Ato : Int) (mo : Int) (ks : List AV) (i E At : Int) : Prop := Ns ks ∧ ks.length = K.length ∧ nszL ks = nszL K
abbrev pre_Resolve10 (k a c : Int) (s : List AV) (g : Bool) (n m mode : Int) (nm : ByteArray) (on off : Int) (K : List AV) (cnt : Int) (N : List AV) : Prop := NW k a c s g n m mode nm on off K ∧ nszL K ≤ 100000 ∧ Nm N ∧ N.length ≤ 200000
abbrev post_Resolve10 (k a c : Int) (s : List AV) (g : Bool) (n m mode : Int) (nm : ByteArray) (on off : Int) (K : List AV) (cnt : Int) (N : List AV) (k1 a1 c1 : Int) (s1 : List AV) (g1 : Bool) (n1 m1 mode1 : Int) (nm1 : ByteArray) (on1 off1 : Int) (K1 : List AV) (e at' : Int) : Prop := e = 0 → NW k1 a1 c1 s1 g1 n1 m1 mode1 nm1 on1 off1 K1 ∧ nszL K1 ≤ 100000
abbrev pre_resolved (b : List AV) (o : Int) : Prop := Bs b ∧ b.length ≤ 9223372036854775807
abbrev post_resolved (b : List AV) (o : Int) (k1 a1 c1 : Int) (s1 : List AV) (g1 : Bool) (n1 m1 mode1 : Int) (nm1 : ByteArray) (on1 off1 : Int) (K1 : List AV) (ok : Bool) : Prop := ok = true → NW k1 a1 c1 s1 g1 n1 m1 mode1 nm1 on1 off1 K1 ∧ nszL K1 ≤ 100000
end Go.Proofs.YtcjcdammcmjbnaaGreat.U
