/- Blocks: walks of the program's functions, each told by what is asked and what comes back; they hold as they stand. -/
import Derived.Test.YtcjcdammcmjbnaaFeC
import Derived.Test.YtcjcdammcmjbnaaFeB1
namespace Go.Proofs.Ytcjcdammcmjbnaa.U
open Go Go.Vai
set_option linter.unusedVariables false
set_option linter.unusedSimpArgs false
set_option maxRecDepth 100000
set_option maxHeartbeats 8000000
attribute [local irreducible] IntKind.wrap Rs Is Bs Ws Ts Ns Nf kindOf shapeN nszL
noncomputable section
theorem zb2x0 {p : Prop} (h : p := by first | exact GotL.mk SetR.nil fun _=>⟨by omega,by omega,SetR.nil,fun h=>by omega,fun _ _=>lookB_of (i := x5) (by omega) (by omega) (by rw [show w6 (x4 + 2) = x4 + 2 from tW _]; assumption) (by grind)⟩ | exact tP) : p := h
theorem zb2x1 {p : Prop} (h : p := by unfold mu_flagsO_0; exact tI) : p := h
theorem zb2x2 {p : Prop} (h : p := by (try dsimp only); refine ⟨tP,tP,tP,tP,tP,tP,?_⟩; first | exact TCi.nil | (refine TCi.skip hi_6 (fun hl hq=>?_); first | (refine lookB_noQ (i := x5) ?_ ?_ hl <;> first | omega | grind) | (have hk := p15_2 hl; simp_all; done) | (exfalso; simp_all; done)) | (refine TCi.push hi_6 (fun hl hq=>?_) (fun hc=>?_); all_goals first | exact isO_of (p15_2 hl).1 (p15_2 hl).2.1 | exact ⟨h11,p15_1c_4 (isC_of hc).1 (isC_of hc).2⟩ | (have hc := isC_of hc; omega) | (exfalso; simp_all; done))) : p := h
theorem zb2x3 {p : Prop} (h : p := by unfold mu_Lex_0; exact tI) : p := h
abbrev E_referO (x0 : ByteArray) (x1 x2 : Bool) (x3 x4 x5 : Int) : Prop := ∃ l,post_referO x0 x1 x2 x3 x4 x5 l ∧ A 72 [(.agg [(sv x0),(bv x1),(bv x2),(iv x3)]),(iv x4),(iv x5)] [] (.agg l) []
abbrev j_referO (nn : Nat) (x0 : ByteArray) (x1 x2 : Bool) (x3 x4 x5 : Int) (kK : Int → Int → Int → Int → List AV → Bool → Int → Int → Int → ByteArray → Int → Int → Bool → Int → Int → Int → HC) : HC := ⟨.ev nn (.ask (eG fun x6 x7 x8 x9 x10 x11 x12 x13 x14 x15 x16 x17 x18 x19 x20 x21=>.done (.res (.agg (gR x6 x7 x8 x9 x10 x11 x12 x13 x14 x15 x16 x17 x18 x19 x20 x21)) [] (post_referO x0 x1 x2 x3 x4 x5 (gR x6 x7 x8 x9 x10 x11 x12 x13 x14 x15 x16 x17 x18 x19 x20 x21))) ((kK x6 x7 x8 x9 x10 x11 x12 x13 x14 x15 x16 x17 x18 x19 x20 x21).h))),(∃ x6 x7 x8 x9 x10 x11 x12 x13 x14 x15 x16 x17 x18 x19 x20 x21,post_referO x0 x1 x2 x3 x4 x5 (gR x6 x7 x8 x9 x10 x11 x12 x13 x14 x15 x16 x17 x18 x19 x20 x21) ∧ A 72 [(.agg [(sv x0),(bv x1),(bv x2),(iv x3)]),(iv x4),(iv x5)] [] (.agg (gR x6 x7 x8 x9 x10 x11 x12 x13 x14 x15 x16 x17 x18 x19 x20 x21)) []) ∧ (∀ x6 x7 x8 x9 x10 x11 x12 x13 x14 x15 x16 x17 x18 x19 x20 x21,post_referO x0 x1 x2 x3 x4 x5 (gR x6 x7 x8 x9 x10 x11 x12 x13 x14 x15 x16 x17 x18 x19 x20 x21) → (kK x6 x7 x8 x9 x10 x11 x12 x13 x14 x15 x16 x17 x18 x19 x20 x21).p)⟩
abbrev t_referO (x0 : ByteArray) (x1 x2 : Bool) (x3 x4 x5 : Int) (Q : AV → HH → Prop) : HC := (j_is 1 x0 x1 x2 x3 x5 (bs [123]) fun x6=>(dd 0 x6 (j_is 1 x0 x1 x2 x3 x5 (bs [60]) fun x7=>(dd 0 x7 (j_is 1 x0 x1 x2 x3 x5 (bs [39]) fun x8=>(dd 0 x8 (j_signed 2 x0 x1 x2 x3 (w6 (x5 + 1)) fun x9 x10 x11 x12=>(dd 0 x12 (qq 4 Q (.agg (gZ 0 25 x4))) (dd 1 ((decide (x11 > w6 (x5 + 1)))) (j_is 1 x0 x1 x2 x3 x11 (bs [39]) fun x13=>(dd 1 ((!x13)) (qq 4 Q (.agg (gZ 0 21 x4))) (dd 1 ((x9 == 0)) (dd 9 ((!x10 == 0)) (qq 4 Q (.agg (gZ 0 25 x4))) (qq 5 Q (.agg (gR 12 x4 (w6 (x11 + 1)) 0 [] false x9 x10 0 (bs []) 0 0 true (w6 (x11 + 1)) 0 0)))) (qq 10 Q (.agg (gR 12 x4 (w6 (x11 + 1)) 0 [] false x9 x10 0 (bs []) 0 0 true (w6 (x11 + 1)) 0 0)))))) (j_name 1 x0 x1 x2 x3 (w6 (x5 + 1)) fun x14 x15 x16=>(dd 5 ((!x16)) (qq 10 Q (.agg (gZ 0 21 x4))) (j_is 4 x0 x1 x2 x3 x15 (bs [39]) fun x17=>(dd 3 ((!x17)) (qq 4 Q (.agg (gZ 0 21 x4))) (qq 5 Q (.agg (gR 12 x4 (w6 (x15 + 1)) 0 [] false 0 3 0 x14 0 0 true (w6 (x15 + 1)) 0 0)))))))))) (j_signed 2 x0 x1 x2 x3 (w6 (x5 + 1)) fun x18 x19 x20 x21=>(dd 0 x21 (qq 4 Q (.agg (gZ 0 25 x4))) (dd 1 ((decide (x20 > w6 (x5 + 1)))) (j_is 1 x0 x1 x2 x3 x20 (bs [62]) fun x22=>(dd 1 ((!x22)) (qq 4 Q (.agg (gZ 0 21 x4))) (dd 1 ((x18 == 0)) (dd 9 ((!x19 == 0)) (qq 4 Q (.agg (gZ 0 25 x4))) (qq 5 Q (.agg (gR 12 x4 (w6 (x20 + 1)) 0 [] false x18 x19 0 (bs []) 0 0 true (w6 (x20 + 1)) 0 0)))) (qq 10 Q (.agg (gR 12 x4 (w6 (x20 + 1)) 0 [] false x18 x19 0 (bs []) 0 0 true (w6 (x20 + 1)) 0 0)))))) (j_name 1 x0 x1 x2 x3 (w6 (x5 + 1)) fun x23 x24 x25=>(dd 5 ((!x25)) (qq 10 Q (.agg (gZ 0 21 x4))) (j_is 4 x0 x1 x2 x3 x24 (bs [62]) fun x26=>(dd 3 ((!x26)) (qq 4 Q (.agg (gZ 0 21 x4))) (qq 5 Q (.agg (gR 12 x4 (w6 (x24 + 1)) 0 [] false 0 3 0 x23 0 0 true (w6 (x24 + 1)) 0 0)))))))))))) (j_is 1 x0 x1 x2 x3 x5 (bs [39]) fun x27=>(dd 0 x27 (j_signed 2 x0 x1 x2 x3 (w6 (x5 + 1)) fun x28 x29 x30 x31=>(dd 0 x31 (qq 4 Q (.agg (gZ 0 25 x4))) (dd 1 ((decide (x30 > w6 (x5 + 1)))) (j_is 1 x0 x1 x2 x3 x30 (bs [39]) fun x32=>(dd 1 ((!x32)) (qq 4 Q (.agg (gZ 0 21 x4))) (dd 1 ((x28 == 0)) (dd 9 ((!x29 == 0)) (qq 4 Q (.agg (gZ 0 25 x4))) (qq 5 Q (.agg (gR 12 x4 (w6 (x30 + 1)) 0 [] false x28 x29 0 (bs []) 0 0 true (w6 (x30 + 1)) 0 0)))) (qq 10 Q (.agg (gR 12 x4 (w6 (x30 + 1)) 0 [] false x28 x29 0 (bs []) 0 0 true (w6 (x30 + 1)) 0 0)))))) (j_name 1 x0 x1 x2 x3 (w6 (x5 + 1)) fun x33 x34 x35=>(dd 5 ((!x35)) (qq 10 Q (.agg (gZ 0 21 x4))) (j_is 4 x0 x1 x2 x3 x34 (bs [39]) fun x36=>(dd 3 ((!x36)) (qq 4 Q (.agg (gZ 0 21 x4))) (qq 5 Q (.agg (gR 12 x4 (w6 (x34 + 1)) 0 [] false 0 3 0 x33 0 0 true (w6 (x34 + 1)) 0 0)))))))))) (j_signed 2 x0 x1 x2 x3 (w6 (x5 + 1)) fun x37 x38 x39 x40=>(dd 0 x40 (qq 4 Q (.agg (gZ 0 25 x4))) (dd 1 ((decide (x39 > w6 (x5 + 1)))) (j_is 1 x0 x1 x2 x3 x39 (bs [125]) fun x41=>(dd 1 ((!x41)) (qq 4 Q (.agg (gZ 0 21 x4))) (dd 1 ((x37 == 0)) (qq 13 Q (.agg (gZ 0 25 x4))) (qq 10 Q (.agg (gR 11 x4 (w6 (x39 + 1)) 0 [] false x37 x38 0 (bs []) 0 0 true (w6 (x39 + 1)) 0 0)))))) (j_name 1 x0 x1 x2 x3 (w6 (x5 + 1)) fun x42 x43 x44=>(dd 5 ((!x44)) (qq 10 Q (.agg (gZ 0 21 x4))) (j_is 4 x0 x1 x2 x3 x43 (bs [125]) fun x45=>(dd 3 ((!x45)) (qq 4 Q (.agg (gZ 0 21 x4))) (qq 5 Q (.agg (gR 11 x4 (w6 (x43 + 1)) 0 [] false 0 3 0 x42 0 0 true (w6 (x43 + 1)) 0 0)))))))))))))) (j_is 1 x0 x1 x2 x3 x5 (bs [60]) fun x46=>(dd 0 x46 (j_is 1 x0 x1 x2 x3 x5 (bs [39]) fun x47=>(dd 0 x47 (j_signed 2 x0 x1 x2 x3 (w6 (x5 + 1)) fun x48 x49 x50 x51=>(dd 0 x51 (qq 4 Q (.agg (gZ 0 25 x4))) (dd 1 ((decide (x50 > w6 (x5 + 1)))) (j_is 1 x0 x1 x2 x3 x50 (bs [39]) fun x52=>(dd 1 ((!x52)) (qq 4 Q (.agg (gZ 0 21 x4))) (dd 1 ((x48 == 0)) (dd 9 ((!x49 == 0)) (qq 4 Q (.agg (gZ 0 25 x4))) (qq 5 Q (.agg (gR 12 x4 (w6 (x50 + 1)) 0 [] false x48 x49 0 (bs []) 0 0 true (w6 (x50 + 1)) 0 0)))) (qq 10 Q (.agg (gR 12 x4 (w6 (x50 + 1)) 0 [] false x48 x49 0 (bs []) 0 0 true (w6 (x50 + 1)) 0 0)))))) (j_name 1 x0 x1 x2 x3 (w6 (x5 + 1)) fun x53 x54 x55=>(dd 5 ((!x55)) (qq 10 Q (.agg (gZ 0 21 x4))) (j_is 4 x0 x1 x2 x3 x54 (bs [39]) fun x56=>(dd 3 ((!x56)) (qq 4 Q (.agg (gZ 0 21 x4))) (qq 5 Q (.agg (gR 12 x4 (w6 (x54 + 1)) 0 [] false 0 3 0 x53 0 0 true (w6 (x54 + 1)) 0 0)))))))))) (j_signed 2 x0 x1 x2 x3 (w6 (x5 + 1)) fun x57 x58 x59 x60=>(dd 0 x60 (qq 4 Q (.agg (gZ 0 25 x4))) (dd 1 ((decide (x59 > w6 (x5 + 1)))) (j_is 1 x0 x1 x2 x3 x59 (bs [62]) fun x61=>(dd 1 ((!x61)) (qq 4 Q (.agg (gZ 0 21 x4))) (dd 1 ((x57 == 0)) (dd 9 ((!x58 == 0)) (qq 4 Q (.agg (gZ 0 25 x4))) (qq 5 Q (.agg (gR 12 x4 (w6 (x59 + 1)) 0 [] false x57 x58 0 (bs []) 0 0 true (w6 (x59 + 1)) 0 0)))) (qq 10 Q (.agg (gR 12 x4 (w6 (x59 + 1)) 0 [] false x57 x58 0 (bs []) 0 0 true (w6 (x59 + 1)) 0 0)))))) (j_name 1 x0 x1 x2 x3 (w6 (x5 + 1)) fun x62 x63 x64=>(dd 5 ((!x64)) (qq 10 Q (.agg (gZ 0 21 x4))) (j_is 4 x0 x1 x2 x3 x63 (bs [62]) fun x65=>(dd 3 ((!x65)) (qq 4 Q (.agg (gZ 0 21 x4))) (qq 5 Q (.agg (gR 12 x4 (w6 (x63 + 1)) 0 [] false 0 3 0 x62 0 0 true (w6 (x63 + 1)) 0 0)))))))))))) (j_is 1 x0 x1 x2 x3 x5 (bs [39]) fun x66=>(dd 0 x66 (j_signed 2 x0 x1 x2 x3 (w6 (x5 + 1)) fun x67 x68 x69 x70=>(dd 0 x70 (qq 4 Q (.agg (gZ 0 25 x4))) (dd 1 ((decide (x69 > w6 (x5 + 1)))) (j_is 1 x0 x1 x2 x3 x69 (bs [39]) fun x71=>(dd 1 ((!x71)) (qq 4 Q (.agg (gZ 0 21 x4))) (dd 1 ((x67 == 0)) (dd 9 ((!x68 == 0)) (qq 4 Q (.agg (gZ 0 25 x4))) (qq 5 Q (.agg (gR 12 x4 (w6 (x69 + 1)) 0 [] false x67 x68 0 (bs []) 0 0 true (w6 (x69 + 1)) 0 0)))) (qq 10 Q (.agg (gR 12 x4 (w6 (x69 + 1)) 0 [] false x67 x68 0 (bs []) 0 0 true (w6 (x69 + 1)) 0 0)))))) (j_name 1 x0 x1 x2 x3 (w6 (x5 + 1)) fun x72 x73 x74=>(dd 5 ((!x74)) (qq 10 Q (.agg (gZ 0 21 x4))) (j_is 4 x0 x1 x2 x3 x73 (bs [39]) fun x75=>(dd 3 ((!x75)) (qq 4 Q (.agg (gZ 0 21 x4))) (qq 5 Q (.agg (gR 12 x4 (w6 (x73 + 1)) 0 [] false 0 3 0 x72 0 0 true (w6 (x73 + 1)) 0 0)))))))))) (j_signed 2 x0 x1 x2 x3 (w6 (x5 + 0)) fun x76 x77 x78 x79=>(dd 0 x79 (qq 4 Q (.agg (gZ 0 25 x4))) (dd 1 ((decide (x78 > w6 (x5 + 0)))) (j_is 1 x0 x1 x2 x3 x78 (bs []) fun x80=>(dd 1 ((!x80)) (qq 4 Q (.agg (gZ 0 21 x4))) (dd 1 ((x76 == 0)) (qq 13 Q (.agg (gZ 0 25 x4))) (qq 10 Q (.agg (gR 11 x4 (w6 (x78 + 0)) 0 [] false x76 x77 0 (bs []) 0 0 true (w6 (x78 + 0)) 0 0)))))) (j_name 1 x0 x1 x2 x3 (w6 (x5 + 0)) fun x81 x82 x83=>(qq 15 Q (.agg (gZ 0 21 x4)))))))))))))
theorem w_referO (x0 x1 x2 x3 x4 x5) (Q : AV → HH → Prop) (h : (t_referO x0 x1 x2 x3 x4 x5 Q).p) : ∃ r H',A 72 [(.agg [(sv x0),(bv x1),(bv x2),(iv x3)]),(iv x4),(iv x5)] [] r H' ∧ Q r H' :=
 Ans.wq rfl (t_referO x0 x1 x2 x3 x4 x5 Q).h (by kernel_rfl) h
theorem c_referO (x0 x1 x2 x3 x4 x5) (hp : pre_referO x0 x1 x2 x3 x4 x5) : E_referO x0 x1 x2 x3 x4 x5 := by
 obtain ⟨_,_,ha,_,hq,rfl,rfl⟩ := w_referO x0 x1 x2 x3 x4 x5 (fun r H'=>∃ x6,post_referO x0 x1 x2 x3 x4 x5 x6 ∧ r = (.agg x6) ∧ H' = []) (by
  obtain ⟨⟨_,_,_⟩,_,_⟩ := hp
  refine ⟨c_is tP,fun _ p8=>?_⟩
  obtain ⟨p8_0,p8_1⟩ := p8
  try replace p8_0 := nz p8_0
  try replace p8_1 := nz p8_1
  apply bS <;> intro h9
  ·have p8_0c := p8_0 h9
   refine ⟨c_is tP,fun _ p11=>?_⟩
   obtain ⟨p11_0,p11_1⟩ := p11
   try replace p11_0 := nz p11_0
   try replace p11_1 := nz p11_1
   apply bS <;> intro h12
   ·have p11_0c := p11_0 h12
    refine ⟨c_is tP,fun _ p14=>?_⟩
    obtain ⟨p14_0,p14_1⟩ := p14
    try replace p14_0 := nz p14_0
    try replace p14_1 := nz p14_1
    apply bS <;> intro h15
    ·have p14_0c := p14_0 h15
     try have := tW (x5 + 1)
     refine ⟨c_signed tP,fun _ _ x18 _ p20=>?_⟩
     obtain ⟨_,_⟩ := p20
     refine bS (fun _=>⟨_,tP,rfl,rfl⟩) fun _=>?_
     apply bS <;> intro _
     ·refine ⟨c_is tP,fun _ p24=>?_⟩
      obtain ⟨p24_0,p24_1⟩ := p24
      try replace p24_0 := nz p24_0
      try replace p24_1 := nz p24_1
      refine bS (fun h25=>⟨_,tP,rfl,rfl⟩) fun h25=>?_
      have p24_0c := p24_0 h25
      apply bS <;> intro _
      ·refine bS (fun _=>⟨_,tP,rfl,rfl⟩) fun _=>?_
       try have := tW (x18 + 1)
       exact ⟨_,tP,rfl,rfl⟩
      try have := tW (x18 + 1)
      exact ⟨_,tP,rfl,rfl⟩
     refine ⟨c_name tP,fun _ x29 _ p31=>?_⟩
     obtain ⟨_,_,_,p31_3⟩ := p31
     refine bS (fun h32=>⟨_,tP,rfl,rfl⟩) fun h32=>?_
     have p31_3c := p31_3 h32
     refine ⟨c_is tP,fun _ p34=>?_⟩
     obtain ⟨p34_0,p34_1⟩ := p34
     try replace p34_0 := nz p34_0
     try replace p34_1 := nz p34_1
     refine bS (fun h35=>⟨_,tP,rfl,rfl⟩) fun h35=>?_
     have p34_0c := p34_0 h35
     try have := tW (x29 + 1)
     exact ⟨_,tP,rfl,rfl⟩
    try have := tW (x5 + 1)
    refine ⟨c_signed tP,fun _ _ x38 _ p40=>?_⟩
    obtain ⟨_,_⟩ := p40
    refine bS (fun _=>⟨_,tP,rfl,rfl⟩) fun _=>?_
    apply bS <;> intro _
    ·refine ⟨c_is tP,fun _ p44=>?_⟩
     obtain ⟨p44_0,p44_1⟩ := p44
     try replace p44_0 := nz p44_0
     try replace p44_1 := nz p44_1
     refine bS (fun h45=>⟨_,tP,rfl,rfl⟩) fun h45=>?_
     have p44_0c := p44_0 h45
     apply bS <;> intro _
     ·refine bS (fun _=>⟨_,tP,rfl,rfl⟩) fun _=>?_
      try have := tW (x38 + 1)
      exact ⟨_,tP,rfl,rfl⟩
     try have := tW (x38 + 1)
     exact ⟨_,tP,rfl,rfl⟩
    refine ⟨c_name tP,fun _ x49 _ p51=>?_⟩
    obtain ⟨_,_,_,p51_3⟩ := p51
    refine bS (fun h52=>⟨_,tP,rfl,rfl⟩) fun h52=>?_
    have p51_3c := p51_3 h52
    refine ⟨c_is tP,fun _ p54=>?_⟩
    obtain ⟨p54_0,p54_1⟩ := p54
    try replace p54_0 := nz p54_0
    try replace p54_1 := nz p54_1
    refine bS (fun h55=>⟨_,tP,rfl,rfl⟩) fun h55=>?_
    have p54_0c := p54_0 h55
    try have := tW (x49 + 1)
    exact ⟨_,tP,rfl,rfl⟩
   refine ⟨c_is tP,fun _ p57=>?_⟩
   obtain ⟨p57_0,p57_1⟩ := p57
   try replace p57_0 := nz p57_0
   try replace p57_1 := nz p57_1
   apply bS <;> intro h58
   ·have p57_0c := p57_0 h58
    try have := tW (x5 + 1)
    refine ⟨c_signed tP,fun _ _ x61 _ p63=>?_⟩
    obtain ⟨_,_⟩ := p63
    refine bS (fun _=>⟨_,tP,rfl,rfl⟩) fun _=>?_
    apply bS <;> intro _
    ·refine ⟨c_is tP,fun _ p67=>?_⟩
     obtain ⟨p67_0,p67_1⟩ := p67
     try replace p67_0 := nz p67_0
     try replace p67_1 := nz p67_1
     refine bS (fun h68=>⟨_,tP,rfl,rfl⟩) fun h68=>?_
     have p67_0c := p67_0 h68
     apply bS <;> intro _
     ·refine bS (fun _=>⟨_,tP,rfl,rfl⟩) fun _=>?_
      try have := tW (x61 + 1)
      exact ⟨_,tP,rfl,rfl⟩
     try have := tW (x61 + 1)
     exact ⟨_,tP,rfl,rfl⟩
    refine ⟨c_name tP,fun _ x72 _ p74=>?_⟩
    obtain ⟨_,_,_,p74_3⟩ := p74
    refine bS (fun h75=>⟨_,tP,rfl,rfl⟩) fun h75=>?_
    have p74_3c := p74_3 h75
    refine ⟨c_is tP,fun _ p77=>?_⟩
    obtain ⟨p77_0,p77_1⟩ := p77
    try replace p77_0 := nz p77_0
    try replace p77_1 := nz p77_1
    refine bS (fun h78=>⟨_,tP,rfl,rfl⟩) fun h78=>?_
    have p77_0c := p77_0 h78
    try have := tW (x72 + 1)
    exact ⟨_,tP,rfl,rfl⟩
   try have := tW (x5 + 1)
   refine ⟨c_signed tP,fun _ _ x81 _ p83=>?_⟩
   obtain ⟨_,_⟩ := p83
   refine bS (fun _=>⟨_,tP,rfl,rfl⟩) fun _=>?_
   apply bS <;> intro _
   ·refine ⟨c_is tP,fun _ p87=>?_⟩
    obtain ⟨p87_0,p87_1⟩ := p87
    try replace p87_0 := nz p87_0
    try replace p87_1 := nz p87_1
    refine bS (fun h88=>⟨_,tP,rfl,rfl⟩) fun h88=>?_
    have p87_0c := p87_0 h88
    refine bS (fun _=>⟨_,tP,rfl,rfl⟩) fun _=>?_
    try have := tW (x81 + 1)
    exact ⟨_,tP,rfl,rfl⟩
   refine ⟨c_name tP,fun _ x91 _ p93=>?_⟩
   obtain ⟨_,_,_,p93_3⟩ := p93
   refine bS (fun h94=>⟨_,tP,rfl,rfl⟩) fun h94=>?_
   have p93_3c := p93_3 h94
   refine ⟨c_is tP,fun _ p96=>?_⟩
   obtain ⟨p96_0,p96_1⟩ := p96
   try replace p96_0 := nz p96_0
   try replace p96_1 := nz p96_1
   refine bS (fun h97=>⟨_,tP,rfl,rfl⟩) fun h97=>?_
   have p96_0c := p96_0 h97
   try have := tW (x91 + 1)
   exact ⟨_,tP,rfl,rfl⟩
  refine ⟨c_is tP,fun _ p99=>?_⟩
  obtain ⟨p99_0,p99_1⟩ := p99
  try replace p99_0 := nz p99_0
  try replace p99_1 := nz p99_1
  apply bS <;> intro h100
  ·have p99_0c := p99_0 h100
   refine ⟨c_is tP,fun _ p102=>?_⟩
   obtain ⟨p102_0,p102_1⟩ := p102
   try replace p102_0 := nz p102_0
   try replace p102_1 := nz p102_1
   apply bS <;> intro h103
   ·have p102_0c := p102_0 h103
    try have := tW (x5 + 1)
    refine ⟨c_signed tP,fun _ _ x106 _ p108=>?_⟩
    obtain ⟨_,_⟩ := p108
    refine bS (fun _=>⟨_,tP,rfl,rfl⟩) fun _=>?_
    apply bS <;> intro _
    ·refine ⟨c_is tP,fun _ p112=>?_⟩
     obtain ⟨p112_0,p112_1⟩ := p112
     try replace p112_0 := nz p112_0
     try replace p112_1 := nz p112_1
     refine bS (fun h113=>⟨_,tP,rfl,rfl⟩) fun h113=>?_
     have p112_0c := p112_0 h113
     apply bS <;> intro _
     ·refine bS (fun _=>⟨_,tP,rfl,rfl⟩) fun _=>?_
      try have := tW (x106 + 1)
      exact ⟨_,tP,rfl,rfl⟩
     try have := tW (x106 + 1)
     exact ⟨_,tP,rfl,rfl⟩
    refine ⟨c_name tP,fun _ x117 _ p119=>?_⟩
    obtain ⟨_,_,_,p119_3⟩ := p119
    refine bS (fun h120=>⟨_,tP,rfl,rfl⟩) fun h120=>?_
    have p119_3c := p119_3 h120
    refine ⟨c_is tP,fun _ p122=>?_⟩
    obtain ⟨p122_0,p122_1⟩ := p122
    try replace p122_0 := nz p122_0
    try replace p122_1 := nz p122_1
    refine bS (fun h123=>⟨_,tP,rfl,rfl⟩) fun h123=>?_
    have p122_0c := p122_0 h123
    try have := tW (x117 + 1)
    exact ⟨_,tP,rfl,rfl⟩
   try have := tW (x5 + 1)
   refine ⟨c_signed tP,fun _ _ x126 _ p128=>?_⟩
   obtain ⟨_,_⟩ := p128
   refine bS (fun _=>⟨_,tP,rfl,rfl⟩) fun _=>?_
   apply bS <;> intro _
   ·refine ⟨c_is tP,fun _ p132=>?_⟩
    obtain ⟨p132_0,p132_1⟩ := p132
    try replace p132_0 := nz p132_0
    try replace p132_1 := nz p132_1
    refine bS (fun h133=>⟨_,tP,rfl,rfl⟩) fun h133=>?_
    have p132_0c := p132_0 h133
    apply bS <;> intro _
    ·refine bS (fun _=>⟨_,tP,rfl,rfl⟩) fun _=>?_
     try have := tW (x126 + 1)
     exact ⟨_,tP,rfl,rfl⟩
    try have := tW (x126 + 1)
    exact ⟨_,tP,rfl,rfl⟩
   refine ⟨c_name tP,fun _ x137 _ p139=>?_⟩
   obtain ⟨_,_,_,p139_3⟩ := p139
   refine bS (fun h140=>⟨_,tP,rfl,rfl⟩) fun h140=>?_
   have p139_3c := p139_3 h140
   refine ⟨c_is tP,fun _ p142=>?_⟩
   obtain ⟨p142_0,p142_1⟩ := p142
   try replace p142_0 := nz p142_0
   try replace p142_1 := nz p142_1
   refine bS (fun h143=>⟨_,tP,rfl,rfl⟩) fun h143=>?_
   have p142_0c := p142_0 h143
   try have := tW (x137 + 1)
   exact ⟨_,tP,rfl,rfl⟩
  refine ⟨c_is tP,fun _ p145=>?_⟩
  obtain ⟨p145_0,p145_1⟩ := p145
  try replace p145_0 := nz p145_0
  try replace p145_1 := nz p145_1
  apply bS <;> intro h146
  ·have p145_0c := p145_0 h146
   try have := tW (x5 + 1)
   refine ⟨c_signed tP,fun _ _ x149 _ p151=>?_⟩
   obtain ⟨_,_⟩ := p151
   refine bS (fun _=>⟨_,tP,rfl,rfl⟩) fun _=>?_
   apply bS <;> intro _
   ·refine ⟨c_is tP,fun _ p155=>?_⟩
    obtain ⟨p155_0,p155_1⟩ := p155
    try replace p155_0 := nz p155_0
    try replace p155_1 := nz p155_1
    refine bS (fun h156=>⟨_,tP,rfl,rfl⟩) fun h156=>?_
    have p155_0c := p155_0 h156
    apply bS <;> intro _
    ·refine bS (fun _=>⟨_,tP,rfl,rfl⟩) fun _=>?_
     try have := tW (x149 + 1)
     exact ⟨_,tP,rfl,rfl⟩
    try have := tW (x149 + 1)
    exact ⟨_,tP,rfl,rfl⟩
   refine ⟨c_name tP,fun _ x160 _ p162=>?_⟩
   obtain ⟨_,_,_,p162_3⟩ := p162
   refine bS (fun h163=>⟨_,tP,rfl,rfl⟩) fun h163=>?_
   have p162_3c := p162_3 h163
   refine ⟨c_is tP,fun _ p165=>?_⟩
   obtain ⟨p165_0,p165_1⟩ := p165
   try replace p165_0 := nz p165_0
   try replace p165_1 := nz p165_1
   refine bS (fun h166=>⟨_,tP,rfl,rfl⟩) fun h166=>?_
   have p165_0c := p165_0 h166
   try have := tW (x160 + 1)
   exact ⟨_,tP,rfl,rfl⟩
  try have := tW (x5 + 0)
  refine ⟨c_signed tP,fun _ _ x169 _ p171=>?_⟩
  obtain ⟨_,_⟩ := p171
  refine bS (fun _=>⟨_,tP,rfl,rfl⟩) fun _=>?_
  apply bS <;> intro _
  ·refine ⟨c_is tP,fun _ p175=>?_⟩
   obtain ⟨p175_0,p175_1⟩ := p175
   try replace p175_0 := nz p175_0
   try replace p175_1 := nz p175_1
   refine bS (fun h176=>⟨_,tP,rfl,rfl⟩) fun h176=>?_
   have p175_0c := p175_0 h176
   refine bS (fun _=>⟨_,tP,rfl,rfl⟩) fun _=>?_
   try have := tW (x169 + 0)
   exact ⟨_,tP,rfl,rfl⟩
  refine ⟨c_name tP,fun _ _ _ p181=>?_⟩
  obtain ⟨_,_,_,_⟩ := p181
  exact ⟨_,tP,rfl,rfl⟩)
 exact ⟨_,hq,ha⟩
abbrev E_escapeO (x0 : ByteArray) (x1 x2 : Bool) (x3 x4 : Int) : Prop := ∃ l,post_escapeO x0 x1 x2 x3 x4 l ∧ A 46 [(.agg [(sv x0),(bv x1),(bv x2),(iv x3)]),(iv x4)] [] (.agg l) []
abbrev j_escapeO (nn : Nat) (x0 : ByteArray) (x1 x2 : Bool) (x3 x4 : Int) (kK : Int → Int → Int → Int → List AV → Bool → Int → Int → Int → ByteArray → Int → Int → Bool → Int → Int → Int → HC) : HC := ⟨.ev nn (.ask (eG fun x5 x6 x7 x8 x9 x10 x11 x12 x13 x14 x15 x16 x17 x18 x19 x20=>.done (.res (.agg (gR x5 x6 x7 x8 x9 x10 x11 x12 x13 x14 x15 x16 x17 x18 x19 x20)) [] (post_escapeO x0 x1 x2 x3 x4 (gR x5 x6 x7 x8 x9 x10 x11 x12 x13 x14 x15 x16 x17 x18 x19 x20))) ((kK x5 x6 x7 x8 x9 x10 x11 x12 x13 x14 x15 x16 x17 x18 x19 x20).h))),(∃ x5 x6 x7 x8 x9 x10 x11 x12 x13 x14 x15 x16 x17 x18 x19 x20,post_escapeO x0 x1 x2 x3 x4 (gR x5 x6 x7 x8 x9 x10 x11 x12 x13 x14 x15 x16 x17 x18 x19 x20) ∧ A 46 [(.agg [(sv x0),(bv x1),(bv x2),(iv x3)]),(iv x4)] [] (.agg (gR x5 x6 x7 x8 x9 x10 x11 x12 x13 x14 x15 x16 x17 x18 x19 x20)) []) ∧ (∀ x5 x6 x7 x8 x9 x10 x11 x12 x13 x14 x15 x16 x17 x18 x19 x20,post_escapeO x0 x1 x2 x3 x4 (gR x5 x6 x7 x8 x9 x10 x11 x12 x13 x14 x15 x16 x17 x18 x19 x20) → (kK x5 x6 x7 x8 x9 x10 x11 x12 x13 x14 x15 x16 x17 x18 x19 x20).p)⟩
def s_escapeO_0 (x0 : Int) (x1 : ByteArray) (x2 x3 : Bool) (x4 x5 x6 : Int) : St := ⟨[],[(1,(iv x0)),(2,(.ea [(sv x1),(bv x2),(bv x3),(iv x4)])),(4,(.box [(iv 0),(iv 0),(iv 0),(iv 0),(.sl 2 []),(bv false),(iv 0),(iv 0),(iv 0),(sv (bs [])),(iv 0),(iv 0),(bv false),(iv 0),(iv 0),(iv 0)])),(6,(iv x5)),(12,(sv (bs [123,60,39]))),(13,(sv (bs [125,62,39]))),(14,(iv x6))],[],0⟩
def x_escapeO_0_0 (x0 : Int) (x1 : ByteArray) (x2 x3 : Bool) (x4 x5 y6 : Int) (y7 : ByteArray) (y8 : Int) : St := ⟨[],[(4,(.box [(iv 11),(iv x0),(iv y6),(iv 0),(.sl 2 []),(bv false),(iv 0),(iv 3),(iv 0),(sv y7),(iv 0),(iv 0),(bv true),(iv y8),(iv 0),(iv 0)]))],[],0⟩
def x_escapeO_0_1 (x0 : Int) (x1 : ByteArray) (x2 x3 : Bool) (x4 x5 y6 : Int) : St := ⟨[],[(1,(iv x0)),(2,(.ea [(sv x1),(bv x2),(bv x3),(iv x4)])),(4,(.box [(iv 0),(iv 0),(iv 0),(iv 0),(.sl 2 []),(bv false),(iv 0),(iv 0),(iv 0),(sv (bs [])),(iv 0),(iv 0),(bv false),(iv 0),(iv 0),(iv 0)])),(6,(iv x5)),(12,(sv (bs [123,60,39]))),(13,(sv (bs [125,62,39]))),(14,(iv y6)),(138,(bv false))],[],0⟩
abbrev E_escapeO_0 (x0 : Int) (x1 : ByteArray) (x2 x3 : Bool) (x4 x5 x6o : Int) : Prop := ((∃ y7 y8 y9,out_escapeO_0_0 x0 x1 x2 x3 x4 x5 x6o y7 y8 y9 ∧ R 46 0 (s_escapeO_0 x0 x1 x2 x3 x4 x5 x6o) (Ex.ret,x_escapeO_0_0 x0 x1 x2 x3 x4 x5 y7 y8 y9)) ∨ (∃ y7,out_escapeO_0_1 x0 x1 x2 x3 x4 x5 x6o y7 ∧ R 46 0 (s_escapeO_0 x0 x1 x2 x3 x4 x5 x6o) ((Ex.exit 1),x_escapeO_0_1 x0 x1 x2 x3 x4 x5 y7)))
abbrev j_escapeO_0 (nn : Nat) (x0 : Int) (x1 : ByteArray) (x2 x3 : Bool) (x4 x5 x6o : Int) (f0 : Int → ByteArray → Int → HC) (f1 : Int → HC) : HC := ⟨.ev nn (.ask (.or (eI fun y7=>eS fun y8=>eI fun y9=>.done (.exit Ex.ret (x_escapeO_0_0 x0 x1 x2 x3 x4 x5 y7 y8 y9) (out_escapeO_0_0 x0 x1 x2 x3 x4 x5 x6o y7 y8 y9)) (f0 y7 y8 y9).h) (eI fun y7=>.done (.exit (Ex.exit 1) (x_escapeO_0_1 x0 x1 x2 x3 x4 x5 y7) (out_escapeO_0_1 x0 x1 x2 x3 x4 x5 x6o y7)) (f1 y7).h))),E_escapeO_0 x0 x1 x2 x3 x4 x5 x6o ∧ ((∀ y7 y8 y9,out_escapeO_0_0 x0 x1 x2 x3 x4 x5 x6o y7 y8 y9 → (f0 y7 y8 y9).p) ∧ (∀ y7,out_escapeO_0_1 x0 x1 x2 x3 x4 x5 x6o y7 → (f1 y7).p))⟩
abbrev t_escapeO_0 (x0 : Int) (x1 : ByteArray) (x2 x3 : Bool) (x4 x5 x6 : Int) (Q : Ex → St → Prop) : HC := (dd 1 ((decide (x6 < 3))) (oo 1 ((decide (0 ≤ x6))) (oo 1 ((decide (0 ≤ w6 (x6 + 1)))) (oo 1 (((x6.toNat.ble (w6 (x6 + 1)).toNat) && ((w6 (x6 + 1)).toNat.ble 3))) (j_is 1 x1 x2 x3 x4 x5 ((bs [123,60,39]).extract x6.toNat (w6 (x6 + 1)).toNat) fun x7=>(dd 0 x7 (j_name 2 x1 x2 x3 x4 (w6 (x5 + 1)) fun x8 x9 x10=>(dd 0 x10 (oo 7 ((decide (0 ≤ x6))) (oo 1 ((decide (0 ≤ w6 (x6 + 1)))) (oo 1 (((x6.toNat.ble (w6 (x6 + 1)).toNat) && ((w6 (x6 + 1)).toNat.ble 3))) (j_is 2 x1 x2 x3 x4 x9 ((bs [125,62,39]).extract x6.toNat (w6 (x6 + 1)).toNat) fun x11=>(dd 1 x11 (zz 4 (Q Ex.ret (x_escapeO_0_0 x0 x1 x2 x3 x4 x5 (w6 (x9 + 1)) x8 (w6 (x9 + 1))))) (zz 1 (Q .norm (s_escapeO_0 x0 x1 x2 x3 x4 x5 (w6 (x6 + 1)))))))))) (zz 10 (Q .norm (s_escapeO_0 x0 x1 x2 x3 x4 x5 (w6 (x6 + 1))))))) (zz 1 (Q .norm (s_escapeO_0 x0 x1 x2 x3 x4 x5 (w6 (x6 + 1)))))))))) (zz 0 (Q (Ex.exit 1) (x_escapeO_0_1 x0 x1 x2 x3 x4 x5 x6))))
theorem l_escapeO_0 (x0 x1 x2 x3 x4 x5 x6) (Q : Ex → St → Prop) (h : (t_escapeO_0 x0 x1 x2 x3 x4 x5 x6 Q).p) : ∃ e s',L 46 0 (s_escapeO_0 x0 x1 x2 x3 x4 x5 x6) (e,s') ∧ Q e s' :=
 Leads.wq (t_escapeO_0 x0 x1 x2 x3 x4 x5 x6 Q).h (by kernel_rfl) h
theorem k_escapeO_0 {x0 x1 x2 x3 x4 x5 x6o} (hi : inv_escapeO_0 x0 x1 x2 x3 x4 x5 x6o x6o) : E_escapeO_0 x0 x1 x2 x3 x4 x5 x6o := by
 obtain ⟨e,s',hr,hq⟩ := Rounds.byInv (st := fun (w : Int)=>s_escapeO_0 x0 x1 x2 x3 x4 x5 w) (Inv := fun w=>inv_escapeO_0 x0 x1 x2 x3 x4 x5 x6o w) (μ := fun w=>mu_escapeO_0 x0 x1 x2 x3 x4 x5 w) (Q := fun e s'=>((∃ y7 y8 y9,out_escapeO_0_0 x0 x1 x2 x3 x4 x5 x6o y7 y8 y9 ∧ e = Ex.ret ∧ s' = x_escapeO_0_0 x0 x1 x2 x3 x4 x5 y7 y8 y9) ∨ (∃ y7,out_escapeO_0_1 x0 x1 x2 x3 x4 x5 x6o y7 ∧ e = (Ex.exit 1) ∧ s' = x_escapeO_0_1 x0 x1 x2 x3 x4 x5 y7))) (by
  intro x6 hi
  have hi : inv_escapeO_0 x0 x1 x2 x3 x4 x5 x6o x6 := hi
  refine l_escapeO_0 x0 x1 x2 x3 x4 x5 x6 _ ?_
  obtain ⟨⟨_,_,_⟩,_,_,_,_⟩ := hi
  apply bS <;> intro _
  ·refine ⟨tD,?_⟩
   try have := tW (x6 + 1)
   refine ⟨tD,tD,c_is tP,fun _ p12=>?_⟩
   obtain ⟨p12_0,p12_1⟩ := p12
   try replace p12_0 := nz p12_0
   try replace p12_1 := nz p12_1
   apply bS <;> intro h13
   ·have p12_0c := p12_0 h13
    try have := tW (x5 + 1)
    refine ⟨c_name tP,fun _ x15 _ p17=>?_⟩
    obtain ⟨_,_,_,p17_3⟩ := p17
    apply bS <;> intro h18
    ·have p17_3c := p17_3 h18
     refine ⟨tD,tD,tD,c_is tP,fun _ p20=>?_⟩
     obtain ⟨p20_0,p20_1⟩ := p20
     try replace p20_0 := nz p20_0
     try replace p20_1 := nz p20_1
     apply bS <;> intro h21
     ·have p20_0c := p20_0 h21
      try have := tW (x15 + 1)
      exact .inr ⟨by simp,.inl ⟨_,_,_,tP,rfl,rfl⟩⟩
     exact .inl ⟨rfl,(w6 (x6 + 1)),rfl,tP,by unfold mu_escapeO_0; exact tI⟩
    exact .inl ⟨rfl,(w6 (x6 + 1)),rfl,tP,by unfold mu_escapeO_0; exact tI⟩
   exact .inl ⟨rfl,(w6 (x6 + 1)),rfl,tP,by unfold mu_escapeO_0; exact tI⟩
  exact .inr ⟨by simp,.inr (⟨_,tP,rfl,rfl⟩)⟩) x6o hi
 rcases hq with ⟨_,_,_,ho,rfl,rfl⟩ | ⟨_,ho,rfl,rfl⟩
 
 ·exact .inl ⟨_,_,_,ho,hr⟩
 ·exact .inr (⟨_,ho,hr⟩)
abbrev t_escapeO (x0 : ByteArray) (x1 x2 : Bool) (x3 x4 : Int) (Q : AV → HH → Prop) : HC := (dd 2 ((w6 (x4 + 1) == (↑x0.size : Int))) (qq 7 Q (.agg (gZ 0 20 ((↑x0.size : Int))))) (j_Char 2 x0 x1 x2 x3 (w6 (x4 + 1)) fun x5 x6=>(j_simple 1 x5 fun x7=>(dd 1 ((decide (x7 ≥ 0))) (j_simple 1 x5 fun x8=>(qq 4 Q (.agg (gR 1 x4 x6 x8 [] false 0 0 0 (bs []) 0 0 true x6 0 0)))) (dd 1 ((x5 == 120)) (j_hexadecimal 1 x0 x1 x2 x3 x6 fun x9 x10=>(dd 1 ((decide (x9 < 0))) (qq 4 Q (.agg (gZ 0 21 x4))) (qq 4 Q (.agg (gR 1 x4 x10 x9 [] false 0 0 0 (bs []) 0 0 true x10 0 0))))) (dd 1 ((x5 == 78)) (qq 4 Q (.agg (gR 2 x4 x6 0 [(.agg [(iv 10),(iv 10)])] true 0 0 0 (bs []) 0 0 true x6 0 0))) (j_assert 1 x5 fun x11=>(dd 1 ((decide (x11 > 0))) (j_assert 1 x5 fun x12=>(qq 4 Q (.agg (gR 4 x4 x6 0 [] false x12 0 0 (bs []) 0 0 true x6 0 0)))) (dd 1 ((x5 == 75)) (qq 4 Q (.agg (gR 5 x4 x6 0 [] false 0 0 0 (bs []) 0 0 true x6 0 0))) (dd 1 ((x5 == 82)) (qq 4 Q (.agg (gR 6 x4 x6 0 [] false 0 0 0 (bs []) 0 0 true x6 0 0))) (dd 1 ((x5 == 69)) (qq 1 Q (.agg (gZ x6 0 0))) (dd 1 ((decide (x5 ≥ 49))) (dd 3 ((decide (x5 ≤ 57))) (j_number 2 x0 x1 x2 x3 (w6 (x4 + 1)) fun x13 x14 x15=>(dd 0 x15 (qq 4 Q (.agg (gZ 0 25 x4))) (qq 4 Q (.agg (gR 11 x4 x14 0 [] false x13 0 0 (bs []) 0 0 true x14 0 0))))) (dd 1 ((x5 == 103)) (j_referO 1 x0 x1 x2 x3 x4 x6 fun x16 x17 x18 x19 x20 x21 x22 x23 x24 x25 x26 x27 x28 x29 x30 x31=>(qq 1 Q (.agg (gR x16 x17 x18 x19 x20 x21 x22 x23 x24 x25 x26 x27 x28 x29 x30 x31)))) (dd 1 ((x5 == 107)) (j_escapeO_0 0 x4 x0 x1 x2 x3 x6 0 (fun x32 x33 x34=>(qq 1 Q (.agg (gR 11 x4 x32 0 [] false 0 3 0 x33 0 0 true x34 0 0)))) (fun x35=>(qq 4 Q (.agg (gZ 0 27 x4))))) (j_many 1 x0 x1 x2 x3 x5 x6 fun x36 x37 x38 x39 x40=>(dd 1 ((!x40 == 0)) (qq 4 Q (.agg (gZ 0 x40 x4))) (dd 0 x39 (oo 0 ((npL [(.agg (kR 2 0 0 0 x36 x37 0 0 0 (bs []) 0 0)),(iv x4),(iv x38)])) (qq 3 Q (.agg (gR 2 x4 x38 0 x36 x37 0 0 0 (bs []) 0 0 true x38 0 0)))) (dd 1 ((x5 == 48)) (qq 9 Q (.agg (gZ 0 21 x4))) (dd 3 ((decide (x5 < 128))) (j_letter 4 (IntKind.u8.wrap x5) fun x41=>(dd 3 x41 (qq 4 Q (.agg (gZ 0 21 x4))) (qq 4 Q (.agg (gR 1 x4 x6 x5 [] false 0 0 0 (bs []) 0 0 true x6 0 0))))) (qq 10 Q (.agg (gR 1 x4 x6 x5 [] false 0 0 0 (bs []) 0 0 true x6 0 0))))))))))) (dd 4 ((x5 == 103)) (j_referO 1 x0 x1 x2 x3 x4 x6 fun x42 x43 x44 x45 x46 x47 x48 x49 x50 x51 x52 x53 x54 x55 x56 x57=>(qq 1 Q (.agg (gR x42 x43 x44 x45 x46 x47 x48 x49 x50 x51 x52 x53 x54 x55 x56 x57)))) (dd 1 ((x5 == 107)) (j_escapeO_0 0 x4 x0 x1 x2 x3 x6 0 (fun x58 x59 x60=>(qq 1 Q (.agg (gR 11 x4 x58 0 [] false 0 3 0 x59 0 0 true x60 0 0)))) (fun x61=>(qq 4 Q (.agg (gZ 0 27 x4))))) (j_many 1 x0 x1 x2 x3 x5 x6 fun x62 x63 x64 x65 x66=>(dd 1 ((!x66 == 0)) (qq 4 Q (.agg (gZ 0 x66 x4))) (dd 0 x65 (oo 0 ((npL [(.agg (kR 2 0 0 0 x62 x63 0 0 0 (bs []) 0 0)),(iv x4),(iv x64)])) (qq 3 Q (.agg (gR 2 x4 x64 0 x62 x63 0 0 0 (bs []) 0 0 true x64 0 0)))) (dd 1 ((x5 == 48)) (qq 9 Q (.agg (gZ 0 21 x4))) (dd 3 ((decide (x5 < 128))) (j_letter 4 (IntKind.u8.wrap x5) fun x67=>(dd 3 x67 (qq 4 Q (.agg (gZ 0 21 x4))) (qq 4 Q (.agg (gR 1 x4 x6 x5 [] false 0 0 0 (bs []) 0 0 true x6 0 0))))) (qq 10 Q (.agg (gR 1 x4 x6 x5 [] false 0 0 0 (bs []) 0 0 true x6 0 0))))))))))))))))))))))
theorem w_escapeO (x0 x1 x2 x3 x4) (Q : AV → HH → Prop) (h : (t_escapeO x0 x1 x2 x3 x4 Q).p) : ∃ r H',A 46 [(.agg [(sv x0),(bv x1),(bv x2),(iv x3)]),(iv x4)] [] r H' ∧ Q r H' :=
 Ans.wq rfl (t_escapeO x0 x1 x2 x3 x4 Q).h (by kernel_rfl) h
theorem c_escapeO (x0 x1 x2 x3 x4) (hp : pre_escapeO x0 x1 x2 x3 x4) : E_escapeO x0 x1 x2 x3 x4 := by
 obtain ⟨_,_,ha,_,hq,rfl,rfl⟩ := w_escapeO x0 x1 x2 x3 x4 (fun r H'=>∃ x5,post_escapeO x0 x1 x2 x3 x4 x5 ∧ r = (.agg x5) ∧ H' = []) (by
  obtain ⟨⟨_,_,_⟩,_⟩ := hp
  try have := tW (x4 + 1)
  refine bS (fun _=>⟨_,tP,rfl,rfl⟩) fun _=>?_
  refine ⟨c_Char tP,fun _ x8 p9=>?_⟩
  obtain ⟨_,_,_,_⟩ := p9
  refine ⟨c_simple tP,fun _ _=>?_⟩
  apply bS <;> intro _
  ·refine ⟨c_simple tP,fun _ _=>?_⟩
   exact ⟨_,tP,rfl,rfl⟩
  apply bS <;> intro _
  ·refine ⟨c_hexadecimal tP,fun _ _ p18=>?_⟩
   obtain ⟨_,_,_⟩ := p18
   refine bS (fun _=>⟨_,tP,rfl,rfl⟩) fun _=>?_
   exact ⟨_,tP,rfl,rfl⟩
  refine bS (fun _=>⟨_,tP,rfl,rfl⟩) fun _=>?_
  refine ⟨c_assert tP,fun _ _=>?_⟩
  apply bS <;> intro _
  ·refine ⟨c_assert tP,fun _ _=>?_⟩
   exact ⟨_,tP,rfl,rfl⟩
  refine bS (fun _=>⟨_,tP,rfl,rfl⟩) fun _=>?_
  refine bS (fun _=>⟨_,tP,rfl,rfl⟩) fun _=>?_
  refine bS (fun _=>⟨_,tP,rfl,rfl⟩) fun _=>?_
  apply bS <;> intro _
  ·apply bS <;> intro _
   ·refine ⟨c_number tP,fun _ _ _ p34=>?_⟩
    obtain ⟨_,_,_,_,p34_4⟩ := p34
    refine bS (fun h35=>⟨_,tP,rfl,rfl⟩) fun h35=>?_
    have p34_4c := p34_4 h35
    exact ⟨_,tP,rfl,rfl⟩
   apply bS <;> intro _
   ·refine ⟨GotL.words (c_referO x0 x1 x2 x3 x4 x8 tP),fun _ _ _ _ _ _ _ _ _ _ _ _ _ _ _ _ _=>?_⟩
    exact ⟨_,tP,rfl,rfl⟩
   apply bS <;> intro _
   ·refine ⟨k_escapeO_0 tP,fun _ _ _ e58=>?_,fun _ _=>?_⟩
    ·obtain ⟨e58_0,e58_1⟩ := e58
     exact ⟨_,tP,rfl,rfl⟩
    exact ⟨_,tP,rfl,rfl⟩
   refine ⟨c_many tP,fun _ _ _ _ _ p66=>?_⟩
   obtain ⟨_,_,_,_,_⟩ := p66
   refine bS (fun _=>⟨_,tP,rfl,rfl⟩) fun _=>?_
   apply bS <;> intro _
   ·refine ⟨tN,?_⟩
    exact ⟨_,tP,rfl,rfl⟩
   refine bS (fun _=>⟨_,tP,rfl,rfl⟩) fun _=>?_
   apply bS <;> intro _
   ·refine ⟨c_letter tP,fun _ _=>?_⟩
    refine bS (fun _=>⟨_,tP,rfl,rfl⟩) fun _=>?_
    exact ⟨_,tP,rfl,rfl⟩
   exact ⟨_,tP,rfl,rfl⟩
  apply bS <;> intro _
  ·refine ⟨GotL.words (c_referO x0 x1 x2 x3 x4 x8 tP),fun _ _ _ _ _ _ _ _ _ _ _ _ _ _ _ _ _=>?_⟩
   exact ⟨_,tP,rfl,rfl⟩
  apply bS <;> intro _
  ·refine ⟨k_escapeO_0 tP,fun _ _ _ e96=>?_,fun _ _=>?_⟩
   ·obtain ⟨e96_0,e96_1⟩ := e96
    exact ⟨_,tP,rfl,rfl⟩
   exact ⟨_,tP,rfl,rfl⟩
  refine ⟨c_many tP,fun _ _ _ _ _ p104=>?_⟩
  obtain ⟨_,_,_,_,_⟩ := p104
  refine bS (fun _=>⟨_,tP,rfl,rfl⟩) fun _=>?_
  apply bS <;> intro _
  ·refine ⟨tN,?_⟩
   exact ⟨_,tP,rfl,rfl⟩
  refine bS (fun _=>⟨_,tP,rfl,rfl⟩) fun _=>?_
  apply bS <;> intro _
  ·refine ⟨c_letter tP,fun _ _=>?_⟩
   refine bS (fun _=>⟨_,tP,rfl,rfl⟩) fun _=>?_
   exact ⟨_,tP,rfl,rfl⟩
  exact ⟨_,tP,rfl,rfl⟩)
 exact ⟨_,hq,ha⟩
abbrev E_calledO (x0 : ByteArray) (x1 x2 : Bool) (x3 x4 x5 x6 x7 : Int) (x8 : List AV) (x9 : Bool) (x10 x11 x12 : Int) (x13 : ByteArray) (x14 x15 x16 x17 : Int) (x18 : ByteArray) : Prop := ∃ l,post_calledO x0 x1 x2 x3 x4 x5 x6 x7 x8 x9 x10 x11 x12 x13 x14 x15 x16 x17 x18 l ∧ A 79 [(.agg [(sv x0),(bv x1),(bv x2),(iv x3)]),(.agg (kR x4 x5 x6 x7 x8 x9 x10 x11 x12 x13 x14 x15)),(iv x16),(iv x17),(sv x18)] [] (.agg l) []
abbrev j_calledO (nn : Nat) (x0 : ByteArray) (x1 x2 : Bool) (x3 x4 x5 x6 x7 : Int) (x8 : List AV) (x9 : Bool) (x10 x11 x12 : Int) (x13 : ByteArray) (x14 x15 x16 x17 : Int) (x18 : ByteArray) (kK : Int → Int → Int → Int → List AV → Bool → Int → Int → Int → ByteArray → Int → Int → Bool → Int → Int → Int → HC) : HC := ⟨.ev nn (.ask (eG fun x19 x20 x21 x22 x23 x24 x25 x26 x27 x28 x29 x30 x31 x32 x33 x34=>.done (.res (.agg (gR x19 x20 x21 x22 x23 x24 x25 x26 x27 x28 x29 x30 x31 x32 x33 x34)) [] (post_calledO x0 x1 x2 x3 x4 x5 x6 x7 x8 x9 x10 x11 x12 x13 x14 x15 x16 x17 x18 (gR x19 x20 x21 x22 x23 x24 x25 x26 x27 x28 x29 x30 x31 x32 x33 x34))) ((kK x19 x20 x21 x22 x23 x24 x25 x26 x27 x28 x29 x30 x31 x32 x33 x34).h))),(∃ x19 x20 x21 x22 x23 x24 x25 x26 x27 x28 x29 x30 x31 x32 x33 x34,post_calledO x0 x1 x2 x3 x4 x5 x6 x7 x8 x9 x10 x11 x12 x13 x14 x15 x16 x17 x18 (gR x19 x20 x21 x22 x23 x24 x25 x26 x27 x28 x29 x30 x31 x32 x33 x34) ∧ A 79 [(.agg [(sv x0),(bv x1),(bv x2),(iv x3)]),(.agg (kR x4 x5 x6 x7 x8 x9 x10 x11 x12 x13 x14 x15)),(iv x16),(iv x17),(sv x18)] [] (.agg (gR x19 x20 x21 x22 x23 x24 x25 x26 x27 x28 x29 x30 x31 x32 x33 x34)) []) ∧ (∀ x19 x20 x21 x22 x23 x24 x25 x26 x27 x28 x29 x30 x31 x32 x33 x34,post_calledO x0 x1 x2 x3 x4 x5 x6 x7 x8 x9 x10 x11 x12 x13 x14 x15 x16 x17 x18 (gR x19 x20 x21 x22 x23 x24 x25 x26 x27 x28 x29 x30 x31 x32 x33 x34) → (kK x19 x20 x21 x22 x23 x24 x25 x26 x27 x28 x29 x30 x31 x32 x33 x34).p)⟩
abbrev t_calledO (x0 : ByteArray) (x1 x2 : Bool) (x3 x4 x5 x6 x7 : Int) (x8 : List AV) (x9 : Bool) (x10 x11 x12 : Int) (x13 : ByteArray) (x14 x15 x16 x17 : Int) (x18 : ByteArray) (Q : AV → HH → Prop) : HC := (j_name 1 x0 x1 x2 x3 x17 fun x19 x20 x21=>(dd 1 ((decide (x20 ≥ (↑x0.size : Int)))) (qq 7 Q (.agg (gZ 0 20 ((↑x0.size : Int))))) (dd 1 ((!x21)) (qq 10 Q (.agg (gZ 0 27 x16))) (j_is 4 x0 x1 x2 x3 x20 x18 fun x22=>(dd 3 ((!x22)) (qq 4 Q (.agg (gZ 0 27 x16))) (oo 1 ((npL [(.agg (kR x4 x5 x6 x7 x8 x9 x10 x11 x12 x19 x14 x15)),(iv x16),(iv (w6 (x20 + (↑x18.size : Int))))])) (qq 3 Q (.agg (gR x4 x16 (w6 (x20 + (↑x18.size : Int))) x7 x8 x9 x10 x11 x12 x19 x14 x15 true (w6 (x20 + (↑x18.size : Int))) 0 0)))))))))
theorem w_calledO (x0 x1 x2 x3 x4 x5 x6 x7 x8 x9 x10 x11 x12 x13 x14 x15 x16 x17 x18) (Q : AV → HH → Prop) (h : (t_calledO x0 x1 x2 x3 x4 x5 x6 x7 x8 x9 x10 x11 x12 x13 x14 x15 x16 x17 x18 Q).p) : ∃ r H',A 79 [(.agg [(sv x0),(bv x1),(bv x2),(iv x3)]),(.agg (kR x4 x5 x6 x7 x8 x9 x10 x11 x12 x13 x14 x15)),(iv x16),(iv x17),(sv x18)] [] r H' ∧ Q r H' :=
 Ans.wq rfl (t_calledO x0 x1 x2 x3 x4 x5 x6 x7 x8 x9 x10 x11 x12 x13 x14 x15 x16 x17 x18 Q).h (by kernel_rfl) h
theorem c_calledO (x0 x1 x2 x3 x4 x5 x6 x7 x8 x9 x10 x11 x12 x13 x14 x15 x16 x17 x18) (hp : pre_calledO x0 x1 x2 x3 x4 x5 x6 x7 x8 x9 x10 x11 x12 x13 x14 x15 x16 x17 x18) : E_calledO x0 x1 x2 x3 x4 x5 x6 x7 x8 x9 x10 x11 x12 x13 x14 x15 x16 x17 x18 := by
 obtain ⟨_,_,ha,_,hq,rfl,rfl⟩ := w_calledO x0 x1 x2 x3 x4 x5 x6 x7 x8 x9 x10 x11 x12 x13 x14 x15 x16 x17 x18 (fun r H'=>∃ x19,post_calledO x0 x1 x2 x3 x4 x5 x6 x7 x8 x9 x10 x11 x12 x13 x14 x15 x16 x17 x18 x19 ∧ r = (.agg x19) ∧ H' = []) (by
  obtain ⟨⟨_,_,_⟩,_,_,_,_,_,_⟩ := hp
  refine ⟨c_name tP,fun _ x21 _ p23=>?_⟩
  obtain ⟨_,_,_,p23_3⟩ := p23
  refine bS (fun _=>⟨_,tP,rfl,rfl⟩) fun _=>?_
  refine bS (fun h25=>⟨_,tP,rfl,rfl⟩) fun h25=>?_
  have p23_3c := p23_3 h25
  refine ⟨c_is tP,fun _ p27=>?_⟩
  obtain ⟨p27_0,_⟩ := p27
  refine bS (fun h28=>⟨_,tP,rfl,rfl⟩) fun h28=>?_
  have p27_0c := p27_0 h28
  try have := tW (x21 + (↑x18.size : Int))
  refine ⟨tN,?_⟩
  exact ⟨_,tP,rfl,rfl⟩)
 exact ⟨_,hq,ha⟩
abbrev E_conditionO (x0 : ByteArray) (x1 x2 : Bool) (x3 x4 x5 : Int) : Prop := ∃ l,post_conditionO x0 x1 x2 x3 x4 x5 l ∧ A 81 [(.agg [(sv x0),(bv x1),(bv x2),(iv x3)]),(iv x4),(iv x5)] [] (.agg l) []
abbrev j_conditionO (nn : Nat) (x0 : ByteArray) (x1 x2 : Bool) (x3 x4 x5 : Int) (kK : Int → Int → Int → Int → List AV → Bool → Int → Int → Int → ByteArray → Int → Int → Bool → Int → Int → Int → HC) : HC := ⟨.ev nn (.ask (eG fun x6 x7 x8 x9 x10 x11 x12 x13 x14 x15 x16 x17 x18 x19 x20 x21=>.done (.res (.agg (gR x6 x7 x8 x9 x10 x11 x12 x13 x14 x15 x16 x17 x18 x19 x20 x21)) [] (post_conditionO x0 x1 x2 x3 x4 x5 (gR x6 x7 x8 x9 x10 x11 x12 x13 x14 x15 x16 x17 x18 x19 x20 x21))) ((kK x6 x7 x8 x9 x10 x11 x12 x13 x14 x15 x16 x17 x18 x19 x20 x21).h))),(∃ x6 x7 x8 x9 x10 x11 x12 x13 x14 x15 x16 x17 x18 x19 x20 x21,post_conditionO x0 x1 x2 x3 x4 x5 (gR x6 x7 x8 x9 x10 x11 x12 x13 x14 x15 x16 x17 x18 x19 x20 x21) ∧ A 81 [(.agg [(sv x0),(bv x1),(bv x2),(iv x3)]),(iv x4),(iv x5)] [] (.agg (gR x6 x7 x8 x9 x10 x11 x12 x13 x14 x15 x16 x17 x18 x19 x20 x21)) []) ∧ (∀ x6 x7 x8 x9 x10 x11 x12 x13 x14 x15 x16 x17 x18 x19 x20 x21,post_conditionO x0 x1 x2 x3 x4 x5 (gR x6 x7 x8 x9 x10 x11 x12 x13 x14 x15 x16 x17 x18 x19 x20 x21) → (kK x6 x7 x8 x9 x10 x11 x12 x13 x14 x15 x16 x17 x18 x19 x20 x21).p)⟩
abbrev t_conditionO (x0 : ByteArray) (x1 x2 : Bool) (x3 x4 x5 : Int) (Q : AV → HH → Prop) : HC := (j_is 1 x0 x1 x2 x3 x5 (bs [63,61]) fun x6=>(dd 0 x6 (qq 17 Q (.agg (gR 10 x4 (w6 (x4 + 2)) 0 [] false 13 0 0 (bs []) 0 0 true (w6 (x4 + 2)) 0 0))) (j_is 3 x0 x1 x2 x3 x5 (bs [63,33]) fun x7=>(dd 1 x7 (qq 13 Q (.agg (gR 10 x4 (w6 (x4 + 2)) 0 [] false 13 0 0 (bs []) 0 0 true (w6 (x4 + 2)) 0 0))) (j_is 3 x0 x1 x2 x3 x5 (bs [63,60,61]) fun x8=>(dd 1 x8 (qq 9 Q (.agg (gR 10 x4 (w6 (x4 + 2)) 0 [] false 13 0 0 (bs []) 0 0 true (w6 (x4 + 2)) 0 0))) (j_is 3 x0 x1 x2 x3 x5 (bs [63,60,33]) fun x9=>(dd 1 x9 (qq 5 Q (.agg (gR 10 x4 (w6 (x4 + 2)) 0 [] false 13 0 0 (bs []) 0 0 true (w6 (x4 + 2)) 0 0))) (j_is 1 x0 x1 x2 x3 x5 (bs [60]) fun x10=>(dd 0 x10 (oo 1 ((decide (0 ≤ x5))) (pU 1 ((Option.map (fun b=>Value.int IntKind.u8 (↑b.toNat : Int)) x0[x5.toNat]?)) fun x11=>(dd 1 ((!Int.ofNat x11.toNat == 60)) (j_name 2 x0 x1 x2 x3 (w6 (x5 + 1)) fun x12 x13 x14=>(dd 0 x14 (j_is 4 x0 x1 x2 x3 x13 (bs [39]) fun x15=>(dd 3 ((!x15)) (qq 9 Q (.agg (gZ 0 32 x4))) (j_is 3 x0 x1 x2 x3 (w6 (x13 + 1)) (bs [41]) fun x16=>(dd 3 ((!x16)) (qq 4 Q (.agg (gZ 0 32 x4))) (qq 11 Q (.agg (gR 10 x4 (w6 (w6 (x13 + 1) + 1)) 0 [] false 10 0 0 x12 0 0 true (w6 (w6 (x13 + 1) + 1)) 0 0))))))) (qq 16 Q (.agg (gZ 0 32 x4))))) (j_name 2 x0 x1 x2 x3 (w6 (x5 + 1)) fun x17 x18 x19=>(dd 0 x19 (j_is 4 x0 x1 x2 x3 x18 (bs [62]) fun x20=>(dd 3 ((!x20)) (qq 9 Q (.agg (gZ 0 32 x4))) (j_is 3 x0 x1 x2 x3 (w6 (x18 + 1)) (bs [41]) fun x21=>(dd 3 ((!x21)) (qq 4 Q (.agg (gZ 0 32 x4))) (qq 11 Q (.agg (gR 10 x4 (w6 (w6 (x18 + 1) + 1)) 0 [] false 10 0 0 x17 0 0 true (w6 (w6 (x18 + 1) + 1)) 0 0))))))) (qq 16 Q (.agg (gZ 0 32 x4)))))))) (j_is 1 x0 x1 x2 x3 x5 (bs [39]) fun x22=>(dd 0 x22 (oo 0 ((decide (0 ≤ x5))) (pU 1 ((Option.map (fun b=>Value.int IntKind.u8 (↑b.toNat : Int)) x0[x5.toNat]?)) fun x23=>(dd 1 ((!Int.ofNat x23.toNat == 60)) (j_name 2 x0 x1 x2 x3 (w6 (x5 + 1)) fun x24 x25 x26=>(dd 0 x26 (j_is 4 x0 x1 x2 x3 x25 (bs [39]) fun x27=>(dd 3 ((!x27)) (qq 9 Q (.agg (gZ 0 32 x4))) (j_is 3 x0 x1 x2 x3 (w6 (x25 + 1)) (bs [41]) fun x28=>(dd 3 ((!x28)) (qq 4 Q (.agg (gZ 0 32 x4))) (qq 11 Q (.agg (gR 10 x4 (w6 (w6 (x25 + 1) + 1)) 0 [] false 10 0 0 x24 0 0 true (w6 (w6 (x25 + 1) + 1)) 0 0))))))) (qq 16 Q (.agg (gZ 0 32 x4))))) (j_name 2 x0 x1 x2 x3 (w6 (x5 + 1)) fun x29 x30 x31=>(dd 0 x31 (j_is 4 x0 x1 x2 x3 x30 (bs [62]) fun x32=>(dd 3 ((!x32)) (qq 9 Q (.agg (gZ 0 32 x4))) (j_is 3 x0 x1 x2 x3 (w6 (x30 + 1)) (bs [41]) fun x33=>(dd 3 ((!x33)) (qq 4 Q (.agg (gZ 0 32 x4))) (qq 11 Q (.agg (gR 10 x4 (w6 (w6 (x30 + 1) + 1)) 0 [] false 10 0 0 x29 0 0 true (w6 (w6 (x30 + 1) + 1)) 0 0))))))) (qq 16 Q (.agg (gZ 0 32 x4)))))))) (j_is 1 x0 x1 x2 x3 x5 (bs [68,69,70,73,78,69]) fun x34=>(dd 0 x34 (j_is 6 x0 x1 x2 x3 (w6 (x5 + 6)) (bs [41]) fun x35=>(dd 3 ((!x35)) (qq 4 Q (.agg (gZ 0 32 x4))) (qq 11 Q (.agg (gR 10 x4 (w6 (w6 (x5 + 6) + 1)) 0 [] false 12 0 0 (bs []) 0 0 true (w6 (w6 (x5 + 6) + 1)) 0 0))))) (j_is 1 x0 x1 x2 x3 x5 (bs [82,38]) fun x36=>(dd 0 x36 (j_name 2 x0 x1 x2 x3 (w6 (x5 + 2)) fun x37 x38 x39=>(dd 1 ((!x39)) (qq 9 Q (.agg (gZ 0 32 x4))) (j_is 3 x0 x1 x2 x3 x38 (bs [41]) fun x40=>(dd 3 ((!x40)) (qq 4 Q (.agg (gZ 0 32 x4))) (qq 11 Q (.agg (gR 10 x4 (w6 (x38 + 1)) 0 [] false 11 3 0 x37 0 0 true (w6 (x38 + 1)) 0 0))))))) (j_is 1 x0 x1 x2 x3 x5 (bs [82]) fun x41=>(dd 0 x41 (j_number 2 x0 x1 x2 x3 (w6 (x5 + 1)) fun x42 x43 x44=>(dd 0 x44 (qq 4 Q (.agg (gZ 0 25 x4))) (dd 2 ((x43 == w6 (x5 + 1))) (j_is 5 x0 x1 x2 x3 x43 (bs [41]) fun x45=>(dd 3 ((!x45)) (qq 4 Q (.agg (gZ 0 32 x4))) (qq 11 Q (.agg (gR 10 x4 (w6 (x43 + 1)) 0 [] false 11 0 (-1) (bs []) 0 0 true (w6 (x43 + 1)) 0 0))))) (j_is 5 x0 x1 x2 x3 x43 (bs [41]) fun x46=>(dd 3 ((!x46)) (qq 4 Q (.agg (gZ 0 32 x4))) (qq 11 Q (.agg (gR 10 x4 (w6 (x43 + 1)) 0 [] false 11 0 x42 (bs []) 0 0 true (w6 (x43 + 1)) 0 0)))))))) (j_signed 1 x0 x1 x2 x3 x5 fun x47 x48 x49 x50=>(dd 0 x50 (qq 4 Q (.agg (gZ 0 25 x4))) (dd 2 ((!decide (x49 > x5))) (qq 9 Q (.agg (gZ 0 32 x4))) (j_is 3 x0 x1 x2 x3 x49 (bs [41]) fun x51=>(dd 3 ((!x51)) (qq 4 Q (.agg (gZ 0 32 x4))) (dd 6 ((x47 == 0)) (qq 4 Q (.agg (gZ 0 25 x4))) (qq 5 Q (.agg (gR 10 x4 (w6 (x49 + 1)) 0 [] false 9 x48 x47 (bs []) 0 0 true (w6 (x49 + 1)) 0 0)))))))))))))))))))))))))))
theorem w_conditionO (x0 x1 x2 x3 x4 x5) (Q : AV → HH → Prop) (h : (t_conditionO x0 x1 x2 x3 x4 x5 Q).p) : ∃ r H',A 81 [(.agg [(sv x0),(bv x1),(bv x2),(iv x3)]),(iv x4),(iv x5)] [] r H' ∧ Q r H' :=
 Ans.wq rfl (t_conditionO x0 x1 x2 x3 x4 x5 Q).h (by kernel_rfl) h
theorem c_conditionO (x0 x1 x2 x3 x4 x5) (hp : pre_conditionO x0 x1 x2 x3 x4 x5) : E_conditionO x0 x1 x2 x3 x4 x5 := by
 obtain ⟨_,_,ha,_,hq,rfl,rfl⟩ := w_conditionO x0 x1 x2 x3 x4 x5 (fun r H'=>∃ x6,post_conditionO x0 x1 x2 x3 x4 x5 x6 ∧ r = (.agg x6) ∧ H' = []) (by
  obtain ⟨⟨_,_,_⟩,_,_,_⟩ := hp
  refine ⟨c_is tP,fun _ p8=>?_⟩
  obtain ⟨p8_0,p8_1⟩ := p8
  try replace p8_0 := nz p8_0
  try replace p8_1 := nz p8_1
  apply bS <;> intro h9
  ·have p8_0c := p8_0 h9
   try have := tW (x4 + 2)
   exact ⟨_,zb2x0,rfl,rfl⟩
  refine ⟨c_is tP,fun _ p11=>?_⟩
  obtain ⟨p11_0,p11_1⟩ := p11
  try replace p11_0 := nz p11_0
  try replace p11_1 := nz p11_1
  apply bS <;> intro h12
  ·have p11_0c := p11_0 h12
   try have := tW (x4 + 2)
   exact ⟨_,zb2x0,rfl,rfl⟩
  refine ⟨c_is tP,fun _ p14=>?_⟩
  obtain ⟨p14_0,p14_1⟩ := p14
  try replace p14_0 := nz p14_0
  try replace p14_1 := nz p14_1
  apply bS <;> intro h15
  ·have p14_0c := p14_0 h15
   try have := tW (x4 + 2)
   exact ⟨_,zb2x0,rfl,rfl⟩
  refine ⟨c_is tP,fun _ p17=>?_⟩
  obtain ⟨p17_0,p17_1⟩ := p17
  try replace p17_0 := nz p17_0
  try replace p17_1 := nz p17_1
  apply bS <;> intro h18
  ·have p17_0c := p17_0 h18
   try have := tW (x4 + 2)
   exact ⟨_,zb2x0,rfl,rfl⟩
  refine ⟨c_is tP,fun _ p20=>?_⟩
  obtain ⟨p20_0,p20_1⟩ := p20
  try replace p20_0 := nz p20_0
  try replace p20_1 := nz p20_1
  apply bS <;> intro h21
  ·have p20_0c := p20_0 h21
   refine ⟨tD,tV,fun x22 _=>?_⟩
   have ux22 := u8_lt x22
   apply bS <;> intro _
   ·try have := tW (x5 + 1)
    refine ⟨c_name tP,fun _ x26 _ p28=>?_⟩
    obtain ⟨_,_,_,p28_3⟩ := p28
    apply bS <;> intro h29
    ·have p28_3c := p28_3 h29
     refine ⟨c_is tP,fun _ p31=>?_⟩
     obtain ⟨p31_0,p31_1⟩ := p31
     try replace p31_0 := nz p31_0
     try replace p31_1 := nz p31_1
     apply bS <;> intro h32
     ·exact ⟨_,zb2x0,rfl,rfl⟩
     have p31_0c := p31_0 h32
     try have := tW (x26 + 1)
     refine ⟨c_is tP,fun _ p34=>?_⟩
     obtain ⟨p34_0,p34_1⟩ := p34
     try replace p34_0 := nz p34_0
     try replace p34_1 := nz p34_1
     apply bS <;> intro h35
     ·exact ⟨_,zb2x0,rfl,rfl⟩
     have p34_0c := p34_0 h35
     try have := tW (w6 (x26 + 1) + 1)
     exact ⟨_,zb2x0,rfl,rfl⟩
    exact ⟨_,zb2x0,rfl,rfl⟩
   try have := tW (x5 + 1)
   refine ⟨c_name tP,fun _ x37 _ p39=>?_⟩
   obtain ⟨_,_,_,p39_3⟩ := p39
   apply bS <;> intro h40
   ·have p39_3c := p39_3 h40
    refine ⟨c_is tP,fun _ p42=>?_⟩
    obtain ⟨p42_0,p42_1⟩ := p42
    try replace p42_0 := nz p42_0
    try replace p42_1 := nz p42_1
    apply bS <;> intro h43
    ·exact ⟨_,zb2x0,rfl,rfl⟩
    have p42_0c := p42_0 h43
    try have := tW (x37 + 1)
    refine ⟨c_is tP,fun _ p45=>?_⟩
    obtain ⟨p45_0,p45_1⟩ := p45
    try replace p45_0 := nz p45_0
    try replace p45_1 := nz p45_1
    apply bS <;> intro h46
    ·exact ⟨_,zb2x0,rfl,rfl⟩
    have p45_0c := p45_0 h46
    try have := tW (w6 (x37 + 1) + 1)
    exact ⟨_,zb2x0,rfl,rfl⟩
   exact ⟨_,zb2x0,rfl,rfl⟩
  refine ⟨c_is tP,fun _ p48=>?_⟩
  obtain ⟨p48_0,p48_1⟩ := p48
  try replace p48_0 := nz p48_0
  try replace p48_1 := nz p48_1
  apply bS <;> intro h49
  ·have p48_0c := p48_0 h49
   refine ⟨tD,tV,fun x50 _=>?_⟩
   have ux50 := u8_lt x50
   apply bS <;> intro _
   ·try have := tW (x5 + 1)
    refine ⟨c_name tP,fun _ x54 _ p56=>?_⟩
    obtain ⟨_,_,_,p56_3⟩ := p56
    apply bS <;> intro h57
    ·have p56_3c := p56_3 h57
     refine ⟨c_is tP,fun _ p59=>?_⟩
     obtain ⟨p59_0,p59_1⟩ := p59
     try replace p59_0 := nz p59_0
     try replace p59_1 := nz p59_1
     apply bS <;> intro h60
     ·exact ⟨_,zb2x0,rfl,rfl⟩
     have p59_0c := p59_0 h60
     try have := tW (x54 + 1)
     refine ⟨c_is tP,fun _ p62=>?_⟩
     obtain ⟨p62_0,p62_1⟩ := p62
     try replace p62_0 := nz p62_0
     try replace p62_1 := nz p62_1
     apply bS <;> intro h63
     ·exact ⟨_,zb2x0,rfl,rfl⟩
     have p62_0c := p62_0 h63
     try have := tW (w6 (x54 + 1) + 1)
     exact ⟨_,zb2x0,rfl,rfl⟩
    exact ⟨_,zb2x0,rfl,rfl⟩
   try have := tW (x5 + 1)
   refine ⟨c_name tP,fun _ x65 _ p67=>?_⟩
   obtain ⟨_,_,_,p67_3⟩ := p67
   apply bS <;> intro h68
   ·have p67_3c := p67_3 h68
    refine ⟨c_is tP,fun _ p70=>?_⟩
    obtain ⟨p70_0,p70_1⟩ := p70
    try replace p70_0 := nz p70_0
    try replace p70_1 := nz p70_1
    apply bS <;> intro h71
    ·exact ⟨_,zb2x0,rfl,rfl⟩
    have p70_0c := p70_0 h71
    try have := tW (x65 + 1)
    refine ⟨c_is tP,fun _ p73=>?_⟩
    obtain ⟨p73_0,p73_1⟩ := p73
    try replace p73_0 := nz p73_0
    try replace p73_1 := nz p73_1
    apply bS <;> intro h74
    ·exact ⟨_,zb2x0,rfl,rfl⟩
    have p73_0c := p73_0 h74
    try have := tW (w6 (x65 + 1) + 1)
    exact ⟨_,zb2x0,rfl,rfl⟩
   exact ⟨_,zb2x0,rfl,rfl⟩
  refine ⟨c_is tP,fun _ p76=>?_⟩
  obtain ⟨p76_0,p76_1⟩ := p76
  try replace p76_0 := nz p76_0
  try replace p76_1 := nz p76_1
  apply bS <;> intro h77
  ·have p76_0c := p76_0 h77
   try have := tW (x5 + 6)
   refine ⟨c_is tP,fun _ p79=>?_⟩
   obtain ⟨p79_0,p79_1⟩ := p79
   try replace p79_0 := nz p79_0
   try replace p79_1 := nz p79_1
   apply bS <;> intro h80
   ·exact ⟨_,zb2x0,rfl,rfl⟩
   have p79_0c := p79_0 h80
   try have := tW (w6 (x5 + 6) + 1)
   exact ⟨_,zb2x0,rfl,rfl⟩
  refine ⟨c_is tP,fun _ p82=>?_⟩
  obtain ⟨p82_0,p82_1⟩ := p82
  try replace p82_0 := nz p82_0
  try replace p82_1 := nz p82_1
  apply bS <;> intro h83
  ·have p82_0c := p82_0 h83
   try have := tW (x5 + 2)
   refine ⟨c_name tP,fun _ x85 _ p87=>?_⟩
   obtain ⟨_,_,_,p87_3⟩ := p87
   apply bS <;> intro h88
   ·exact ⟨_,zb2x0,rfl,rfl⟩
   have p87_3c := p87_3 h88
   refine ⟨c_is tP,fun _ p90=>?_⟩
   obtain ⟨p90_0,p90_1⟩ := p90
   try replace p90_0 := nz p90_0
   try replace p90_1 := nz p90_1
   apply bS <;> intro h91
   ·exact ⟨_,zb2x0,rfl,rfl⟩
   have p90_0c := p90_0 h91
   try have := tW (x85 + 1)
   exact ⟨_,zb2x0,rfl,rfl⟩
  refine ⟨c_is tP,fun _ p93=>?_⟩
  obtain ⟨p93_0,p93_1⟩ := p93
  try replace p93_0 := nz p93_0
  try replace p93_1 := nz p93_1
  apply bS <;> intro h94
  ·have p93_0c := p93_0 h94
   try have := tW (x5 + 1)
   refine ⟨c_number tP,fun _ x96 _ p98=>?_⟩
   obtain ⟨_,_,_,_,p98_4⟩ := p98
   apply bS <;> intro h99
   ·exact ⟨_,zb2x0,rfl,rfl⟩
   have p98_4c := p98_4 h99
   apply bS <;> intro _
   ·refine ⟨c_is tP,fun _ p102=>?_⟩
    obtain ⟨p102_0,p102_1⟩ := p102
    try replace p102_0 := nz p102_0
    try replace p102_1 := nz p102_1
    apply bS <;> intro h103
    ·exact ⟨_,zb2x0,rfl,rfl⟩
    have p102_0c := p102_0 h103
    try have := tW (x96 + 1)
    exact ⟨_,zb2x0,rfl,rfl⟩
   refine ⟨c_is tP,fun _ p105=>?_⟩
   obtain ⟨p105_0,p105_1⟩ := p105
   try replace p105_0 := nz p105_0
   try replace p105_1 := nz p105_1
   apply bS <;> intro h106
   ·exact ⟨_,zb2x0,rfl,rfl⟩
   have p105_0c := p105_0 h106
   try have := tW (x96 + 1)
   exact ⟨_,zb2x0,rfl,rfl⟩
  refine ⟨c_signed tP,fun _ _ x109 _ p111=>?_⟩
  obtain ⟨_,_⟩ := p111
  apply bS <;> intro _
  ·exact ⟨_,zb2x0,rfl,rfl⟩
  apply bS <;> intro _
  ·exact ⟨_,zb2x0,rfl,rfl⟩
  refine ⟨c_is tP,fun _ p115=>?_⟩
  obtain ⟨p115_0,p115_1⟩ := p115
  try replace p115_0 := nz p115_0
  try replace p115_1 := nz p115_1
  apply bS <;> intro h116
  ·exact ⟨_,zb2x0,rfl,rfl⟩
  have p115_0c := p115_0 h116
  apply bS <;> intro _
  ·exact ⟨_,zb2x0,rfl,rfl⟩
  try have := tW (x109 + 1)
  exact ⟨_,zb2x0,rfl,rfl⟩)
 exact ⟨_,hq,ha⟩
abbrev E_flagsO (x0 : ByteArray) (x1 x2 : Bool) (x3 x4 x5 : Int) : Prop := ∃ l,post_flagsO x0 x1 x2 x3 x4 x5 l ∧ A 84 [(.agg [(sv x0),(bv x1),(bv x2),(iv x3)]),(iv x4),(iv x5)] [] (.agg l) []
abbrev j_flagsO (nn : Nat) (x0 : ByteArray) (x1 x2 : Bool) (x3 x4 x5 : Int) (kK : Int → Int → Int → Int → List AV → Bool → Int → Int → Int → ByteArray → Int → Int → Bool → Int → Int → Int → HC) : HC := ⟨.ev nn (.ask (eG fun x6 x7 x8 x9 x10 x11 x12 x13 x14 x15 x16 x17 x18 x19 x20 x21=>.done (.res (.agg (gR x6 x7 x8 x9 x10 x11 x12 x13 x14 x15 x16 x17 x18 x19 x20 x21)) [] (post_flagsO x0 x1 x2 x3 x4 x5 (gR x6 x7 x8 x9 x10 x11 x12 x13 x14 x15 x16 x17 x18 x19 x20 x21))) ((kK x6 x7 x8 x9 x10 x11 x12 x13 x14 x15 x16 x17 x18 x19 x20 x21).h))),(∃ x6 x7 x8 x9 x10 x11 x12 x13 x14 x15 x16 x17 x18 x19 x20 x21,post_flagsO x0 x1 x2 x3 x4 x5 (gR x6 x7 x8 x9 x10 x11 x12 x13 x14 x15 x16 x17 x18 x19 x20 x21) ∧ A 84 [(.agg [(sv x0),(bv x1),(bv x2),(iv x3)]),(iv x4),(iv x5)] [] (.agg (gR x6 x7 x8 x9 x10 x11 x12 x13 x14 x15 x16 x17 x18 x19 x20 x21)) []) ∧ (∀ x6 x7 x8 x9 x10 x11 x12 x13 x14 x15 x16 x17 x18 x19 x20 x21,post_flagsO x0 x1 x2 x3 x4 x5 (gR x6 x7 x8 x9 x10 x11 x12 x13 x14 x15 x16 x17 x18 x19 x20 x21) → (kK x6 x7 x8 x9 x10 x11 x12 x13 x14 x15 x16 x17 x18 x19 x20 x21).p)⟩
def s_flagsO_0 (x0 : Int) (x1 : ByteArray) (x2 x3 : Bool) (x4 x5 x6 x7 x8 : Int) (x9 : List AV) (x10 : Bool) (x11 x12 x13 : Int) (x14 : ByteArray) (x15 x16 x17 : Int) (x18 : Bool) : St := ⟨[],[(1,(iv x0)),(2,(iv x15)),(3,(.ea [(sv x1),(bv x2),(bv x3),(iv x4)])),(6,(.box [(iv 0),(iv 0),(iv 0),(iv 0),(.sl 2 []),(bv false),(iv 0),(iv 0),(iv 0),(sv (bs [])),(iv 0),(iv 0),(bv false),(iv 0),(iv 0),(iv 0)])),(7,(.box [(iv x5),(iv x6),(iv x7),(iv x8),(.sl 2 x9),(bv x10),(iv x11),(iv x12),(iv x13),(sv x14),(iv x16),(iv x17)])),(8,(bv x18))],[],0⟩
def x_flagsO_0_0 (x0 : Int) (x1 : ByteArray) (x2 x3 : Bool) (x4 x5 x6 x7 x8 : Int) (x9 : List AV) (x10 : Bool) (x11 x12 x13 : Int) (x14 : ByteArray) (y15 y16 y17 y18 : Int) (y19 : List AV) (y20 : Bool) (y21 y22 y23 : Int) (y24 : ByteArray) (y25 y26 : Int) (y27 : Bool) (y28 y29 y30 : Int) : St := ⟨[],[(6,(.box [(iv y15),(iv y16),(iv y17),(iv y18),(.sl 2 y19),(bv y20),(iv y21),(iv y22),(iv y23),(sv y24),(iv y25),(iv y26),(bv y27),(iv y28),(iv y29),(iv y30)]))],[],0⟩
abbrev E_flagsO_0 (x0 : Int) (x1 : ByteArray) (x2 x3 : Bool) (x4 x5 x6 x7 x8 : Int) (x9 : List AV) (x10 : Bool) (x11 x12 x13 : Int) (x14 : ByteArray) (x15o x16o x17o : Int) (x18o : Bool) : Prop := (∃ y19 y20 y21 y22 y23 y24 y25 y26 y27 y28 y29 y30 y31 y32 y33 y34,out_flagsO_0_0 x0 x1 x2 x3 x4 x5 x6 x7 x8 x9 x10 x11 x12 x13 x14 x15o x16o x17o x18o y19 y20 y21 y22 y23 y24 y25 y26 y27 y28 y29 y30 y31 y32 y33 y34 ∧ R 84 0 (s_flagsO_0 x0 x1 x2 x3 x4 x5 x6 x7 x8 x9 x10 x11 x12 x13 x14 x15o x16o x17o x18o) (Ex.ret,x_flagsO_0_0 x0 x1 x2 x3 x4 x5 x6 x7 x8 x9 x10 x11 x12 x13 x14 y19 y20 y21 y22 y23 y24 y25 y26 y27 y28 y29 y30 y31 y32 y33 y34))
abbrev j_flagsO_0 (nn : Nat) (x0 : Int) (x1 : ByteArray) (x2 x3 : Bool) (x4 x5 x6 x7 x8 : Int) (x9 : List AV) (x10 : Bool) (x11 x12 x13 : Int) (x14 : ByteArray) (x15o x16o x17o : Int) (x18o : Bool) (f0 : Int → Int → Int → Int → List AV → Bool → Int → Int → Int → ByteArray → Int → Int → Bool → Int → Int → Int → HC) : HC := ⟨.ev nn (.ask (eG fun y19 y20 y21 y22 y23 y24 y25 y26 y27 y28 y29 y30 y31 y32 y33 y34=>.done (.exit Ex.ret (x_flagsO_0_0 x0 x1 x2 x3 x4 x5 x6 x7 x8 x9 x10 x11 x12 x13 x14 y19 y20 y21 y22 y23 y24 y25 y26 y27 y28 y29 y30 y31 y32 y33 y34) (out_flagsO_0_0 x0 x1 x2 x3 x4 x5 x6 x7 x8 x9 x10 x11 x12 x13 x14 x15o x16o x17o x18o y19 y20 y21 y22 y23 y24 y25 y26 y27 y28 y29 y30 y31 y32 y33 y34)) (f0 y19 y20 y21 y22 y23 y24 y25 y26 y27 y28 y29 y30 y31 y32 y33 y34).h)),E_flagsO_0 x0 x1 x2 x3 x4 x5 x6 x7 x8 x9 x10 x11 x12 x13 x14 x15o x16o x17o x18o ∧ (∀ y19 y20 y21 y22 y23 y24 y25 y26 y27 y28 y29 y30 y31 y32 y33 y34,out_flagsO_0_0 x0 x1 x2 x3 x4 x5 x6 x7 x8 x9 x10 x11 x12 x13 x14 x15o x16o x17o x18o y19 y20 y21 y22 y23 y24 y25 y26 y27 y28 y29 y30 y31 y32 y33 y34 → (f0 y19 y20 y21 y22 y23 y24 y25 y26 y27 y28 y29 y30 y31 y32 y33 y34).p)⟩
abbrev t_flagsO_0 (x0 : Int) (x1 : ByteArray) (x2 x3 : Bool) (x4 x5 x6 x7 x8 : Int) (x9 : List AV) (x10 : Bool) (x11 x12 x13 : Int) (x14 : ByteArray) (x15 x16 x17 : Int) (x18 : Bool) (Q : Ex → St → Prop) : HC := (dd 1 ((decide (x15 ≥ (↑x1.size : Int)))) (zz 6 (Q Ex.ret (x_flagsO_0_0 x0 x1 x2 x3 x4 x5 x6 x7 x8 x9 x10 x11 x12 x13 x14 0 0 0 0 [] false 0 0 0 (bs []) 0 0 false 0 20 ((↑x1.size : Int))))) (oo 0 ((decide (0 ≤ x15))) (pU 1 ((Option.map (fun b=>Value.int IntKind.u8 (↑b.toNat : Int)) x1[x15.toNat]?)) fun x19=>(dd 1 ((Int.ofNat x19.toNat == 41)) (oo 1 ((npL [(.agg (kR x5 x6 x7 x8 x9 x10 x11 x12 x13 x14 x16 x17)),(iv x0),(iv (w6 (x15 + 1)))])) (zz 2 (Q Ex.ret (x_flagsO_0_0 x0 x1 x2 x3 x4 x5 x6 x7 x8 x9 x10 x11 x12 x13 x14 x5 x0 (w6 (x15 + 1)) x8 x9 x10 x11 x12 x13 x14 x16 x17 true (w6 (x15 + 1)) 0 0)))) (dd 1 ((Int.ofNat x19.toNat == 58)) (oo 1 ((npL [(.agg (kR 10 x6 x7 x8 x9 x10 2 x12 x13 x14 x16 x17)),(iv x0),(iv (w6 (x15 + 1)))])) (zz 2 (Q Ex.ret (x_flagsO_0_0 x0 x1 x2 x3 x4 x5 x6 x7 x8 x9 x10 x11 x12 x13 x14 10 x0 (w6 (x15 + 1)) x8 x9 x10 2 x12 x13 x14 x16 x17 true (w6 (x15 + 1)) 0 0)))) (dd 1 ((Int.ofNat x19.toNat == 45)) (dd 0 x18 (zz 3 (Q Ex.ret (x_flagsO_0_0 x0 x1 x2 x3 x4 x5 x6 x7 x8 x9 x10 x11 x12 x13 x14 0 0 0 0 [] false 0 0 0 (bs []) 0 0 false 0 26 x0))) (zz 3 (Q .norm (s_flagsO_0 x0 x1 x2 x3 x4 x5 x6 x7 x8 x9 x10 x11 x12 x13 x14 (w6 (x15 + 1)) x16 (w6 (↑((x17 % 18446744073709551616).toNat ||| 0) : Int)) true)))) (dd 1 ((Int.ofNat x19.toNat == 105)) (dd 0 x18 (zz 2 (Q .norm (s_flagsO_0 x0 x1 x2 x3 x4 x5 x6 x7 x8 x9 x10 x11 x12 x13 x14 (w6 (x15 + 1)) x16 (w6 (↑((x17 % 18446744073709551616).toNat ||| 1) : Int)) x18))) (zz 2 (Q .norm (s_flagsO_0 x0 x1 x2 x3 x4 x5 x6 x7 x8 x9 x10 x11 x12 x13 x14 (w6 (x15 + 1)) (w6 (↑((x16 % 18446744073709551616).toNat ||| 1) : Int)) x17 x18)))) (dd 1 ((Int.ofNat x19.toNat == 109)) (dd 0 x18 (zz 2 (Q .norm (s_flagsO_0 x0 x1 x2 x3 x4 x5 x6 x7 x8 x9 x10 x11 x12 x13 x14 (w6 (x15 + 1)) x16 (w6 (↑((x17 % 18446744073709551616).toNat ||| 2) : Int)) x18))) (zz 2 (Q .norm (s_flagsO_0 x0 x1 x2 x3 x4 x5 x6 x7 x8 x9 x10 x11 x12 x13 x14 (w6 (x15 + 1)) (w6 (↑((x16 % 18446744073709551616).toNat ||| 2) : Int)) x17 x18)))) (dd 1 ((Int.ofNat x19.toNat == 115)) (dd 0 x18 (zz 2 (Q .norm (s_flagsO_0 x0 x1 x2 x3 x4 x5 x6 x7 x8 x9 x10 x11 x12 x13 x14 (w6 (x15 + 1)) x16 (w6 (↑((x17 % 18446744073709551616).toNat ||| 4) : Int)) x18))) (zz 2 (Q .norm (s_flagsO_0 x0 x1 x2 x3 x4 x5 x6 x7 x8 x9 x10 x11 x12 x13 x14 (w6 (x15 + 1)) (w6 (↑((x16 % 18446744073709551616).toNat ||| 4) : Int)) x17 x18)))) (dd 1 ((Int.ofNat x19.toNat == 85)) (dd 0 x18 (zz 2 (Q .norm (s_flagsO_0 x0 x1 x2 x3 x4 x5 x6 x7 x8 x9 x10 x11 x12 x13 x14 (w6 (x15 + 1)) x16 (w6 (↑((x17 % 18446744073709551616).toNat ||| 16) : Int)) x18))) (zz 2 (Q .norm (s_flagsO_0 x0 x1 x2 x3 x4 x5 x6 x7 x8 x9 x10 x11 x12 x13 x14 (w6 (x15 + 1)) (w6 (↑((x16 % 18446744073709551616).toNat ||| 16) : Int)) x17 x18)))) (zz 3 (Q Ex.ret (x_flagsO_0_0 x0 x1 x2 x3 x4 x5 x6 x7 x8 x9 x10 x11 x12 x13 x14 0 0 0 0 [] false 0 0 0 (bs []) 0 0 false 0 26 x0)))))))))))))
theorem l_flagsO_0 (x0 x1 x2 x3 x4 x5 x6 x7 x8 x9 x10 x11 x12 x13 x14 x15 x16 x17 x18) (Q : Ex → St → Prop) (h : (t_flagsO_0 x0 x1 x2 x3 x4 x5 x6 x7 x8 x9 x10 x11 x12 x13 x14 x15 x16 x17 x18 Q).p) : ∃ e s',L 84 0 (s_flagsO_0 x0 x1 x2 x3 x4 x5 x6 x7 x8 x9 x10 x11 x12 x13 x14 x15 x16 x17 x18) (e,s') ∧ Q e s' :=
 Leads.wq (t_flagsO_0 x0 x1 x2 x3 x4 x5 x6 x7 x8 x9 x10 x11 x12 x13 x14 x15 x16 x17 x18 Q).h (by kernel_rfl) h
theorem k_flagsO_0 {x0 x1 x2 x3 x4 x5 x6 x7 x8 x9 x10 x11 x12 x13 x14 x15o x16o x17o x18o} (hi : inv_flagsO_0 x0 x1 x2 x3 x4 x5 x6 x7 x8 x9 x10 x11 x12 x13 x14 x15o x16o x17o x18o x15o x16o x17o x18o) : E_flagsO_0 x0 x1 x2 x3 x4 x5 x6 x7 x8 x9 x10 x11 x12 x13 x14 x15o x16o x17o x18o := by
 obtain ⟨e,s',hr,hq⟩ := Rounds.byInv (st := fun (w : Int × Int × Int × Bool)=>s_flagsO_0 x0 x1 x2 x3 x4 x5 x6 x7 x8 x9 x10 x11 x12 x13 x14 w.1 w.2.1 w.2.2.1 w.2.2.2) (Inv := fun w=>inv_flagsO_0 x0 x1 x2 x3 x4 x5 x6 x7 x8 x9 x10 x11 x12 x13 x14 x15o x16o x17o x18o w.1 w.2.1 w.2.2.1 w.2.2.2) (μ := fun w=>mu_flagsO_0 x0 x1 x2 x3 x4 x5 x6 x7 x8 x9 x10 x11 x12 x13 x14 w.1 w.2.1 w.2.2.1 w.2.2.2) (Q := fun e s'=>(∃ y19 y20 y21 y22 y23 y24 y25 y26 y27 y28 y29 y30 y31 y32 y33 y34,out_flagsO_0_0 x0 x1 x2 x3 x4 x5 x6 x7 x8 x9 x10 x11 x12 x13 x14 x15o x16o x17o x18o y19 y20 y21 y22 y23 y24 y25 y26 y27 y28 y29 y30 y31 y32 y33 y34 ∧ e = Ex.ret ∧ s' = x_flagsO_0_0 x0 x1 x2 x3 x4 x5 x6 x7 x8 x9 x10 x11 x12 x13 x14 y19 y20 y21 y22 y23 y24 y25 y26 y27 y28 y29 y30 y31 y32 y33 y34)) (by
  rintro ⟨x15,x16,x17,x18⟩ hi
  have hi : inv_flagsO_0 x0 x1 x2 x3 x4 x5 x6 x7 x8 x9 x10 x11 x12 x13 x14 x15o x16o x17o x18o x15 x16 x17 x18 := hi
  refine l_flagsO_0 x0 x1 x2 x3 x4 x5 x6 x7 x8 x9 x10 x11 x12 x13 x14 x15 x16 x17 x18 _ ?_
  obtain ⟨⟨_,_,_⟩,_,_,_,_⟩ := hi
  apply bS <;> intro _
  ·exact .inr ⟨by simp,⟨0,0,0,0,_,_,0,0,0,_,0,0,_,0,_,_,tP,rfl,rfl⟩⟩
  refine ⟨tD,tV,fun x36 _=>?_⟩
  have ux36 := u8_lt x36
  apply bS <;> intro _
  ·try have := tW (x15 + 1)
   refine ⟨tN,?_⟩
   exact .inr ⟨by simp,⟨_,_,_,_,_,_,_,_,_,_,_,_,_,_,0,0,tP,rfl,rfl⟩⟩
  apply bS <;> intro _
  ·try have := tW (x15 + 1)
   refine ⟨tN,?_⟩
   exact .inr ⟨by simp,⟨_,_,_,_,_,_,2,_,_,_,_,_,_,_,0,0,tP,rfl,rfl⟩⟩
  apply bS <;> intro _
  ·apply bS <;> intro _
   ·exact .inr ⟨by simp,⟨0,0,0,0,_,_,0,0,0,_,0,0,_,0,_,_,tP,rfl,rfl⟩⟩
   try have := tW (↑((x17 % 18446744073709551616).toNat ||| 0) : Int)
   try have := tW (x15 + 1)
   exact .inl ⟨rfl,((w6 (x15 + 1)),x16,(w6 (↑((x17 % 18446744073709551616).toNat ||| 0) : Int)),true),rfl,tP,zb2x1⟩
  apply bS <;> intro _
  ·apply bS <;> intro _
   ·try have := tW (↑((x17 % 18446744073709551616).toNat ||| 1) : Int)
    try have := tW (x15 + 1)
    exact .inl ⟨rfl,((w6 (x15 + 1)),x16,(w6 (↑((x17 % 18446744073709551616).toNat ||| 1) : Int)),x18),rfl,tP,zb2x1⟩
   try have := tW (↑((x16 % 18446744073709551616).toNat ||| 1) : Int)
   try have := tW (x15 + 1)
   exact .inl ⟨rfl,((w6 (x15 + 1)),(w6 (↑((x16 % 18446744073709551616).toNat ||| 1) : Int)),x17,x18),rfl,tP,zb2x1⟩
  apply bS <;> intro _
  ·apply bS <;> intro _
   ·try have := tW (↑((x17 % 18446744073709551616).toNat ||| 2) : Int)
    try have := tW (x15 + 1)
    exact .inl ⟨rfl,((w6 (x15 + 1)),x16,(w6 (↑((x17 % 18446744073709551616).toNat ||| 2) : Int)),x18),rfl,tP,zb2x1⟩
   try have := tW (↑((x16 % 18446744073709551616).toNat ||| 2) : Int)
   try have := tW (x15 + 1)
   exact .inl ⟨rfl,((w6 (x15 + 1)),(w6 (↑((x16 % 18446744073709551616).toNat ||| 2) : Int)),x17,x18),rfl,tP,zb2x1⟩
  apply bS <;> intro _
  ·apply bS <;> intro _
   ·try have := tW (↑((x17 % 18446744073709551616).toNat ||| 4) : Int)
    try have := tW (x15 + 1)
    exact .inl ⟨rfl,((w6 (x15 + 1)),x16,(w6 (↑((x17 % 18446744073709551616).toNat ||| 4) : Int)),x18),rfl,tP,zb2x1⟩
   try have := tW (↑((x16 % 18446744073709551616).toNat ||| 4) : Int)
   try have := tW (x15 + 1)
   exact .inl ⟨rfl,((w6 (x15 + 1)),(w6 (↑((x16 % 18446744073709551616).toNat ||| 4) : Int)),x17,x18),rfl,tP,zb2x1⟩
  apply bS <;> intro _
  ·apply bS <;> intro _
   ·try have := tW (↑((x17 % 18446744073709551616).toNat ||| 16) : Int)
    try have := tW (x15 + 1)
    exact .inl ⟨rfl,((w6 (x15 + 1)),x16,(w6 (↑((x17 % 18446744073709551616).toNat ||| 16) : Int)),x18),rfl,tP,zb2x1⟩
   try have := tW (↑((x16 % 18446744073709551616).toNat ||| 16) : Int)
   try have := tW (x15 + 1)
   exact .inl ⟨rfl,((w6 (x15 + 1)),(w6 (↑((x16 % 18446744073709551616).toNat ||| 16) : Int)),x17,x18),rfl,tP,zb2x1⟩
  exact .inr ⟨by simp,⟨0,0,0,0,_,_,0,0,0,_,0,0,_,0,_,_,tP,rfl,rfl⟩⟩) (x15o,x16o,x17o,x18o) hi
 rcases hq with ⟨_,_,_,_,_,_,_,_,_,_,_,_,_,_,_,_,ho,rfl,rfl⟩
 exact ⟨_,_,_,_,_,_,_,_,_,_,_,_,_,_,_,_,ho,hr⟩
abbrev t_flagsO (x0 : ByteArray) (x1 x2 : Bool) (x3 x4 x5 : Int) (Q : AV → HH → Prop) : HC := (j_flagsO_0 0 x4 x0 x1 x2 x3 15 0 0 0 [] false 0 0 0 (bs []) x5 0 0 false (fun x6 x7 x8 x9 x10 x11 x12 x13 x14 x15 x16 x17 x18 x19 x20 x21=>(qq 1 Q (.agg (gR x6 x7 x8 x9 x10 x11 x12 x13 x14 x15 x16 x17 x18 x19 x20 x21)))))
theorem w_flagsO (x0 x1 x2 x3 x4 x5) (Q : AV → HH → Prop) (h : (t_flagsO x0 x1 x2 x3 x4 x5 Q).p) : ∃ r H',A 84 [(.agg [(sv x0),(bv x1),(bv x2),(iv x3)]),(iv x4),(iv x5)] [] r H' ∧ Q r H' :=
 Ans.wq rfl (t_flagsO x0 x1 x2 x3 x4 x5 Q).h (by kernel_rfl) h
theorem c_flagsO (x0 x1 x2 x3 x4 x5) (hp : pre_flagsO x0 x1 x2 x3 x4 x5) : E_flagsO x0 x1 x2 x3 x4 x5 := by
 obtain ⟨_,_,ha,_,hq,rfl,rfl⟩ := w_flagsO x0 x1 x2 x3 x4 x5 (fun r H'=>∃ x6,post_flagsO x0 x1 x2 x3 x4 x5 x6 ∧ r = (.agg x6) ∧ H' = []) (by
  obtain ⟨⟨_,_,_⟩,_,_⟩ := hp
  refine ⟨k_flagsO_0 tP,fun _ _ _ _ _ _ _ _ _ _ _ _ _ _ _ _ e23=>?_⟩
  obtain ⟨e23_0,e23_1⟩ := e23
  try replace e23_0 := nz e23_0
  try replace e23_1 := nz e23_1
  exact ⟨_,tP,rfl,rfl⟩)
 exact ⟨_,hq,ha⟩
abbrev E_shutO (x0 : ByteArray) (x1 x2 : Bool) (x3 x4 x5 x6 x7 : Int) (x8 : List AV) (x9 : Bool) (x10 x11 x12 : Int) (x13 : ByteArray) (x14 x15 x16 x17 : Int) (x18 : ByteArray) (x19 : Int) : Prop := ∃ l,post_shutO x0 x1 x2 x3 x4 x5 x6 x7 x8 x9 x10 x11 x12 x13 x14 x15 x16 x17 x18 x19 l ∧ A 80 [(.agg [(sv x0),(bv x1),(bv x2),(iv x3)]),(.agg (kR x4 x5 x6 x7 x8 x9 x10 x11 x12 x13 x14 x15)),(iv x16),(iv x17),(sv x18),(iv x19)] [] (.agg l) []
abbrev j_shutO (nn : Nat) (x0 : ByteArray) (x1 x2 : Bool) (x3 x4 x5 x6 x7 : Int) (x8 : List AV) (x9 : Bool) (x10 x11 x12 : Int) (x13 : ByteArray) (x14 x15 x16 x17 : Int) (x18 : ByteArray) (x19 : Int) (kK : Int → Int → Int → Int → List AV → Bool → Int → Int → Int → ByteArray → Int → Int → Bool → Int → Int → Int → HC) : HC := ⟨.ev nn (.ask (eG fun x20 x21 x22 x23 x24 x25 x26 x27 x28 x29 x30 x31 x32 x33 x34 x35=>.done (.res (.agg (gR x20 x21 x22 x23 x24 x25 x26 x27 x28 x29 x30 x31 x32 x33 x34 x35)) [] (post_shutO x0 x1 x2 x3 x4 x5 x6 x7 x8 x9 x10 x11 x12 x13 x14 x15 x16 x17 x18 x19 (gR x20 x21 x22 x23 x24 x25 x26 x27 x28 x29 x30 x31 x32 x33 x34 x35))) ((kK x20 x21 x22 x23 x24 x25 x26 x27 x28 x29 x30 x31 x32 x33 x34 x35).h))),(∃ x20 x21 x22 x23 x24 x25 x26 x27 x28 x29 x30 x31 x32 x33 x34 x35,post_shutO x0 x1 x2 x3 x4 x5 x6 x7 x8 x9 x10 x11 x12 x13 x14 x15 x16 x17 x18 x19 (gR x20 x21 x22 x23 x24 x25 x26 x27 x28 x29 x30 x31 x32 x33 x34 x35) ∧ A 80 [(.agg [(sv x0),(bv x1),(bv x2),(iv x3)]),(.agg (kR x4 x5 x6 x7 x8 x9 x10 x11 x12 x13 x14 x15)),(iv x16),(iv x17),(sv x18),(iv x19)] [] (.agg (gR x20 x21 x22 x23 x24 x25 x26 x27 x28 x29 x30 x31 x32 x33 x34 x35)) []) ∧ (∀ x20 x21 x22 x23 x24 x25 x26 x27 x28 x29 x30 x31 x32 x33 x34 x35,post_shutO x0 x1 x2 x3 x4 x5 x6 x7 x8 x9 x10 x11 x12 x13 x14 x15 x16 x17 x18 x19 (gR x20 x21 x22 x23 x24 x25 x26 x27 x28 x29 x30 x31 x32 x33 x34 x35) → (kK x20 x21 x22 x23 x24 x25 x26 x27 x28 x29 x30 x31 x32 x33 x34 x35).p)⟩
abbrev t_shutO (x0 : ByteArray) (x1 x2 : Bool) (x3 x4 x5 x6 x7 : Int) (x8 : List AV) (x9 : Bool) (x10 x11 x12 : Int) (x13 : ByteArray) (x14 x15 x16 x17 : Int) (x18 : ByteArray) (x19 : Int) (Q : AV → HH → Prop) : HC := (j_is 1 x0 x1 x2 x3 x17 x18 fun x20=>(dd 0 x20 (oo 1 ((npL [(.agg (kR x4 x5 x6 x7 x8 x9 x10 x11 x12 x13 x14 x15)),(iv x16),(iv (w6 (x17 + (↑x18.size : Int))))])) (qq 3 Q (.agg (gR x4 x16 (w6 (x17 + (↑x18.size : Int))) x7 x8 x9 x10 x11 x12 x13 x14 x15 true (w6 (x17 + (↑x18.size : Int))) 0 0)))) (dd 1 ((decide (x17 ≥ (↑x0.size : Int)))) (qq 7 Q (.agg (gZ 0 20 ((↑x0.size : Int))))) (qq 4 Q (.agg (gZ 0 x19 x16))))))
theorem w_shutO (x0 x1 x2 x3 x4 x5 x6 x7 x8 x9 x10 x11 x12 x13 x14 x15 x16 x17 x18 x19) (Q : AV → HH → Prop) (h : (t_shutO x0 x1 x2 x3 x4 x5 x6 x7 x8 x9 x10 x11 x12 x13 x14 x15 x16 x17 x18 x19 Q).p) : ∃ r H',A 80 [(.agg [(sv x0),(bv x1),(bv x2),(iv x3)]),(.agg (kR x4 x5 x6 x7 x8 x9 x10 x11 x12 x13 x14 x15)),(iv x16),(iv x17),(sv x18),(iv x19)] [] r H' ∧ Q r H' :=
 Ans.wq rfl (t_shutO x0 x1 x2 x3 x4 x5 x6 x7 x8 x9 x10 x11 x12 x13 x14 x15 x16 x17 x18 x19 Q).h (by kernel_rfl) h
theorem c_shutO (x0 x1 x2 x3 x4 x5 x6 x7 x8 x9 x10 x11 x12 x13 x14 x15 x16 x17 x18 x19) (hp : pre_shutO x0 x1 x2 x3 x4 x5 x6 x7 x8 x9 x10 x11 x12 x13 x14 x15 x16 x17 x18 x19) : E_shutO x0 x1 x2 x3 x4 x5 x6 x7 x8 x9 x10 x11 x12 x13 x14 x15 x16 x17 x18 x19 := by
 obtain ⟨_,_,ha,_,hq,rfl,rfl⟩ := w_shutO x0 x1 x2 x3 x4 x5 x6 x7 x8 x9 x10 x11 x12 x13 x14 x15 x16 x17 x18 x19 (fun r H'=>∃ x20,post_shutO x0 x1 x2 x3 x4 x5 x6 x7 x8 x9 x10 x11 x12 x13 x14 x15 x16 x17 x18 x19 x20 ∧ r = (.agg x20) ∧ H' = []) (by
  obtain ⟨⟨_,_,_⟩,_,_,_,_,_,_,_⟩ := hp
  refine ⟨c_is tP,fun _ p22=>?_⟩
  obtain ⟨p22_0,_⟩ := p22
  apply bS <;> intro h23
  ·have p22_0c := p22_0 h23
   try have := tW (x17 + (↑x18.size : Int))
   refine ⟨tN,?_⟩
   exact ⟨_,tP,rfl,rfl⟩
  refine bS (fun _=>⟨_,tP,rfl,rfl⟩) fun _=>?_
  exact ⟨_,tP,rfl,rfl⟩)
 exact ⟨_,hq,ha⟩
abbrev E_verbO (x0 : ByteArray) (x1 x2 : Bool) (x3 x4 : Int) : Prop := ∃ l,post_verbO x0 x1 x2 x3 x4 l ∧ A 78 [(.agg [(sv x0),(bv x1),(bv x2),(iv x3)]),(iv x4)] [] (.agg l) []
abbrev j_verbO (nn : Nat) (x0 : ByteArray) (x1 x2 : Bool) (x3 x4 : Int) (kK : Int → Int → Int → Int → List AV → Bool → Int → Int → Int → ByteArray → Int → Int → Bool → Int → Int → Int → HC) : HC := ⟨.ev nn (.ask (eG fun x5 x6 x7 x8 x9 x10 x11 x12 x13 x14 x15 x16 x17 x18 x19 x20=>.done (.res (.agg (gR x5 x6 x7 x8 x9 x10 x11 x12 x13 x14 x15 x16 x17 x18 x19 x20)) [] (post_verbO x0 x1 x2 x3 x4 (gR x5 x6 x7 x8 x9 x10 x11 x12 x13 x14 x15 x16 x17 x18 x19 x20))) ((kK x5 x6 x7 x8 x9 x10 x11 x12 x13 x14 x15 x16 x17 x18 x19 x20).h))),(∃ x5 x6 x7 x8 x9 x10 x11 x12 x13 x14 x15 x16 x17 x18 x19 x20,post_verbO x0 x1 x2 x3 x4 (gR x5 x6 x7 x8 x9 x10 x11 x12 x13 x14 x15 x16 x17 x18 x19 x20) ∧ A 78 [(.agg [(sv x0),(bv x1),(bv x2),(iv x3)]),(iv x4)] [] (.agg (gR x5 x6 x7 x8 x9 x10 x11 x12 x13 x14 x15 x16 x17 x18 x19 x20)) []) ∧ (∀ x5 x6 x7 x8 x9 x10 x11 x12 x13 x14 x15 x16 x17 x18 x19 x20,post_verbO x0 x1 x2 x3 x4 (gR x5 x6 x7 x8 x9 x10 x11 x12 x13 x14 x15 x16 x17 x18 x19 x20) → (kK x5 x6 x7 x8 x9 x10 x11 x12 x13 x14 x15 x16 x17 x18 x19 x20).p)⟩
def s_verbO_0 (x0 : Int) (x1 : ByteArray) (x2 x3 : Bool) (x4 x5 : Int) : St := ⟨[],[(1,(iv x0)),(2,(.ea [(sv x1),(bv x2),(bv x3),(iv x4)])),(4,(.box [(iv 0),(iv 0),(iv 0),(iv 0),(.sl 2 []),(bv false),(iv 0),(iv 0),(iv 0),(sv (bs [])),(iv 0),(iv 0),(bv false),(iv 0),(iv 0),(iv 0)])),(5,(iv x5))],[],0⟩
def x_verbO_0_0 (x0 : Int) (x1 : ByteArray) (x2 x3 : Bool) (x4 y5 : Int) : St := ⟨[],[(1,(iv x0)),(2,(.ea [(sv x1),(bv x2),(bv x3),(iv x4)])),(4,(.box [(iv 0),(iv 0),(iv 0),(iv 0),(.sl 2 []),(bv false),(iv 0),(iv 0),(iv 0),(sv (bs [])),(iv 0),(iv 0),(bv false),(iv 0),(iv 0),(iv 0)])),(5,(iv y5)),(24,(bv false))],[],0⟩
abbrev E_verbO_0 (x0 : Int) (x1 : ByteArray) (x2 x3 : Bool) (x4 x5o : Int) : Prop := (∃ y6,out_verbO_0_0 x0 x1 x2 x3 x4 x5o y6 ∧ R 78 0 (s_verbO_0 x0 x1 x2 x3 x4 x5o) ((.exit 0),x_verbO_0_0 x0 x1 x2 x3 x4 y6))
abbrev j_verbO_0 (nn : Nat) (x0 : Int) (x1 : ByteArray) (x2 x3 : Bool) (x4 x5o : Int) (f0 : Int → HC) : HC := ⟨.ev nn (.ask (eI fun y6=>.done (.exit (.exit 0) (x_verbO_0_0 x0 x1 x2 x3 x4 y6) (out_verbO_0_0 x0 x1 x2 x3 x4 x5o y6)) (f0 y6).h)),E_verbO_0 x0 x1 x2 x3 x4 x5o ∧ (∀ y6,out_verbO_0_0 x0 x1 x2 x3 x4 x5o y6 → (f0 y6).p)⟩
abbrev t_verbO_0 (x0 : Int) (x1 : ByteArray) (x2 x3 : Bool) (x4 x5 : Int) (Q : Ex → St → Prop) : HC := (dd 1 ((decide (x5 < (↑x1.size : Int)))) (oo 3 ((decide (0 ≤ x5))) (pU 1 ((Option.map (fun b=>Value.int IntKind.u8 (↑b.toNat : Int)) x1[x5.toNat]?)) fun x6=>(dd 3 ((!Int.ofNat x6.toNat == 41)) (zz 1 (Q .norm (s_verbO_0 x0 x1 x2 x3 x4 (w6 (x5 + 1))))) (zz 0 (Q (.exit 0) (x_verbO_0_0 x0 x1 x2 x3 x4 x5)))))) (zz 6 (Q (.exit 0) (x_verbO_0_0 x0 x1 x2 x3 x4 x5))))
theorem l_verbO_0 (x0 x1 x2 x3 x4 x5) (Q : Ex → St → Prop) (h : (t_verbO_0 x0 x1 x2 x3 x4 x5 Q).p) : ∃ e s',L 78 0 (s_verbO_0 x0 x1 x2 x3 x4 x5) (e,s') ∧ Q e s' :=
 Leads.wq (t_verbO_0 x0 x1 x2 x3 x4 x5 Q).h (by kernel_rfl) h
theorem k_verbO_0 {x0 x1 x2 x3 x4 x5o} (hi : inv_verbO_0 x0 x1 x2 x3 x4 x5o x5o) : E_verbO_0 x0 x1 x2 x3 x4 x5o := by
 obtain ⟨e,s',hr,hq⟩ := Rounds.byInv (st := fun (w : Int)=>s_verbO_0 x0 x1 x2 x3 x4 w) (Inv := fun w=>inv_verbO_0 x0 x1 x2 x3 x4 x5o w) (μ := fun w=>mu_verbO_0 x0 x1 x2 x3 x4 w) (Q := fun e s'=>(∃ y6,out_verbO_0_0 x0 x1 x2 x3 x4 x5o y6 ∧ e = (.exit 0) ∧ s' = x_verbO_0_0 x0 x1 x2 x3 x4 y6)) (by
  intro x5 hi
  have hi : inv_verbO_0 x0 x1 x2 x3 x4 x5o x5 := hi
  refine l_verbO_0 x0 x1 x2 x3 x4 x5 _ ?_
  obtain ⟨⟨_,_,_⟩,_,_⟩ := hi
  apply bS <;> intro _
  ·refine ⟨tD,tV,fun x8 _=>?_⟩
   have ux8 := u8_lt x8
   apply bS <;> intro _
   ·try have := tW (x5 + 1)
    exact .inl ⟨rfl,(w6 (x5 + 1)),rfl,tP,by unfold mu_verbO_0; exact tI⟩
   exact .inr ⟨by simp,⟨_,tP,rfl,rfl⟩⟩
  exact .inr ⟨by simp,⟨_,tP,rfl,rfl⟩⟩) x5o hi
 rcases hq with ⟨_,ho,rfl,rfl⟩
 exact ⟨_,ho,hr⟩
def s_verbO_1 (x0 x1 : Int) (x2 : ByteArray) (x3 : Int) : St := ⟨[],[(1,(iv x0)),(4,(.box [(iv 0),(iv 0),(iv 0),(iv 0),(.sl 2 []),(bv false),(iv 0),(iv 0),(iv 0),(sv (bs [])),(iv 0),(iv 0),(bv false),(iv 0),(iv 0),(iv 0)])),(5,(iv x1)),(6,(sv x2)),(7,(sv (bs []))),(8,(bv false)),(9,(iv x3))],[],0⟩
def x_verbO_1_0 (x0 x1 : Int) (x2 y3 y4 : ByteArray) : St := ⟨[],[(1,(iv x0)),(4,(.box [(iv 0),(iv 0),(iv 0),(iv 0),(.sl 2 []),(bv false),(iv 0),(iv 0),(iv 0),(sv (bs [])),(iv 0),(iv 0),(bv false),(iv 0),(iv 0),(iv 0)])),(5,(iv x1)),(6,(sv y3)),(7,(sv y4)),(8,(bv true))],[],0⟩
def x_verbO_1_1 (x0 x1 : Int) (x2 : ByteArray) (y3 : Int) : St := ⟨[],[(1,(iv x0)),(4,(.box [(iv 0),(iv 0),(iv 0),(iv 0),(.sl 2 []),(bv false),(iv 0),(iv 0),(iv 0),(sv (bs [])),(iv 0),(iv 0),(bv false),(iv 0),(iv 0),(iv 0)])),(5,(iv x1)),(6,(sv x2)),(7,(sv (bs []))),(8,(bv false)),(9,(iv y3)),(43,(bv false))],[],0⟩
abbrev E_verbO_1 (x0 x1 : Int) (x2 : ByteArray) (x3o : Int) : Prop := ((∃ y4 y5,out_verbO_1_0 x0 x1 x2 x3o y4 y5 ∧ R 78 1 (s_verbO_1 x0 x1 x2 x3o) ((Ex.exit 2),x_verbO_1_0 x0 x1 x2 y4 y5)) ∨ (∃ y4,out_verbO_1_1 x0 x1 x2 x3o y4 ∧ R 78 1 (s_verbO_1 x0 x1 x2 x3o) ((Ex.exit 2),x_verbO_1_1 x0 x1 x2 y4)))
abbrev j_verbO_1 (nn : Nat) (x0 x1 : Int) (x2 : ByteArray) (x3o : Int) (f0 : ByteArray → ByteArray → HC) (f1 : Int → HC) : HC := ⟨.ev nn (.ask (.or (eS fun y4=>eS fun y5=>.done (.exit (Ex.exit 2) (x_verbO_1_0 x0 x1 x2 y4 y5) (out_verbO_1_0 x0 x1 x2 x3o y4 y5)) (f0 y4 y5).h) (eI fun y4=>.done (.exit (Ex.exit 2) (x_verbO_1_1 x0 x1 x2 y4) (out_verbO_1_1 x0 x1 x2 x3o y4)) (f1 y4).h))),E_verbO_1 x0 x1 x2 x3o ∧ ((∀ y4 y5,out_verbO_1_0 x0 x1 x2 x3o y4 y5 → (f0 y4 y5).p) ∧ (∀ y4,out_verbO_1_1 x0 x1 x2 x3o y4 → (f1 y4).p))⟩
abbrev t_verbO_1 (x0 x1 : Int) (x2 : ByteArray) (x3 : Int) (Q : Ex → St → Prop) : HC := (dd 1 ((decide (x3 < (↑x2.size : Int)))) (oo 0 ((decide (0 ≤ x3))) (pU 1 ((Option.map (fun b=>Value.int IntKind.u8 (↑b.toNat : Int)) x2[x3.toNat]?)) fun x4=>(dd 1 ((Int.ofNat x4.toNat == 58)) (oo 1 ((decide (0 ≤ w6 (x3 + 1)))) (oo 1 ((((w6 (x3 + 1)).toNat.ble x2.size) && (x2.size.ble x2.size))) (oo 0 ((decide (0 ≤ x3))) (oo 1 ((true && (x3.toNat.ble x2.size))) (zz 0 (Q (Ex.exit 2) (x_verbO_1_0 x0 x1 x2 (x2.extract 0 x3.toNat) (x2.extract (w6 (x3 + 1)).toNat x2.size)))))))) (zz 1 (Q .norm (s_verbO_1 x0 x1 x2 (w6 (x3 + 1)))))))) (zz 0 (Q (Ex.exit 2) (x_verbO_1_1 x0 x1 x2 x3))))
theorem l_verbO_1 (x0 x1 x2 x3) (Q : Ex → St → Prop) (h : (t_verbO_1 x0 x1 x2 x3 Q).p) : ∃ e s',L 78 1 (s_verbO_1 x0 x1 x2 x3) (e,s') ∧ Q e s' :=
 Leads.wq (t_verbO_1 x0 x1 x2 x3 Q).h (by kernel_rfl) h
theorem k_verbO_1 {x0 x1 x2 x3o} (hi : inv_verbO_1 x0 x1 x2 x3o x3o) : E_verbO_1 x0 x1 x2 x3o := by
 obtain ⟨e,s',hr,hq⟩ := Rounds.byInv (st := fun (w : Int)=>s_verbO_1 x0 x1 x2 w) (Inv := fun w=>inv_verbO_1 x0 x1 x2 x3o w) (μ := fun w=>mu_verbO_1 x0 x1 x2 w) (Q := fun e s'=>((∃ y4 y5,out_verbO_1_0 x0 x1 x2 x3o y4 y5 ∧ e = (Ex.exit 2) ∧ s' = x_verbO_1_0 x0 x1 x2 y4 y5) ∨ (∃ y4,out_verbO_1_1 x0 x1 x2 x3o y4 ∧ e = (Ex.exit 2) ∧ s' = x_verbO_1_1 x0 x1 x2 y4))) (by
  intro x3 hi
  have hi : inv_verbO_1 x0 x1 x2 x3o x3 := hi
  refine l_verbO_1 x0 x1 x2 x3 _ ?_
  obtain ⟨_,_,_⟩ := hi
  apply bS <;> intro _
  ·refine ⟨tD,tV,fun x7 _=>?_⟩
   have ux7 := u8_lt x7
   apply bS <;> intro _
   ·try have := tW (x3 + 1)
    refine ⟨tD,tD,tD,tD,?_⟩
    exact .inr ⟨by simp,.inl ⟨_,_,tP,rfl,rfl⟩⟩
   try have := tW (x3 + 1)
   exact .inl ⟨rfl,(w6 (x3 + 1)),rfl,tP,by unfold mu_verbO_1; exact tI⟩
  exact .inr ⟨by simp,.inr (⟨_,tP,rfl,rfl⟩)⟩) x3o hi
 rcases hq with ⟨_,_,ho,rfl,rfl⟩ | ⟨_,ho,rfl,rfl⟩
 
 ·exact .inl ⟨_,_,ho,hr⟩
 ·exact .inr (⟨_,ho,hr⟩)
abbrev t_verbO (x0 : ByteArray) (x1 x2 : Bool) (x3 x4 : Int) (Q : AV → HH → Prop) : HC := (j_verbO_0 1 x4 x0 x1 x2 x3 (w6 (x4 + 2)) (fun x5=>(dd 1 ((x5 == (↑x0.size : Int))) (qq 7 Q (.agg (gZ 0 20 ((↑x0.size : Int))))) (oo 1 ((decide (0 ≤ w6 (x4 + 2)))) (oo 1 ((decide (0 ≤ x5))) (oo 1 ((((w6 (x4 + 2)).toNat.ble x5.toNat) && (x5.toNat.ble x0.size))) (j_verbO_1 0 x4 x5 (x0.extract (w6 (x4 + 2)).toNat x5.toNat) 0 (fun x6 x7=>(dd 1 ((x6.toList == (bs [65,67,67,69,80,84]).toList)) (dd 9 ((x7.toList == (bs []).toList)) (qq 13 Q (.agg (gZ 0 28 x4))) (qq 22 Q (.agg (gZ 0 28 x4)))) (dd 1 ((x6.toList == (bs [70,65,73,76]).toList)) (dd 10 ((x7.toList == (bs []).toList)) (qq 13 Q (.agg (gZ 0 28 x4))) (qq 23 Q (.agg (gZ 0 28 x4)))) (dd 1 ((x6.toList == (bs [70]).toList)) (dd 9 ((x7.toList == (bs []).toList)) (qq 13 Q (.agg (gZ 0 28 x4))) (qq 23 Q (.agg (gZ 0 28 x4)))) (dd 1 ((x6.toList == (bs [67,79,77,77,73,84]).toList)) (dd 9 ((x7.toList == (bs []).toList)) (qq 13 Q (.agg (gZ 0 28 x4))) (qq 28 Q (.agg (gR 13 x4 (w6 (x5 + 1)) 0 [] false 3 0 0 x7 0 0 true (w6 (x5 + 1)) 0 0)))) (dd 1 ((x6.toList == (bs [80,82,85,78,69]).toList)) (dd 9 ((x7.toList == (bs []).toList)) (qq 13 Q (.agg (gZ 0 28 x4))) (qq 28 Q (.agg (gR 13 x4 (w6 (x5 + 1)) 0 [] false 4 0 0 x7 0 0 true (w6 (x5 + 1)) 0 0)))) (dd 1 ((x6.toList == (bs [83,75,73,80]).toList)) (dd 9 ((x7.toList == (bs []).toList)) (qq 13 Q (.agg (gZ 0 28 x4))) (qq 28 Q (.agg (gR 13 x4 (w6 (x5 + 1)) 0 [] false 5 0 0 x7 0 0 true (w6 (x5 + 1)) 0 0)))) (dd 1 ((x6.toList == (bs [84,72,69,78]).toList)) (dd 9 ((x7.toList == (bs []).toList)) (qq 13 Q (.agg (gZ 0 28 x4))) (qq 28 Q (.agg (gR 13 x4 (w6 (x5 + 1)) 0 [] false 6 0 0 x7 0 0 true (w6 (x5 + 1)) 0 0)))) (dd 1 ((x6.toList == (bs [77,65,82,75]).toList)) (dd 10 ((x7.toList == (bs []).toList)) (qq 13 Q (.agg (gZ 0 28 x4))) (qq 28 Q (.agg (gR 13 x4 (w6 (x5 + 1)) 0 [] false 7 0 0 x7 0 0 true (w6 (x5 + 1)) 0 0)))) (dd 1 ((x6.toList == (bs []).toList)) (dd 9 ((x7.toList == (bs []).toList)) (qq 13 Q (.agg (gZ 0 28 x4))) (qq 28 Q (.agg (gR 13 x4 (w6 (x5 + 1)) 0 [] false 7 0 0 x7 0 0 true (w6 (x5 + 1)) 0 0)))) (qq 19 Q (.agg (gZ 0 28 x4))))))))))))) (fun x8=>(dd 1 (((x0.extract (w6 (x4 + 2)).toNat x5.toNat).toList == (bs [65,67,67,69,80,84]).toList)) (qq 33 Q (.agg (gR 13 x4 (w6 (x5 + 1)) 0 [] false 1 0 0 (bs []) 0 0 true (w6 (x5 + 1)) 0 0))) (dd 1 (((x0.extract (w6 (x4 + 2)).toNat x5.toNat).toList == (bs [70,65,73,76]).toList)) (qq 34 Q (.agg (gR 13 x4 (w6 (x5 + 1)) 0 [] false 2 0 0 (bs []) 0 0 true (w6 (x5 + 1)) 0 0))) (dd 1 (((x0.extract (w6 (x4 + 2)).toNat x5.toNat).toList == (bs [70]).toList)) (qq 33 Q (.agg (gR 13 x4 (w6 (x5 + 1)) 0 [] false 2 0 0 (bs []) 0 0 true (w6 (x5 + 1)) 0 0))) (dd 1 (((x0.extract (w6 (x4 + 2)).toNat x5.toNat).toList == (bs [67,79,77,77,73,84]).toList)) (qq 33 Q (.agg (gR 13 x4 (w6 (x5 + 1)) 0 [] false 3 0 0 (bs []) 0 0 true (w6 (x5 + 1)) 0 0))) (dd 1 (((x0.extract (w6 (x4 + 2)).toNat x5.toNat).toList == (bs [80,82,85,78,69]).toList)) (qq 33 Q (.agg (gR 13 x4 (w6 (x5 + 1)) 0 [] false 4 0 0 (bs []) 0 0 true (w6 (x5 + 1)) 0 0))) (dd 1 (((x0.extract (w6 (x4 + 2)).toNat x5.toNat).toList == (bs [83,75,73,80]).toList)) (qq 33 Q (.agg (gR 13 x4 (w6 (x5 + 1)) 0 [] false 5 0 0 (bs []) 0 0 true (w6 (x5 + 1)) 0 0))) (dd 1 (((x0.extract (w6 (x4 + 2)).toNat x5.toNat).toList == (bs [84,72,69,78]).toList)) (qq 33 Q (.agg (gR 13 x4 (w6 (x5 + 1)) 0 [] false 6 0 0 (bs []) 0 0 true (w6 (x5 + 1)) 0 0))) (dd 1 (((x0.extract (w6 (x4 + 2)).toNat x5.toNat).toList == (bs [77,65,82,75]).toList)) (qq 33 Q (.agg (gZ 0 28 x4))) (dd 1 (((x0.extract (w6 (x4 + 2)).toNat x5.toNat).toList == (bs []).toList)) (qq 32 Q (.agg (gZ 0 28 x4))) (qq 19 Q (.agg (gZ 0 28 x4))))))))))))))))))))
theorem w_verbO (x0 x1 x2 x3 x4) (Q : AV → HH → Prop) (h : (t_verbO x0 x1 x2 x3 x4 Q).p) : ∃ r H',A 78 [(.agg [(sv x0),(bv x1),(bv x2),(iv x3)]),(iv x4)] [] r H' ∧ Q r H' :=
 Ans.wq rfl (t_verbO x0 x1 x2 x3 x4 Q).h (by kernel_rfl) h
theorem c_verbO (x0 x1 x2 x3 x4) (hp : pre_verbO x0 x1 x2 x3 x4) : E_verbO x0 x1 x2 x3 x4 := by
 obtain ⟨_,_,ha,_,hq,rfl,rfl⟩ := w_verbO x0 x1 x2 x3 x4 (fun r H'=>∃ x5,post_verbO x0 x1 x2 x3 x4 x5 ∧ r = (.agg x5) ∧ H' = []) (by
  obtain ⟨⟨_,_,_⟩,_⟩ := hp
  try have := tW (x4 + 2)
  refine ⟨k_verbO_0 tP,fun x6 e7=>?_⟩
  obtain ⟨⟨_,_,_⟩,_,_⟩ := e7
  refine bS (fun _=>⟨_,tP,rfl,rfl⟩) fun _=>?_
  refine ⟨tD,tD,tD,k_verbO_1 tP,fun _ _ _=>?_,fun _ _=>?_⟩
  ·apply bS <;> intro h14
   ·try replace h14 := nz h14
    apply bS <;> intro h15
    ·try replace h15 := nz h15
     exact ⟨_,tP,rfl,rfl⟩
    try replace h15 := nz h15
    exact ⟨_,tP,rfl,rfl⟩
   try replace h14 := nz h14
   apply bS <;> intro h16
   ·try replace h16 := nz h16
    apply bS <;> intro h17
    ·try replace h17 := nz h17
     exact ⟨_,tP,rfl,rfl⟩
    try replace h17 := nz h17
    exact ⟨_,tP,rfl,rfl⟩
   try replace h16 := nz h16
   apply bS <;> intro h18
   ·try replace h18 := nz h18
    apply bS <;> intro h19
    ·try replace h19 := nz h19
     exact ⟨_,tP,rfl,rfl⟩
    try replace h19 := nz h19
    exact ⟨_,tP,rfl,rfl⟩
   try replace h18 := nz h18
   apply bS <;> intro h20
   ·try replace h20 := nz h20
    apply bS <;> intro h21
    ·try replace h21 := nz h21
     exact ⟨_,tP,rfl,rfl⟩
    try replace h21 := nz h21
    try have := tW (x6 + 1)
    exact ⟨_,tP,rfl,rfl⟩
   try replace h20 := nz h20
   apply bS <;> intro h22
   ·try replace h22 := nz h22
    apply bS <;> intro h23
    ·try replace h23 := nz h23
     exact ⟨_,tP,rfl,rfl⟩
    try replace h23 := nz h23
    try have := tW (x6 + 1)
    exact ⟨_,tP,rfl,rfl⟩
   try replace h22 := nz h22
   apply bS <;> intro h24
   ·try replace h24 := nz h24
    apply bS <;> intro h25
    ·try replace h25 := nz h25
     exact ⟨_,tP,rfl,rfl⟩
    try replace h25 := nz h25
    try have := tW (x6 + 1)
    exact ⟨_,tP,rfl,rfl⟩
   try replace h24 := nz h24
   apply bS <;> intro h26
   ·try replace h26 := nz h26
    apply bS <;> intro h27
    ·try replace h27 := nz h27
     exact ⟨_,tP,rfl,rfl⟩
    try replace h27 := nz h27
    try have := tW (x6 + 1)
    exact ⟨_,tP,rfl,rfl⟩
   try replace h26 := nz h26
   apply bS <;> intro h28
   ·try replace h28 := nz h28
    apply bS <;> intro h29
    ·try replace h29 := nz h29
     exact ⟨_,tP,rfl,rfl⟩
    try replace h29 := nz h29
    try have := tW (x6 + 1)
    exact ⟨_,tP,rfl,rfl⟩
   try replace h28 := nz h28
   apply bS <;> intro h30
   ·try replace h30 := nz h30
    apply bS <;> intro h31
    ·try replace h31 := nz h31
     exact ⟨_,tP,rfl,rfl⟩
    try replace h31 := nz h31
    try have := tW (x6 + 1)
    exact ⟨_,tP,rfl,rfl⟩
   try replace h30 := nz h30
   exact ⟨_,tP,rfl,rfl⟩
  apply bS <;> intro h32
  ·try replace h32 := nz h32
   try have := tW (x6 + 1)
   exact ⟨_,tP,rfl,rfl⟩
  try replace h32 := nz h32
  apply bS <;> intro h33
  ·try replace h33 := nz h33
   try have := tW (x6 + 1)
   exact ⟨_,tP,rfl,rfl⟩
  try replace h33 := nz h33
  apply bS <;> intro h34
  ·try replace h34 := nz h34
   try have := tW (x6 + 1)
   exact ⟨_,tP,rfl,rfl⟩
  try replace h34 := nz h34
  apply bS <;> intro h35
  ·try replace h35 := nz h35
   try have := tW (x6 + 1)
   exact ⟨_,tP,rfl,rfl⟩
  try replace h35 := nz h35
  apply bS <;> intro h36
  ·try replace h36 := nz h36
   try have := tW (x6 + 1)
   exact ⟨_,tP,rfl,rfl⟩
  try replace h36 := nz h36
  apply bS <;> intro h37
  ·try replace h37 := nz h37
   try have := tW (x6 + 1)
   exact ⟨_,tP,rfl,rfl⟩
  try replace h37 := nz h37
  apply bS <;> intro h38
  ·try replace h38 := nz h38
   try have := tW (x6 + 1)
   exact ⟨_,tP,rfl,rfl⟩
  try replace h38 := nz h38
  apply bS <;> intro h39
  ·try replace h39 := nz h39
   exact ⟨_,tP,rfl,rfl⟩
  try replace h39 := nz h39
  apply bS <;> intro h40
  ·try replace h40 := nz h40
   exact ⟨_,tP,rfl,rfl⟩
  try replace h40 := nz h40
  exact ⟨_,tP,rfl,rfl⟩)
 exact ⟨_,hq,ha⟩
abbrev E_openTO (x0 : ByteArray) (x1 x2 : Bool) (x3 x4 : Int) : Prop := ∃ l,post_openTO x0 x1 x2 x3 x4 l ∧ A 48 [(.agg [(sv x0),(bv x1),(bv x2),(iv x3)]),(iv x4)] [] (.agg l) []
abbrev j_openTO (nn : Nat) (x0 : ByteArray) (x1 x2 : Bool) (x3 x4 : Int) (kK : Int → Int → Int → Int → List AV → Bool → Int → Int → Int → ByteArray → Int → Int → Bool → Int → Int → Int → HC) : HC := ⟨.ev nn (.ask (eG fun x5 x6 x7 x8 x9 x10 x11 x12 x13 x14 x15 x16 x17 x18 x19 x20=>.done (.res (.agg (gR x5 x6 x7 x8 x9 x10 x11 x12 x13 x14 x15 x16 x17 x18 x19 x20)) [] (post_openTO x0 x1 x2 x3 x4 (gR x5 x6 x7 x8 x9 x10 x11 x12 x13 x14 x15 x16 x17 x18 x19 x20))) ((kK x5 x6 x7 x8 x9 x10 x11 x12 x13 x14 x15 x16 x17 x18 x19 x20).h))),(∃ x5 x6 x7 x8 x9 x10 x11 x12 x13 x14 x15 x16 x17 x18 x19 x20,post_openTO x0 x1 x2 x3 x4 (gR x5 x6 x7 x8 x9 x10 x11 x12 x13 x14 x15 x16 x17 x18 x19 x20) ∧ A 48 [(.agg [(sv x0),(bv x1),(bv x2),(iv x3)]),(iv x4)] [] (.agg (gR x5 x6 x7 x8 x9 x10 x11 x12 x13 x14 x15 x16 x17 x18 x19 x20)) []) ∧ (∀ x5 x6 x7 x8 x9 x10 x11 x12 x13 x14 x15 x16 x17 x18 x19 x20,post_openTO x0 x1 x2 x3 x4 (gR x5 x6 x7 x8 x9 x10 x11 x12 x13 x14 x15 x16 x17 x18 x19 x20) → (kK x5 x6 x7 x8 x9 x10 x11 x12 x13 x14 x15 x16 x17 x18 x19 x20).p)⟩
def s_openTO_1 (x0 : ByteArray) (x1 x2 : Bool) (x3 x4 : Int) : St := ⟨[],[(2,(.ea [(sv x0),(bv x1),(bv x2),(iv x3)])),(4,(.box [(iv 0),(iv 0),(iv 0),(iv 0),(.sl 2 []),(bv false),(iv 0),(iv 0),(iv 0),(sv (bs [])),(iv 0),(iv 0),(bv false),(iv 0),(iv 0),(iv 0)])),(5,(iv x4))],[],0⟩
def x_openTO_1_0 (x0 : ByteArray) (x1 x2 : Bool) (x3 y4 : Int) : St := ⟨[],[(2,(.ea [(sv x0),(bv x1),(bv x2),(iv x3)])),(4,(.box [(iv 0),(iv 0),(iv 0),(iv 0),(.sl 2 []),(bv false),(iv 0),(iv 0),(iv 0),(sv (bs [])),(iv 0),(iv 0),(bv false),(iv 0),(iv 0),(iv 0)])),(5,(iv y4)),(89,(bv false))],[],0⟩
abbrev E_openTO_1 (x0 : ByteArray) (x1 x2 : Bool) (x3 x4o : Int) : Prop := (∃ y5,out_openTO_1_0 x0 x1 x2 x3 x4o y5 ∧ R 48 1 (s_openTO_1 x0 x1 x2 x3 x4o) ((Ex.exit 3),x_openTO_1_0 x0 x1 x2 x3 y5))
abbrev j_openTO_1 (nn : Nat) (x0 : ByteArray) (x1 x2 : Bool) (x3 x4o : Int) (f0 : Int → HC) : HC := ⟨.ev nn (.ask (eI fun y5=>.done (.exit (Ex.exit 3) (x_openTO_1_0 x0 x1 x2 x3 y5) (out_openTO_1_0 x0 x1 x2 x3 x4o y5)) (f0 y5).h)),E_openTO_1 x0 x1 x2 x3 x4o ∧ (∀ y5,out_openTO_1_0 x0 x1 x2 x3 x4o y5 → (f0 y5).p)⟩
abbrev t_openTO_1 (x0 : ByteArray) (x1 x2 : Bool) (x3 x4 : Int) (Q : Ex → St → Prop) : HC := (dd 1 ((decide (x4 < (↑x0.size : Int)))) (oo 3 ((decide (0 ≤ x4))) (pU 1 ((Option.map (fun b=>Value.int IntKind.u8 (↑b.toNat : Int)) x0[x4.toNat]?)) fun x5=>(dd 3 ((!Int.ofNat x5.toNat == 41)) (zz 1 (Q .norm (s_openTO_1 x0 x1 x2 x3 (w6 (x4 + 1))))) (zz 0 (Q (Ex.exit 3) (x_openTO_1_0 x0 x1 x2 x3 x4)))))) (zz 6 (Q (Ex.exit 3) (x_openTO_1_0 x0 x1 x2 x3 x4))))
theorem l_openTO_1 (x0 x1 x2 x3 x4) (Q : Ex → St → Prop) (h : (t_openTO_1 x0 x1 x2 x3 x4 Q).p) : ∃ e s',L 48 1 (s_openTO_1 x0 x1 x2 x3 x4) (e,s') ∧ Q e s' :=
 Leads.wq (t_openTO_1 x0 x1 x2 x3 x4 Q).h (by kernel_rfl) h
theorem k_openTO_1 {x0 x1 x2 x3 x4o} (hi : inv_openTO_1 x0 x1 x2 x3 x4o x4o) : E_openTO_1 x0 x1 x2 x3 x4o := by
 obtain ⟨e,s',hr,hq⟩ := Rounds.byInv (st := fun (w : Int)=>s_openTO_1 x0 x1 x2 x3 w) (Inv := fun w=>inv_openTO_1 x0 x1 x2 x3 x4o w) (μ := fun w=>mu_openTO_1 x0 x1 x2 x3 w) (Q := fun e s'=>(∃ y5,out_openTO_1_0 x0 x1 x2 x3 x4o y5 ∧ e = (Ex.exit 3) ∧ s' = x_openTO_1_0 x0 x1 x2 x3 y5)) (by
  intro x4 hi
  have hi : inv_openTO_1 x0 x1 x2 x3 x4o x4 := hi
  refine l_openTO_1 x0 x1 x2 x3 x4 _ ?_
  obtain ⟨_,_,_,_⟩ := hi
  apply bS <;> intro _
  ·refine ⟨tD,tV,fun x7 _=>?_⟩
   have ux7 := u8_lt x7
   apply bS <;> intro _
   ·try have := tW (x4 + 1)
    exact .inl ⟨rfl,(w6 (x4 + 1)),rfl,tP,by unfold mu_openTO_1; exact tI⟩
   exact .inr ⟨by simp,⟨_,tP,rfl,rfl⟩⟩
  exact .inr ⟨by simp,⟨_,tP,rfl,rfl⟩⟩) x4o hi
 rcases hq with ⟨_,ho,rfl,rfl⟩
 exact ⟨_,ho,hr⟩
abbrev t_openTO (x0 : ByteArray) (x1 x2 : Bool) (x3 x4 : Int) (Q : AV → HH → Prop) : HC := (j_is 2 x0 x1 x2 x3 (w6 (x4 + 1)) (bs [42]) fun x5=>(dd 0 x5 (j_verbO 1 x0 x1 x2 x3 x4 fun x6 x7 x8 x9 x10 x11 x12 x13 x14 x15 x16 x17 x18 x19 x20 x21=>(qq 1 Q (.agg (gR x6 x7 x8 x9 x10 x11 x12 x13 x14 x15 x16 x17 x18 x19 x20 x21)))) (j_is 2 x0 x1 x2 x3 (w6 (x4 + 1)) (bs [63]) fun x22=>(dd 1 ((!x22)) (qq 5 Q (.agg (gR 10 x4 (w6 (x4 + 1)) 0 [] false 1 0 0 (bs []) 0 0 true (w6 (x4 + 1)) 0 0))) (dd 2 ((w6 (x4 + 2) == (↑x0.size : Int))) (qq 7 Q (.agg (gZ 0 20 ((↑x0.size : Int))))) (j_is 7 x0 x1 x2 x3 (w6 (x4 + 2)) (bs [58]) fun x23=>(dd 0 x23 (qq 11 Q (.agg (gR 10 x4 (w6 (w6 (x4 + 2) + 1)) 0 [] false 2 0 0 (bs []) 0 0 true (w6 (w6 (x4 + 2) + 1)) 0 0))) (j_is 8 x0 x1 x2 x3 (w6 (x4 + 2)) (bs [124]) fun x24=>(dd 0 x24 (qq 11 Q (.agg (gR 10 x4 (w6 (w6 (x4 + 2) + 1)) 0 [] false 3 0 0 (bs []) 0 0 true (w6 (w6 (x4 + 2) + 1)) 0 0))) (j_is 8 x0 x1 x2 x3 (w6 (x4 + 2)) (bs [62]) fun x25=>(dd 0 x25 (qq 11 Q (.agg (gR 10 x4 (w6 (w6 (x4 + 2) + 1)) 0 [] false 4 0 0 (bs []) 0 0 true (w6 (w6 (x4 + 2) + 1)) 0 0))) (j_is 8 x0 x1 x2 x3 (w6 (x4 + 2)) (bs [61]) fun x26=>(dd 0 x26 (qq 11 Q (.agg (gR 10 x4 (w6 (w6 (x4 + 2) + 1)) 0 [] false 5 0 0 (bs []) 0 0 true (w6 (w6 (x4 + 2) + 1)) 0 0))) (j_is 8 x0 x1 x2 x3 (w6 (x4 + 2)) (bs [33]) fun x27=>(dd 0 x27 (qq 11 Q (.agg (gR 10 x4 (w6 (w6 (x4 + 2) + 1)) 0 [] false 6 0 0 (bs []) 0 0 true (w6 (w6 (x4 + 2) + 1)) 0 0))) (j_is 8 x0 x1 x2 x3 (w6 (x4 + 2)) (bs [60,61]) fun x28=>(dd 0 x28 (qq 11 Q (.agg (gR 10 x4 (w6 (w6 (x4 + 2) + 2)) 0 [] false 7 0 0 (bs []) 0 0 true (w6 (w6 (x4 + 2) + 2)) 0 0))) (j_is 8 x0 x1 x2 x3 (w6 (x4 + 2)) (bs [60,33]) fun x29=>(dd 0 x29 (qq 11 Q (.agg (gR 10 x4 (w6 (w6 (x4 + 2) + 2)) 0 [] false 8 0 0 (bs []) 0 0 true (w6 (w6 (x4 + 2) + 2)) 0 0))) (j_is 5 x0 x1 x2 x3 (w6 (x4 + 2)) (bs [35]) fun x30=>(dd 0 x30 (dd 2 ((decide (w6 (x4 + 2) < (↑x0.size : Int)))) (oo 3 ((decide (0 ≤ w6 (x4 + 2)))) (pU 1 ((Option.map (fun b=>Value.int IntKind.u8 (↑b.toNat : Int)) x0[(w6 (x4 + 2)).toNat]?)) fun x31=>(dd 3 ((!Int.ofNat x31.toNat == 41)) (j_openTO_1 1 x0 x1 x2 x3 (w6 (w6 (x4 + 2) + 1)) (fun x32=>(dd 1 ((x32 == (↑x0.size : Int))) (qq 7 Q (.agg (gZ 0 20 ((↑x0.size : Int))))) (qq 2 Q (.agg (gZ (w6 (x32 + 1)) 0 0)))))) (nn 1 ((w6 (x4 + 2) == (↑x0.size : Int))) (qq 2 Q (.agg (gZ (w6 (w6 (x4 + 2) + 1)) 0 0))))))) (nn 7 ((w6 (x4 + 2) == (↑x0.size : Int))) (qq 2 Q (.agg (gZ (w6 (w6 (x4 + 2) + 1)) 0 0))))) (j_is 1 x0 x1 x2 x3 (w6 (x4 + 2)) (bs [80,60]) fun x33=>(dd 0 x33 (j_calledO 2 x0 x1 x2 x3 10 0 0 0 [] false 1 0 0 (bs []) 0 0 x4 (w6 (w6 (x4 + 2) + 2)) (bs [62]) fun x34 x35 x36 x37 x38 x39 x40 x41 x42 x43 x44 x45 x46 x47 x48 x49=>(qq 1 Q (.agg (gR x34 x35 x36 x37 x38 x39 x40 x41 x42 x43 x44 x45 x46 x47 x48 x49)))) (j_is 1 x0 x1 x2 x3 (w6 (x4 + 2)) (bs [60]) fun x50=>(dd 0 x50 (j_calledO 2 x0 x1 x2 x3 10 0 0 0 [] false 1 0 0 (bs []) 0 0 x4 (w6 (w6 (x4 + 2) + 1)) (bs [62]) fun x51 x52 x53 x54 x55 x56 x57 x58 x59 x60 x61 x62 x63 x64 x65 x66=>(qq 1 Q (.agg (gR x51 x52 x53 x54 x55 x56 x57 x58 x59 x60 x61 x62 x63 x64 x65 x66)))) (j_is 1 x0 x1 x2 x3 (w6 (x4 + 2)) (bs [39]) fun x67=>(dd 0 x67 (j_calledO 2 x0 x1 x2 x3 10 0 0 0 [] false 1 0 0 (bs []) 0 0 x4 (w6 (w6 (x4 + 2) + 1)) (bs [39]) fun x68 x69 x70 x71 x72 x73 x74 x75 x76 x77 x78 x79 x80 x81 x82 x83=>(qq 1 Q (.agg (gR x68 x69 x70 x71 x72 x73 x74 x75 x76 x77 x78 x79 x80 x81 x82 x83)))) (j_is 1 x0 x1 x2 x3 (w6 (x4 + 2)) (bs [80,61]) fun x84=>(dd 0 x84 (j_calledO 2 x0 x1 x2 x3 11 0 0 0 [] false 0 3 0 (bs []) 0 0 x4 (w6 (w6 (x4 + 2) + 2)) (bs [41]) fun x85 x86 x87 x88 x89 x90 x91 x92 x93 x94 x95 x96 x97 x98 x99 x100=>(qq 1 Q (.agg (gR x85 x86 x87 x88 x89 x90 x91 x92 x93 x94 x95 x96 x97 x98 x99 x100)))) (j_is 1 x0 x1 x2 x3 (w6 (x4 + 2)) (bs [80,62]) fun x101=>(dd 0 x101 (j_calledO 2 x0 x1 x2 x3 12 0 0 0 [] false 0 3 0 (bs []) 0 0 x4 (w6 (w6 (x4 + 2) + 2)) (bs [41]) fun x102 x103 x104 x105 x106 x107 x108 x109 x110 x111 x112 x113 x114 x115 x116 x117=>(qq 1 Q (.agg (gR x102 x103 x104 x105 x106 x107 x108 x109 x110 x111 x112 x113 x114 x115 x116 x117)))) (j_is 1 x0 x1 x2 x3 (w6 (x4 + 2)) (bs [38]) fun x118=>(dd 0 x118 (j_calledO 2 x0 x1 x2 x3 12 0 0 0 [] false 0 3 0 (bs []) 0 0 x4 (w6 (w6 (x4 + 2) + 1)) (bs [41]) fun x119 x120 x121 x122 x123 x124 x125 x126 x127 x128 x129 x130 x131 x132 x133 x134=>(qq 1 Q (.agg (gR x119 x120 x121 x122 x123 x124 x125 x126 x127 x128 x129 x130 x131 x132 x133 x134)))) (j_is 1 x0 x1 x2 x3 (w6 (x4 + 2)) (bs [82]) fun x135=>(dd 0 x135 (j_shutO 2 x0 x1 x2 x3 12 0 0 0 [] false 0 0 0 (bs []) 0 0 x4 (w6 (w6 (x4 + 2) + 1)) (bs [41]) 26 fun x136 x137 x138 x139 x140 x141 x142 x143 x144 x145 x146 x147 x148 x149 x150 x151=>(qq 1 Q (.agg (gR x136 x137 x138 x139 x140 x141 x142 x143 x144 x145 x146 x147 x148 x149 x150 x151)))) (j_is 1 x0 x1 x2 x3 (w6 (x4 + 2)) (bs [67]) fun x152=>(dd 0 x152 (j_number 2 x0 x1 x2 x3 (w6 (w6 (x4 + 2) + 1)) fun x153 x154 x155=>(dd 0 x155 (qq 4 Q (.agg (gZ 0 25 x4))) (j_shutO 1 x0 x1 x2 x3 14 0 0 0 [] false x153 0 0 (bs []) 0 0 x4 x154 (bs [41]) 26 fun x156 x157 x158 x159 x160 x161 x162 x163 x164 x165 x166 x167 x168 x169 x170 x171=>(qq 1 Q (.agg (gR x156 x157 x158 x159 x160 x161 x162 x163 x164 x165 x166 x167 x168 x169 x170 x171)))))) (j_is 1 x0 x1 x2 x3 (w6 (x4 + 2)) (bs [40]) fun x172=>(dd 0 x172 (j_conditionO 2 x0 x1 x2 x3 x4 (w6 (w6 (x4 + 2) + 1)) fun x173 x174 x175 x176 x177 x178 x179 x180 x181 x182 x183 x184 x185 x186 x187 x188=>(qq 1 Q (.agg (gR x173 x174 x175 x176 x177 x178 x179 x180 x181 x182 x183 x184 x185 x186 x187 x188)))) (oo 0 ((decide (0 ≤ w6 (x4 + 2)))) (pU 1 ((Option.map (fun b=>Value.int IntKind.u8 (↑b.toNat : Int)) x0[(w6 (x4 + 2)).toNat]?)) fun x189=>(dd 1 ((Int.ofNat x189.toNat == 43)) (j_signed 17 x0 x1 x2 x3 (w6 (x4 + 2)) fun x190 x191 x192 x193=>(dd 0 x193 (qq 4 Q (.agg (gZ 0 25 x4))) (dd 1 ((x192 == w6 (x4 + 2))) (dd 2 ((w6 (w6 (x4 + 2) + 1) == (↑x0.size : Int))) (qq 7 Q (.agg (gZ 0 20 ((↑x0.size : Int))))) (qq 4 Q (.agg (gZ 0 26 x4)))) (j_shutO 1 x0 x1 x2 x3 12 0 0 0 [] false x190 x191 0 (bs []) 0 0 x4 x192 (bs [41]) 26 fun x194 x195 x196 x197 x198 x199 x200 x201 x202 x203 x204 x205 x206 x207 x208 x209=>(dd 1 ((x208 == 0)) (dd 3 ((x190 == 0)) (dd 3 ((!x191 == 0)) (qq 4 Q (.agg (gZ 0 25 x4))) (qq 1 Q (.agg (gR x194 x195 x196 x197 x198 x199 x200 x201 x202 x203 x204 x205 x206 x207 x208 x209)))) (qq 4 Q (.agg (gR x194 x195 x196 x197 x198 x199 x200 x201 x202 x203 x204 x205 x206 x207 x208 x209)))) (qq 7 Q (.agg (gR x194 x195 x196 x197 x198 x199 x200 x201 x202 x203 x204 x205 x206 x207 x208 x209)))))))) (oo 3 ((decide (0 ≤ w6 (x4 + 2)))) (pU 1 ((Option.map (fun b=>Value.int IntKind.u8 (↑b.toNat : Int)) x0[(w6 (x4 + 2)).toNat]?)) fun x210=>(j_digit 2 (Int.ofNat x210.toNat) fun x211=>(dd 1 x211 (j_signed 11 x0 x1 x2 x3 (w6 (x4 + 2)) fun x212 x213 x214 x215=>(dd 0 x215 (qq 4 Q (.agg (gZ 0 25 x4))) (dd 1 ((x214 == w6 (x4 + 2))) (dd 2 ((w6 (w6 (x4 + 2) + 1) == (↑x0.size : Int))) (qq 7 Q (.agg (gZ 0 20 ((↑x0.size : Int))))) (qq 4 Q (.agg (gZ 0 26 x4)))) (j_shutO 1 x0 x1 x2 x3 12 0 0 0 [] false x212 x213 0 (bs []) 0 0 x4 x214 (bs [41]) 26 fun x216 x217 x218 x219 x220 x221 x222 x223 x224 x225 x226 x227 x228 x229 x230 x231=>(dd 1 ((x230 == 0)) (dd 3 ((x212 == 0)) (dd 3 ((!x213 == 0)) (qq 4 Q (.agg (gZ 0 25 x4))) (qq 1 Q (.agg (gR x216 x217 x218 x219 x220 x221 x222 x223 x224 x225 x226 x227 x228 x229 x230 x231)))) (qq 4 Q (.agg (gR x216 x217 x218 x219 x220 x221 x222 x223 x224 x225 x226 x227 x228 x229 x230 x231)))) (qq 7 Q (.agg (gR x216 x217 x218 x219 x220 x221 x222 x223 x224 x225 x226 x227 x228 x229 x230 x231)))))))) (oo 3 ((decide (0 ≤ w6 (x4 + 2)))) (pU 1 ((Option.map (fun b=>Value.int IntKind.u8 (↑b.toNat : Int)) x0[(w6 (x4 + 2)).toNat]?)) fun x232=>(dd 3 ((Int.ofNat x232.toNat == 45)) (dd 10 ((decide (w6 (w6 (x4 + 2) + 1) < (↑x0.size : Int)))) (oo 5 ((decide (0 ≤ w6 (w6 (x4 + 2) + 1)))) (pU 1 ((Option.map (fun b=>Value.int IntKind.u8 (↑b.toNat : Int))   x0[(w6 (w6 (x4 + 2) + 1)).toNat]?)) fun x233=>(j_digit 2 (Int.ofNat x233.toNat) fun x234=>(dd 3 x234 (j_signed 1 x0 x1 x2 x3 (w6 (x4 + 2)) fun x235 x236 x237 x238=>(dd 0 x238 (qq 4 Q (.agg (gZ 0 25 x4))) (dd 1 ((x237 == w6 (x4 + 2))) (dd 2 ((w6 (w6 (x4 + 2) + 1) == (↑x0.size : Int))) (qq 7 Q (.agg (gZ 0 20 ((↑x0.size : Int))))) (qq 4 Q (.agg (gZ 0 26 x4)))) (j_shutO 1 x0 x1 x2 x3 12 0 0 0 [] false x235 x236 0 (bs []) 0 0 x4 x237 (bs [41]) 26 fun x239 x240 x241 x242 x243 x244 x245 x246 x247 x248 x249 x250 x251 x252 x253 x254=>(dd 1 ((x253 == 0)) (dd 3 ((x235 == 0)) (dd 3 ((!x236 == 0)) (qq 4 Q (.agg (gZ 0 25 x4))) (qq 1 Q (.agg (gR x239 x240 x241 x242 x243 x244 x245 x246 x247 x248 x249 x250 x251 x252 x253 x254)))) (qq 4 Q (.agg (gR x239 x240 x241 x242 x243 x244 x245 x246 x247 x248 x249 x250 x251 x252 x253 x254)))) (qq 7 Q (.agg (gR x239 x240 x241 x242 x243 x244 x245 x246 x247 x248 x249 x250 x251 x252 x253 x254)))))))) (j_flagsO 1 x0 x1 x2 x3 x4 (w6 (x4 + 2)) fun x255 x256 x257 x258 x259 x260 x261 x262 x263 x264 x265 x266 x267 x268 x269 x270=>(qq 1 Q (.agg (gR x255 x256 x257 x258 x259 x260 x261 x262 x263 x264 x265 x266 x267 x268 x269 x270)))))))) (j_flagsO 10 x0 x1 x2 x3 x4 (w6 (x4 + 2)) fun x271 x272 x273 x274 x275 x276 x277 x278 x279 x280 x281 x282 x283 x284 x285 x286=>(qq 1 Q (.agg (gR x271 x272 x273 x274 x275 x276 x277 x278 x279 x280 x281 x282 x283 x284 x285 x286))))) (j_flagsO 19 x0 x1 x2 x3 x4 (w6 (x4 + 2)) fun x287 x288 x289 x290 x291 x292 x293 x294 x295 x296 x297 x298 x299 x300 x301 x302=>(qq 1 Q (.agg (gR x287 x288 x289 x290 x291 x292 x293 x294 x295 x296 x297 x298 x299 x300 x301 x302)))))))))))))))))))))))))))))))))))))))))))))))))))))
theorem w_openTO (x0 x1 x2 x3 x4) (Q : AV → HH → Prop) (h : (t_openTO x0 x1 x2 x3 x4 Q).p) : ∃ r H',A 48 [(.agg [(sv x0),(bv x1),(bv x2),(iv x3)]),(iv x4)] [] r H' ∧ Q r H' :=
 Ans.wq rfl (t_openTO x0 x1 x2 x3 x4 Q).h (by kernel_rfl) h
theorem c_openTO (x0 x1 x2 x3 x4) (hp : pre_openTO x0 x1 x2 x3 x4) : E_openTO x0 x1 x2 x3 x4 := by
 obtain ⟨_,_,ha,_,hq,rfl,rfl⟩ := w_openTO x0 x1 x2 x3 x4 (fun r H'=>∃ x5,post_openTO x0 x1 x2 x3 x4 x5 ∧ r = (.agg x5) ∧ H' = []) (by
  obtain ⟨_,_,_⟩ := hp
  try have := tW (x4 + 1)
  refine ⟨c_is (tC),fun _ p7=>?_⟩
  obtain ⟨p7_0,p7_1⟩ := p7
  try replace p7_0 := nz p7_0
  try replace p7_1 := nz p7_1
  apply bS <;> intro h8
  ·have p7_0c := p7_0 h8
   refine ⟨GotL.words (c_verbO x0 x1 x2 x3 x4 (tC)),fun _ _ _ _ _ _ _ _ _ _ _ _ _ _ _ _ _=>?_⟩
   exact ⟨_,tO,rfl,rfl⟩
  refine ⟨c_is (tC),fun _ p27=>?_⟩
  obtain ⟨p27_0,p27_1⟩ := p27
  try replace p27_0 := nz p27_0
  try replace p27_1 := nz p27_1
  refine bS (fun h28=>⟨_,tO,rfl,rfl⟩) fun h28=>?_
  have p27_0c := p27_0 h28
  try have := tW (x4 + 2)
  refine bS (fun _=>⟨_,tO,rfl,rfl⟩) fun _=>?_
  refine ⟨c_is (tC),fun _ p31=>?_⟩
  obtain ⟨p31_0,p31_1⟩ := p31
  try replace p31_0 := nz p31_0
  try replace p31_1 := nz p31_1
  apply bS <;> intro h32
  ·have p31_0c := p31_0 h32
   try have := tW (w6 (x4 + 2) + 1)
   exact ⟨_,tO,rfl,rfl⟩
  refine ⟨c_is (tC),fun _ p34=>?_⟩
  obtain ⟨p34_0,p34_1⟩ := p34
  try replace p34_0 := nz p34_0
  try replace p34_1 := nz p34_1
  apply bS <;> intro h35
  ·have p34_0c := p34_0 h35
   try have := tW (w6 (x4 + 2) + 1)
   exact ⟨_,tO,rfl,rfl⟩
  refine ⟨c_is (tC),fun _ p37=>?_⟩
  obtain ⟨p37_0,p37_1⟩ := p37
  try replace p37_0 := nz p37_0
  try replace p37_1 := nz p37_1
  apply bS <;> intro h38
  ·have p37_0c := p37_0 h38
   try have := tW (w6 (x4 + 2) + 1)
   exact ⟨_,tO,rfl,rfl⟩
  refine ⟨c_is (tC),fun _ p40=>?_⟩
  obtain ⟨p40_0,p40_1⟩ := p40
  try replace p40_0 := nz p40_0
  try replace p40_1 := nz p40_1
  apply bS <;> intro h41
  ·have p40_0c := p40_0 h41
   try have := tW (w6 (x4 + 2) + 1)
   exact ⟨_,tO,rfl,rfl⟩
  refine ⟨c_is (tC),fun _ p43=>?_⟩
  obtain ⟨p43_0,p43_1⟩ := p43
  try replace p43_0 := nz p43_0
  try replace p43_1 := nz p43_1
  apply bS <;> intro h44
  ·have p43_0c := p43_0 h44
   try have := tW (w6 (x4 + 2) + 1)
   exact ⟨_,tO,rfl,rfl⟩
  refine ⟨c_is (tC),fun _ p46=>?_⟩
  obtain ⟨p46_0,p46_1⟩ := p46
  try replace p46_0 := nz p46_0
  try replace p46_1 := nz p46_1
  apply bS <;> intro h47
  ·have p46_0c := p46_0 h47
   try have := tW (w6 (x4 + 2) + 2)
   exact ⟨_,tO,rfl,rfl⟩
  refine ⟨c_is (tC),fun _ p49=>?_⟩
  obtain ⟨p49_0,p49_1⟩ := p49
  try replace p49_0 := nz p49_0
  try replace p49_1 := nz p49_1
  apply bS <;> intro h50
  ·have p49_0c := p49_0 h50
   try have := tW (w6 (x4 + 2) + 2)
   exact ⟨_,tO,rfl,rfl⟩
  refine ⟨c_is (tC),fun _ p52=>?_⟩
  obtain ⟨p52_0,p52_1⟩ := p52
  try replace p52_0 := nz p52_0
  try replace p52_1 := nz p52_1
  apply bS <;> intro h53
  ·have p52_0c := p52_0 h53
   apply bS <;> intro _
   ·refine ⟨tD,tV,fun x55 _=>?_⟩
    have ux55 := u8_lt x55
    apply bS <;> intro _
    ·try have := tW (w6 (x4 + 2) + 1)
     refine ⟨k_openTO_1 tP,fun x58 e59=>?_⟩
     obtain ⟨_,_,_⟩ := e59
     refine bS (fun _=>⟨_,tO,rfl,rfl⟩) fun _=>?_
     try have := tW (x58 + 1)
     exact ⟨_,tO,rfl,rfl⟩
    refine ⟨tD,?_⟩
    try have := tW (w6 (x4 + 2) + 1)
    exact ⟨_,tO,rfl,rfl⟩
   refine ⟨tD,?_⟩
   try have := tW (w6 (x4 + 2) + 1)
   exact ⟨_,tO,rfl,rfl⟩
  refine ⟨c_is (tC),fun _ p62=>?_⟩
  obtain ⟨p62_0,p62_1⟩ := p62
  try replace p62_0 := nz p62_0
  try replace p62_1 := nz p62_1
  apply bS <;> intro h63
  ·have p62_0c := p62_0 h63
   try have := tW (w6 (x4 + 2) + 2)
   refine ⟨GotL.words (c_calledO x0 x1 x2 x3 10 0 0 0 [] false 1 0 0 (bs []) 0 0 x4 (w6 (w6 (x4 + 2) + 2)) (bs [62]) (tC)),fun _ _ _ _ _ _ _ _ _ _ _ _ _ _ _ _ _=>?_⟩
   exact ⟨_,tO,rfl,rfl⟩
  refine ⟨c_is (tC),fun _ p82=>?_⟩
  obtain ⟨p82_0,p82_1⟩ := p82
  try replace p82_0 := nz p82_0
  try replace p82_1 := nz p82_1
  apply bS <;> intro h83
  ·have p82_0c := p82_0 h83
   try have := tW (w6 (x4 + 2) + 1)
   refine ⟨GotL.words (c_calledO x0 x1 x2 x3 10 0 0 0 [] false 1 0 0 (bs []) 0 0 x4 (w6 (w6 (x4 + 2) + 1)) (bs [62]) (tC)),fun _ _ _ _ _ _ _ _ _ _ _ _ _ _ _ _ _=>?_⟩
   exact ⟨_,tO,rfl,rfl⟩
  refine ⟨c_is (tC),fun _ p102=>?_⟩
  obtain ⟨p102_0,p102_1⟩ := p102
  try replace p102_0 := nz p102_0
  try replace p102_1 := nz p102_1
  apply bS <;> intro h103
  ·have p102_0c := p102_0 h103
   try have := tW (w6 (x4 + 2) + 1)
   refine ⟨GotL.words (c_calledO x0 x1 x2 x3 10 0 0 0 [] false 1 0 0 (bs []) 0 0 x4 (w6 (w6 (x4 + 2) + 1)) (bs [39]) (tC)),fun _ _ _ _ _ _ _ _ _ _ _ _ _ _ _ _ _=>?_⟩
   exact ⟨_,tO,rfl,rfl⟩
  refine ⟨c_is (tC),fun _ p122=>?_⟩
  obtain ⟨p122_0,p122_1⟩ := p122
  try replace p122_0 := nz p122_0
  try replace p122_1 := nz p122_1
  apply bS <;> intro h123
  ·have p122_0c := p122_0 h123
   try have := tW (w6 (x4 + 2) + 2)
   refine ⟨GotL.words (c_calledO x0 x1 x2 x3 11 0 0 0 [] false 0 3 0 (bs []) 0 0 x4 (w6 (w6 (x4 + 2) + 2)) (bs [41]) (tC)),fun _ _ _ _ _ _ _ _ _ _ _ _ _ _ _ _ _=>?_⟩
   exact ⟨_,tO,rfl,rfl⟩
  refine ⟨c_is (tC),fun _ p142=>?_⟩
  obtain ⟨p142_0,p142_1⟩ := p142
  try replace p142_0 := nz p142_0
  try replace p142_1 := nz p142_1
  apply bS <;> intro h143
  ·have p142_0c := p142_0 h143
   try have := tW (w6 (x4 + 2) + 2)
   refine ⟨GotL.words (c_calledO x0 x1 x2 x3 12 0 0 0 [] false 0 3 0 (bs []) 0 0 x4 (w6 (w6 (x4 + 2) + 2)) (bs [41]) (tC)),fun _ _ _ _ _ _ _ _ _ _ _ _ _ _ _ _ _=>?_⟩
   exact ⟨_,tO,rfl,rfl⟩
  refine ⟨c_is (tC),fun _ p162=>?_⟩
  obtain ⟨p162_0,p162_1⟩ := p162
  try replace p162_0 := nz p162_0
  try replace p162_1 := nz p162_1
  apply bS <;> intro h163
  ·have p162_0c := p162_0 h163
   try have := tW (w6 (x4 + 2) + 1)
   refine ⟨GotL.words (c_calledO x0 x1 x2 x3 12 0 0 0 [] false 0 3 0 (bs []) 0 0 x4 (w6 (w6 (x4 + 2) + 1)) (bs [41]) (tC)),fun _ _ _ _ _ _ _ _ _ _ _ _ _ _ _ _ _=>?_⟩
   exact ⟨_,tO,rfl,rfl⟩
  refine ⟨c_is (tC),fun _ p182=>?_⟩
  obtain ⟨p182_0,p182_1⟩ := p182
  try replace p182_0 := nz p182_0
  try replace p182_1 := nz p182_1
  apply bS <;> intro h183
  ·have p182_0c := p182_0 h183
   try have := tW (w6 (x4 + 2) + 1)
   refine ⟨GotL.words (c_shutO x0 x1 x2 x3 12 0 0 0 [] false 0 0 0 (bs []) 0 0 x4 (w6 (w6 (x4 + 2) + 1)) (bs [41]) 26 (tC)),fun _ _ _ _ _ _ _ _ _ _ _ _ _ _ _ _ _=>?_⟩
   exact ⟨_,tO,rfl,rfl⟩
  refine ⟨c_is (tC),fun _ p202=>?_⟩
  obtain ⟨p202_0,p202_1⟩ := p202
  try replace p202_0 := nz p202_0
  try replace p202_1 := nz p202_1
  apply bS <;> intro h203
  ·have p202_0c := p202_0 h203
   try have := tW (w6 (x4 + 2) + 1)
   refine ⟨c_number (tC),fun x204 x205 _ p207=>?_⟩
   obtain ⟨_,_,_,_,p207_4⟩ := p207
   refine bS (fun h208=>⟨_,tO,rfl,rfl⟩) fun h208=>?_
   have p207_4c := p207_4 h208
   refine ⟨GotL.words (c_shutO x0 x1 x2 x3 14 0 0 0 [] false x204 0 0 (bs []) 0 0 x4 x205 (bs [41]) 26 (tC)),fun _ _ _ _ _ _ _ _ _ _ _ _ _ _ _ _ _=>?_⟩
   exact ⟨_,tO,rfl,rfl⟩
  refine ⟨c_is (tC),fun _ p227=>?_⟩
  obtain ⟨p227_0,p227_1⟩ := p227
  try replace p227_0 := nz p227_0
  try replace p227_1 := nz p227_1
  apply bS <;> intro h228
  ·have p227_0c := p227_0 h228
   try have := tW (w6 (x4 + 2) + 1)
   refine ⟨GotL.words (c_conditionO x0 x1 x2 x3 x4 (w6 (w6 (x4 + 2) + 1)) (tC)),fun _ _ _ _ _ _ _ _ _ _ _ _ _ _ _ _ _=>?_⟩
   exact ⟨_,tO,rfl,rfl⟩
  refine ⟨tD,tV,fun x246 _=>?_⟩
  have ux246 := u8_lt x246
  apply bS <;> intro _
  ·refine ⟨c_signed (tC),fun x249 x250 x251 _ p253=>?_⟩
   obtain ⟨_,_⟩ := p253
   refine bS (fun _=>⟨_,tO,rfl,rfl⟩) fun _=>?_
   apply bS <;> intro _
   ·try have := tW (w6 (x4 + 2) + 1)
    refine bS (fun _=>⟨_,tO,rfl,rfl⟩) fun _=>?_
    exact ⟨_,tO,rfl,rfl⟩
   refine ⟨GotL.words (c_shutO x0 x1 x2 x3 12 0 0 0 [] false x249 x250 0 (bs []) 0 0 x4 x251 (bs [41]) 26 (tC)),fun _ _ _ _ _ _ _ _ _ _ _ _ _ _ _ _ _=>?_⟩
   apply bS <;> intro _
   ·apply bS <;> intro _
    ·refine bS (fun _=>⟨_,tO,rfl,rfl⟩) fun _=>?_
     exact ⟨_,tO,rfl,rfl⟩
    exact ⟨_,tO,rfl,rfl⟩
   exact ⟨_,tO,rfl,rfl⟩
  refine ⟨tD,tV,fun x277 _=>?_⟩
  have ux277 := u8_lt x277
  refine ⟨c_digit (tC),fun _ p280=>?_⟩
  unfold post_digit at p280
  apply bS <;> intro h281
  ·obtain ⟨p280c_0,p280c_1⟩ := p280 h281
   refine ⟨c_signed (tC),fun x282 x283 x284 _ p286=>?_⟩
   obtain ⟨_,_⟩ := p286
   refine bS (fun _=>⟨_,tO,rfl,rfl⟩) fun _=>?_
   apply bS <;> intro _
   ·try have := tW (w6 (x4 + 2) + 1)
    refine bS (fun _=>⟨_,tO,rfl,rfl⟩) fun _=>?_
    exact ⟨_,tO,rfl,rfl⟩
   refine ⟨GotL.words (c_shutO x0 x1 x2 x3 12 0 0 0 [] false x282 x283 0 (bs []) 0 0 x4 x284 (bs [41]) 26 (tC)),fun _ _ _ _ _ _ _ _ _ _ _ _ _ _ _ _ _=>?_⟩
   apply bS <;> intro _
   ·apply bS <;> intro _
    ·refine bS (fun _=>⟨_,tO,rfl,rfl⟩) fun _=>?_
     exact ⟨_,tO,rfl,rfl⟩
    exact ⟨_,tO,rfl,rfl⟩
   exact ⟨_,tO,rfl,rfl⟩
  refine ⟨tD,tV,fun x310 _=>?_⟩
  have ux310 := u8_lt x310
  apply bS <;> intro _
  ·try have := tW (w6 (x4 + 2) + 1)
   apply bS <;> intro _
   ·refine ⟨tD,tV,fun x314 _=>?_⟩
    have ux314 := u8_lt x314
    refine ⟨c_digit (tC),fun _ p317=>?_⟩
    unfold post_digit at p317
    apply bS <;> intro h318
    ·obtain ⟨p317c_0,p317c_1⟩ := p317 h318
     refine ⟨c_signed (tC),fun x319 x320 x321 _ p323=>?_⟩
     obtain ⟨_,_⟩ := p323
     refine bS (fun _=>⟨_,tO,rfl,rfl⟩) fun _=>?_
     apply bS <;> intro _
     ·refine bS (fun _=>⟨_,tO,rfl,rfl⟩) fun _=>?_
      exact ⟨_,tO,rfl,rfl⟩
     refine ⟨GotL.words (c_shutO x0 x1 x2 x3 12 0 0 0 [] false x319 x320 0 (bs []) 0 0 x4 x321 (bs [41]) 26 (tC)),fun _ _ _ _ _ _ _ _ _ _ _ _ _ _ _ _ _=>?_⟩
     apply bS <;> intro _
     ·apply bS <;> intro _
      ·refine bS (fun _=>⟨_,tO,rfl,rfl⟩) fun _=>?_
       exact ⟨_,tO,rfl,rfl⟩
      exact ⟨_,tO,rfl,rfl⟩
     exact ⟨_,tO,rfl,rfl⟩
    refine ⟨GotL.words (c_flagsO x0 x1 x2 x3 x4 (w6 (x4 + 2)) (tC)),fun _ _ _ _ _ _ _ _ _ _ _ _ _ _ _ _ _=>?_⟩
    exact ⟨_,tO,rfl,rfl⟩
   refine ⟨GotL.words (c_flagsO x0 x1 x2 x3 x4 (w6 (x4 + 2)) (tC)),fun _ _ _ _ _ _ _ _ _ _ _ _ _ _ _ _ _=>?_⟩
   exact ⟨_,tO,rfl,rfl⟩
  refine ⟨GotL.words (c_flagsO x0 x1 x2 x3 x4 (w6 (x4 + 2)) (tC)),fun _ _ _ _ _ _ _ _ _ _ _ _ _ _ _ _ _=>?_⟩
  exact ⟨_,tO,rfl,rfl⟩)
 exact ⟨_,hq,ha⟩
abbrev E_quantO (x0 : ByteArray) (x1 x2 : Bool) (x3 x4 x5 x6 x7 : Int) : Prop := ∃ l,post_quantO x0 x1 x2 x3 x4 x5 x6 x7 l ∧ A 50 [(.agg [(sv x0),(bv x1),(bv x2),(iv x3)]),(iv x4),(iv x5),(iv x6),(iv x7)] [] (.agg l) []
abbrev j_quantO (nn : Nat) (x0 : ByteArray) (x1 x2 : Bool) (x3 x4 x5 x6 x7 : Int) (kK : Int → Int → Int → Int → List AV → Bool → Int → Int → Int → ByteArray → Int → Int → Bool → Int → Int → Int → HC) : HC := ⟨.ev nn (.ask (eG fun x8 x9 x10 x11 x12 x13 x14 x15 x16 x17 x18 x19 x20 x21 x22 x23=>.done (.res (.agg (gR x8 x9 x10 x11 x12 x13 x14 x15 x16 x17 x18 x19 x20 x21 x22 x23)) [] (post_quantO x0 x1 x2 x3 x4 x5 x6 x7 (gR x8 x9 x10 x11 x12 x13 x14 x15 x16 x17 x18 x19 x20 x21 x22 x23))) ((kK x8 x9 x10 x11 x12 x13 x14 x15 x16 x17 x18 x19 x20 x21 x22 x23).h))),(∃ x8 x9 x10 x11 x12 x13 x14 x15 x16 x17 x18 x19 x20 x21 x22 x23,post_quantO x0 x1 x2 x3 x4 x5 x6 x7 (gR x8 x9 x10 x11 x12 x13 x14 x15 x16 x17 x18 x19 x20 x21 x22 x23) ∧ A 50 [(.agg [(sv x0),(bv x1),(bv x2),(iv x3)]),(iv x4),(iv x5),(iv x6),(iv x7)] [] (.agg (gR x8 x9 x10 x11 x12 x13 x14 x15 x16 x17 x18 x19 x20 x21 x22 x23)) []) ∧ (∀ x8 x9 x10 x11 x12 x13 x14 x15 x16 x17 x18 x19 x20 x21 x22 x23,post_quantO x0 x1 x2 x3 x4 x5 x6 x7 (gR x8 x9 x10 x11 x12 x13 x14 x15 x16 x17 x18 x19 x20 x21 x22 x23) → (kK x8 x9 x10 x11 x12 x13 x14 x15 x16 x17 x18 x19 x20 x21 x22 x23).p)⟩
abbrev t_quantO (x0 : ByteArray) (x1 x2 : Bool) (x3 x4 x5 x6 x7 : Int) (Q : AV → HH → Prop) : HC := (j_is 1 x0 x1 x2 x3 x5 (bs [63]) fun x8=>(dd 0 x8 (qq 5 Q (.agg (gR 9 x4 (w6 (x5 + 1)) 0 [] false x6 x7 1 (bs []) 0 0 true (w6 (x5 + 1)) 0 0))) (j_is 1 x0 x1 x2 x3 x5 (bs [43]) fun x9=>(dd 0 x9 (qq 5 Q (.agg (gR 9 x4 (w6 (x5 + 1)) 0 [] false x6 x7 2 (bs []) 0 0 true (w6 (x5 + 1)) 0 0))) (qq 4 Q (.agg (gR 9 x4 x5 0 [] false x6 x7 0 (bs []) 0 0 true x5 0 0)))))))
theorem w_quantO (x0 x1 x2 x3 x4 x5 x6 x7) (Q : AV → HH → Prop) (h : (t_quantO x0 x1 x2 x3 x4 x5 x6 x7 Q).p) : ∃ r H',A 50 [(.agg [(sv x0),(bv x1),(bv x2),(iv x3)]),(iv x4),(iv x5),(iv x6),(iv x7)] [] r H' ∧ Q r H' :=
 Ans.wq rfl (t_quantO x0 x1 x2 x3 x4 x5 x6 x7 Q).h (by kernel_rfl) h
theorem c_quantO (x0 x1 x2 x3 x4 x5 x6 x7) (hp : pre_quantO x0 x1 x2 x3 x4 x5 x6 x7) : E_quantO x0 x1 x2 x3 x4 x5 x6 x7 := by
 obtain ⟨_,_,ha,_,hq,rfl,rfl⟩ := w_quantO x0 x1 x2 x3 x4 x5 x6 x7 (fun r H'=>∃ x8,post_quantO x0 x1 x2 x3 x4 x5 x6 x7 x8 ∧ r = (.agg x8) ∧ H' = []) (by
  obtain ⟨⟨_,_,_⟩,_,_,_,_,_,_,_⟩ := hp
  refine ⟨c_is tP,fun _ p10=>?_⟩
  obtain ⟨p10_0,p10_1⟩ := p10
  try replace p10_0 := nz p10_0
  try replace p10_1 := nz p10_1
  apply bS <;> intro h11
  ·have p10_0c := p10_0 h11
   try have := tW (x5 + 1)
   exact ⟨_,tP,rfl,rfl⟩
  refine ⟨c_is tP,fun _ p13=>?_⟩
  obtain ⟨p13_0,p13_1⟩ := p13
  try replace p13_0 := nz p13_0
  try replace p13_1 := nz p13_1
  apply bS <;> intro h14
  ·have p13_0c := p13_0 h14
   try have := tW (x5 + 1)
   exact ⟨_,tP,rfl,rfl⟩
  exact ⟨_,tP,rfl,rfl⟩)
 exact ⟨_,hq,ha⟩
abbrev E_TokenO (x0 : ByteArray) (x1 x2 : Bool) (x3 x4 : Int) : Prop := ∃ l,post_TokenO x0 x1 x2 x3 x4 l ∧ A 26 [(.agg [(sv x0),(bv x1),(bv x2),(iv x3)]),(iv x4)] [] (.agg l) []
abbrev j_TokenO (nn : Nat) (x0 : ByteArray) (x1 x2 : Bool) (x3 x4 : Int) (kK : Int → Int → Int → Int → List AV → Bool → Int → Int → Int → ByteArray → Int → Int → Bool → Int → Int → Int → HC) : HC := ⟨.ev nn (.ask (eG fun x5 x6 x7 x8 x9 x10 x11 x12 x13 x14 x15 x16 x17 x18 x19 x20=>.done (.res (.agg (gR x5 x6 x7 x8 x9 x10 x11 x12 x13 x14 x15 x16 x17 x18 x19 x20)) [] (post_TokenO x0 x1 x2 x3 x4 (gR x5 x6 x7 x8 x9 x10 x11 x12 x13 x14 x15 x16 x17 x18 x19 x20))) ((kK x5 x6 x7 x8 x9 x10 x11 x12 x13 x14 x15 x16 x17 x18 x19 x20).h))),(∃ x5 x6 x7 x8 x9 x10 x11 x12 x13 x14 x15 x16 x17 x18 x19 x20,post_TokenO x0 x1 x2 x3 x4 (gR x5 x6 x7 x8 x9 x10 x11 x12 x13 x14 x15 x16 x17 x18 x19 x20) ∧ A 26 [(.agg [(sv x0),(bv x1),(bv x2),(iv x3)]),(iv x4)] [] (.agg (gR x5 x6 x7 x8 x9 x10 x11 x12 x13 x14 x15 x16 x17 x18 x19 x20)) []) ∧ (∀ x5 x6 x7 x8 x9 x10 x11 x12 x13 x14 x15 x16 x17 x18 x19 x20,post_TokenO x0 x1 x2 x3 x4 (gR x5 x6 x7 x8 x9 x10 x11 x12 x13 x14 x15 x16 x17 x18 x19 x20) → (kK x5 x6 x7 x8 x9 x10 x11 x12 x13 x14 x15 x16 x17 x18 x19 x20).p)⟩
def s_TokenO_0 (x0 : ByteArray) (x1 x2 : Bool) (x3 x4 : Int) : St := ⟨[],[(2,(.ea [(sv x0),(bv x1),(bv x2),(iv x3)])),(4,(.box [(iv 0),(iv 0),(iv 0),(iv 0),(.sl 2 []),(bv false),(iv 0),(iv 0),(iv 0),(sv (bs [])),(iv 0),(iv 0),(bv false),(iv 0),(iv 0),(iv 0)])),(6,(iv x4))],[],0⟩
def x_TokenO_0_0 (x0 : ByteArray) (x1 x2 : Bool) (x3 y4 : Int) : St := ⟨[],[(2,(.ea [(sv x0),(bv x1),(bv x2),(iv x3)])),(4,(.box [(iv 0),(iv 0),(iv 0),(iv 0),(.sl 2 []),(bv false),(iv 0),(iv 0),(iv 0),(sv (bs [])),(iv 0),(iv 0),(bv false),(iv 0),(iv 0),(iv 0)])),(6,(iv y4)),(49,(bv false))],[],0⟩
abbrev E_TokenO_0 (x0 : ByteArray) (x1 x2 : Bool) (x3 x4o : Int) : Prop := (∃ y5,out_TokenO_0_0 x0 x1 x2 x3 x4o y5 ∧ R 26 0 (s_TokenO_0 x0 x1 x2 x3 x4o) ((.exit 0),x_TokenO_0_0 x0 x1 x2 x3 y5))
abbrev j_TokenO_0 (nn : Nat) (x0 : ByteArray) (x1 x2 : Bool) (x3 x4o : Int) (f0 : Int → HC) : HC := ⟨.ev nn (.ask (eI fun y5=>.done (.exit (.exit 0) (x_TokenO_0_0 x0 x1 x2 x3 y5) (out_TokenO_0_0 x0 x1 x2 x3 x4o y5)) (f0 y5).h)),E_TokenO_0 x0 x1 x2 x3 x4o ∧ (∀ y5,out_TokenO_0_0 x0 x1 x2 x3 x4o y5 → (f0 y5).p)⟩
abbrev t_TokenO_0 (x0 : ByteArray) (x1 x2 : Bool) (x3 x4 : Int) (Q : Ex → St → Prop) : HC := (dd 1 ((decide (x4 < (↑x0.size : Int)))) (oo 5 ((decide (0 ≤ w6 (x4 - 1)))) (pU 1 ((Option.map (fun b=>Value.int IntKind.u8 (↑b.toNat : Int)) x0[(w6 (x4 - 1)).toNat]?)) fun x5=>(dd 3 ((!Int.ofNat x5.toNat == 10)) (zz 1 (Q .norm (s_TokenO_0 x0 x1 x2 x3 (w6 (x4 + 1))))) (zz 0 (Q (.exit 0) (x_TokenO_0_0 x0 x1 x2 x3 x4)))))) (zz 7 (Q (.exit 0) (x_TokenO_0_0 x0 x1 x2 x3 x4))))
theorem l_TokenO_0 (x0 x1 x2 x3 x4) (Q : Ex → St → Prop) (h : (t_TokenO_0 x0 x1 x2 x3 x4 Q).p) : ∃ e s',L 26 0 (s_TokenO_0 x0 x1 x2 x3 x4) (e,s') ∧ Q e s' :=
 Leads.wq (t_TokenO_0 x0 x1 x2 x3 x4 Q).h (by kernel_rfl) h
theorem k_TokenO_0 {x0 x1 x2 x3 x4o} (hi : inv_TokenO_0 x0 x1 x2 x3 x4o x4o) : E_TokenO_0 x0 x1 x2 x3 x4o := by
 obtain ⟨e,s',hr,hq⟩ := Rounds.byInv (st := fun (w : Int)=>s_TokenO_0 x0 x1 x2 x3 w) (Inv := fun w=>inv_TokenO_0 x0 x1 x2 x3 x4o w) (μ := fun w=>mu_TokenO_0 x0 x1 x2 x3 w) (Q := fun e s'=>(∃ y5,out_TokenO_0_0 x0 x1 x2 x3 x4o y5 ∧ e = (.exit 0) ∧ s' = x_TokenO_0_0 x0 x1 x2 x3 y5)) (by
  intro x4 hi
  have hi : inv_TokenO_0 x0 x1 x2 x3 x4o x4 := hi
  refine l_TokenO_0 x0 x1 x2 x3 x4 _ ?_
  obtain ⟨_,_,_,_⟩ := hi
  apply bS <;> intro _
  ·try have := tW (x4 - 1)
   refine ⟨tD,tV,fun x7 _=>?_⟩
   have ux7 := u8_lt x7
   apply bS <;> intro _
   ·try have := tW (x4 + 1)
    exact .inl ⟨rfl,(w6 (x4 + 1)),rfl,tP,by unfold mu_TokenO_0; exact tI⟩
   exact .inr ⟨by simp,⟨_,tP,rfl,rfl⟩⟩
  exact .inr ⟨by simp,⟨_,tP,rfl,rfl⟩⟩) x4o hi
 rcases hq with ⟨_,ho,rfl,rfl⟩
 exact ⟨_,ho,hr⟩
abbrev t_TokenO (x0 : ByteArray) (x1 x2 : Bool) (x3 x4 : Int) (Q : AV → HH → Prop) : HC := (j_Char 1 x0 x1 x2 x3 x4 fun x5 x6=>(dd 0 x2 (dd 1 ((decide (x5 ≥ 9))) (dd 3 ((decide (x5 ≤ 13))) (qq 4 Q (.agg (gZ x6 0 0))) (dd 3 ((x5 == 32)) (qq 1 Q (.agg (gZ x6 0 0))) (dd 1 ((x5 == 35)) (dd 2 ((decide (x6 < (↑x0.size : Int)))) (oo 5 ((decide (0 ≤ w6 (x6 - 1)))) (pU 1 ((Option.map (fun b=>Value.int IntKind.u8 (↑b.toNat : Int)) x0[(w6 (x6 - 1)).toNat]?)) fun x7=>(dd 3 ((!Int.ofNat x7.toNat == 10)) (j_TokenO_0 1 x0 x1 x2 x3 (w6 (x6 + 1)) (fun x8=>(qq 1 Q (.agg (gZ x8 0 0))))) (qq 1 Q (.agg (gZ x6 0 0)))))) (qq 8 Q (.agg (gZ x6 0 0)))) (dd 1 ((x5 == 92)) (j_escapeO 1 x0 x1 x2 x3 x4 fun x9 x10 x11 x12 x13 x14 x15 x16 x17 x18 x19 x20 x21 x22 x23 x24=>(qq 1 Q (.agg (gR x9 x10 x11 x12 x13 x14 x15 x16 x17 x18 x19 x20 x21 x22 x23 x24)))) (dd 1 ((x5 == 91)) (j_classTO 1 x0 x1 x2 x3 x4 fun x25 x26 x27 x28 x29 x30 x31 x32 x33 x34 x35 x36 x37 x38 x39 x40=>(qq 1 Q (.agg (gR x25 x26 x27 x28 x29 x30 x31 x32 x33 x34 x35 x36 x37 x38 x39 x40)))) (dd 1 ((x5 == 40)) (j_openTO 1 x0 x1 x2 x3 x4 fun x41 x42 x43 x44 x45 x46 x47 x48 x49 x50 x51 x52 x53 x54 x55 x56=>(qq 1 Q (.agg (gR x41 x42 x43 x44 x45 x46 x47 x48 x49 x50 x51 x52 x53 x54 x55 x56)))) (dd 1 ((x5 == 46)) (qq 4 Q (.agg (gR 3 x4 x6 0 [] false 0 0 0 (bs []) 0 0 true x6 0 0))) (dd 1 ((x5 == 94)) (qq 4 Q (.agg (gR 4 x4 x6 0 [] false 1 0 0 (bs []) 0 0 true x6 0 0))) (dd 1 ((x5 == 36)) (qq 4 Q (.agg (gR 4 x4 x6 0 [] false 2 0 0 (bs []) 0 0 true x6 0 0))) (dd 1 ((x5 == 124)) (qq 4 Q (.agg (gR 7 x4 x6 0 [] false 0 0 0 (bs []) 0 0 true x6 0 0))) (dd 1 ((x5 == 41)) (qq 4 Q (.agg (gR 8 x4 x6 0 [] false 0 0 0 (bs []) 0 0 true x6 0 0))) (dd 1 ((x5 == 42)) (j_quantO 1 x0 x1 x2 x3 x4 x6 0 (-1) fun x57 x58 x59 x60 x61 x62 x63 x64 x65 x66 x67 x68 x69 x70 x71 x72=>(qq 1 Q (.agg (gR x57 x58 x59 x60 x61 x62 x63 x64 x65 x66 x67 x68 x69 x70 x71 x72)))) (dd 1 ((x5 == 43)) (j_quantO 1 x0 x1 x2 x3 x4 x6 1 (-1) fun x73 x74 x75 x76 x77 x78 x79 x80 x81 x82 x83 x84 x85 x86 x87 x88=>(qq 1 Q (.agg (gR x73 x74 x75 x76 x77 x78 x79 x80 x81 x82 x83 x84 x85 x86 x87 x88)))) (dd 1 ((x5 == 63)) (j_quantO 1 x0 x1 x2 x3 x4 x6 0 1 fun x89 x90 x91 x92 x93 x94 x95 x96 x97 x98 x99 x100 x101 x102 x103 x104=>(qq 1 Q (.agg (gR x89 x90 x91 x92 x93 x94 x95 x96 x97 x98 x99 x100 x101 x102 x103 x104)))) (dd 1 ((x5 == 123)) (j_number 2 x0 x1 x2 x3 (w6 (x4 + 1)) fun x105 x106 x107=>(dd 2 ((decide (x106 > w6 (x4 + 1)))) (j_is 3 x0 x1 x2 x3 x106 (bs [44]) fun x108=>(dd 1 x108 (j_number 2 x0 x1 x2 x3 (w6 (x106 + 1)) fun x109 x110 x111=>(dd 0 x107 (dd 3 ((x110 == w6 (x106 + 1))) (dd 2 ((x106 == w6 (x4 + 1))) (qq 9 Q (.agg (gR 1 x4 x6 x5 [] false 0 0 0 (bs []) 0 0 true x6 0 0))) (j_is 3 x0 x1 x2 x3 x110 (bs [125]) fun x112=>(dd 3 ((!x112)) (qq 4 Q (.agg (gR 1 x4 x6 x5 [] false 0 0 0 (bs []) 0 0 true x6 0 0))) (qq 5 Q (.agg (gZ 0 25 x4)))))) (dd 2 ((x106 == w6 (x4 + 1))) (qq 9 Q (.agg (gR 1 x4 x6 x5 [] false 0 0 0 (bs []) 0 0 true x6 0 0))) (j_is 3 x0 x1 x2 x3 x110 (bs [125]) fun x113=>(dd 3 ((!x113)) (qq 4 Q (.agg (gR 1 x4 x6 x5 [] false 0 0 0 (bs []) 0 0 true x6 0 0))) (qq 5 Q (.agg (gZ 0 25 x4))))))) (dd 3 ((x110 == w6 (x106 + 1))) (dd 2 ((x106 == w6 (x4 + 1))) (qq 9 Q (.agg (gR 1 x4 x6 x5 [] false 0 0 0 (bs []) 0 0 true x6 0 0))) (j_is 3 x0 x1 x2 x3 x110 (bs [125]) fun x114=>(dd 3 ((!x114)) (qq 4 Q (.agg (gR 1 x4 x6 x5 [] false 0 0 0 (bs []) 0 0 true x6 0 0))) (dd 0 x111 (qq 4 Q (.agg (gZ 0 25 x4))) (j_quantO 8 x0 x1 x2 x3 x4 (w6 (x110 + 1)) x105 (-1) fun x115 x116 x117 x118 x119 x120 x121 x122 x123 x124 x125 x126 x127 x128 x129 x130=>(qq 1 Q (.agg (gR x115 x116 x117 x118 x119 x120 x121 x122 x123 x124 x125 x126 x127 x128 x129 x130)))))))) (dd 2 ((x106 == w6 (x4 + 1))) (qq 9 Q (.agg (gR 1 x4 x6 x5 [] false 0 0 0 (bs []) 0 0 true x6 0 0))) (j_is 3 x0 x1 x2 x3 x110 (bs [125]) fun x131=>(dd 3 ((!x131)) (qq 4 Q (.agg (gR 1 x4 x6 x5 [] false 0 0 0 (bs []) 0 0 true x6 0 0))) (dd 0 x111 (qq 4 Q (.agg (gZ 0 25 x4))) (dd 1 ((decide (x109 ≥ 0))) (dd 4 ((decide (x109 < x105))) (qq 4 Q (.agg (gZ 0 23 x4))) (j_quantO 2 x0 x1 x2 x3 x4 (w6 (x110 + 1)) x105 x109 fun x132 x133 x134 x135 x136 x137 x138 x139 x140 x141 x142 x143 x144 x145 x146 x147=>(qq 1 Q (.agg (gR x132 x133 x134 x135 x136 x137 x138 x139 x140 x141 x142 x143 x144 x145 x146 x147))))) (j_quantO 6 x0 x1 x2 x3 x4 (w6 (x110 + 1)) x105 x109 fun x148 x149 x150 x151 x152 x153 x154 x155 x156 x157 x158 x159 x160 x161 x162 x163=>(qq 1 Q (.agg (gR x148 x149 x150 x151 x152 x153 x154 x155 x156 x157 x158 x159 x160 x161 x162 x163)))))))))))) (dd 2 ((x106 == w6 (x4 + 1))) (qq 9 Q (.agg (gR 1 x4 x6 x5 [] false 0 0 0 (bs []) 0 0 true x6 0 0))) (j_is 3 x0 x1 x2 x3 x106 (bs [125]) fun x164=>(dd 3 ((!x164)) (qq 4 Q (.agg (gR 1 x4 x6 x5 [] false 0 0 0 (bs []) 0 0 true x6 0 0))) (dd 0 x107 (qq 4 Q (.agg (gZ 0 25 x4))) (dd 1 ((decide (x105 ≥ 0))) (dd 4 ((decide (x105 < x105))) (qq 4 Q (.agg (gZ 0 23 x4))) (j_quantO 2 x0 x1 x2 x3 x4 (w6 (x106 + 1)) x105 x105 fun x165 x166 x167 x168 x169 x170 x171 x172 x173 x174 x175 x176 x177 x178 x179 x180=>(qq 1 Q (.agg (gR x165 x166 x167 x168 x169 x170 x171 x172 x173 x174 x175 x176 x177 x178 x179 x180))))) (j_quantO 6 x0 x1 x2 x3 x4 (w6 (x106 + 1)) x105 x105 fun x181 x182 x183 x184 x185 x186 x187 x188 x189 x190 x191 x192 x193 x194 x195 x196=>(qq 1 Q (.agg (gR x181 x182 x183 x184 x185 x186 x187 x188 x189 x190 x191 x192 x193 x194 x195 x196))))))))))) (dd 6 ((x106 == w6 (x4 + 1))) (qq 9 Q (.agg (gR 1 x4 x6 x5 [] false 0 0 0 (bs []) 0 0 true x6 0 0))) (j_is 3 x0 x1 x2 x3 x106 (bs [125]) fun x197=>(dd 3 ((!x197)) (qq 4 Q (.agg (gR 1 x4 x6 x5 [] false 0 0 0 (bs []) 0 0 true x6 0 0))) (dd 0 x107 (qq 4 Q (.agg (gZ 0 25 x4))) (dd 1 ((decide (x105 ≥ 0))) (dd 4 ((decide (x105 < x105))) (qq 4 Q (.agg (gZ 0 23 x4))) (j_quantO 2 x0 x1 x2 x3 x4 (w6 (x106 + 1)) x105 x105 fun x198 x199 x200 x201 x202 x203 x204 x205 x206 x207 x208 x209 x210 x211 x212 x213=>(qq 1 Q (.agg (gR x198 x199 x200 x201 x202 x203 x204 x205 x206 x207 x208 x209 x210 x211 x212 x213))))) (j_quantO 6 x0 x1 x2 x3 x4 (w6 (x106 + 1)) x105 x105 fun x214 x215 x216 x217 x218 x219 x220 x221 x222 x223 x224 x225 x226 x227 x228 x229=>(qq 1 Q (.agg (gR x214 x215 x216 x217 x218 x219 x220 x221 x222 x223 x224 x225 x226 x227 x228 x229))))))))))) (qq 4 Q (.agg (gR 1 x4 x6 x5 [] false 0 0 0 (bs []) 0 0 true x6 0 0)))))))))))))))))) (dd 6 ((x5 == 32)) (qq 1 Q (.agg (gZ x6 0 0))) (dd 1 ((x5 == 35)) (dd 2 ((decide (x6 < (↑x0.size : Int)))) (oo 5 ((decide (0 ≤ w6 (x6 - 1)))) (pU 1 ((Option.map (fun b=>Value.int IntKind.u8 (↑b.toNat : Int)) x0[(w6 (x6 - 1)).toNat]?)) fun x230=>(dd 3 ((!Int.ofNat x230.toNat == 10)) (j_TokenO_0 1 x0 x1 x2 x3 (w6 (x6 + 1)) (fun x231=>(qq 1 Q (.agg (gZ x231 0 0))))) (qq 1 Q (.agg (gZ x6 0 0)))))) (qq 8 Q (.agg (gZ x6 0 0)))) (dd 1 ((x5 == 92)) (j_escapeO 1 x0 x1 x2 x3 x4 fun x232 x233 x234 x235 x236 x237 x238 x239 x240 x241 x242 x243 x244 x245 x246 x247=>(qq 1 Q (.agg (gR x232 x233 x234 x235 x236 x237 x238 x239 x240 x241 x242 x243 x244 x245 x246 x247)))) (dd 1 ((x5 == 91)) (j_classTO 1 x0 x1 x2 x3 x4 fun x248 x249 x250 x251 x252 x253 x254 x255 x256 x257 x258 x259 x260 x261 x262 x263=>(qq 1 Q (.agg (gR x248 x249 x250 x251 x252 x253 x254 x255 x256 x257 x258 x259 x260 x261 x262 x263)))) (dd 1 ((x5 == 40)) (j_openTO 1 x0 x1 x2 x3 x4 fun x264 x265 x266 x267 x268 x269 x270 x271 x272 x273 x274 x275 x276 x277 x278 x279=>(qq 1 Q (.agg (gR x264 x265 x266 x267 x268 x269 x270 x271 x272 x273 x274 x275 x276 x277 x278 x279)))) (dd 1 ((x5 == 46)) (qq 4 Q (.agg (gR 3 x4 x6 0 [] false 0 0 0 (bs []) 0 0 true x6 0 0))) (dd 1 ((x5 == 94)) (qq 4 Q (.agg (gR 4 x4 x6 0 [] false 1 0 0 (bs []) 0 0 true x6 0 0))) (dd 1 ((x5 == 36)) (qq 4 Q (.agg (gR 4 x4 x6 0 [] false 2 0 0 (bs []) 0 0 true x6 0 0))) (dd 1 ((x5 == 124)) (qq 4 Q (.agg (gR 7 x4 x6 0 [] false 0 0 0 (bs []) 0 0 true x6 0 0))) (dd 1 ((x5 == 41)) (qq 4 Q (.agg (gR 8 x4 x6 0 [] false 0 0 0 (bs []) 0 0 true x6 0 0))) (dd 1 ((x5 == 42)) (j_quantO 1 x0 x1 x2 x3 x4 x6 0 (-1) fun x280 x281 x282 x283 x284 x285 x286 x287 x288 x289 x290 x291 x292 x293 x294 x295=>(qq 1 Q (.agg (gR x280 x281 x282 x283 x284 x285 x286 x287 x288 x289 x290 x291 x292 x293 x294 x295)))) (dd 1 ((x5 == 43)) (j_quantO 1 x0 x1 x2 x3 x4 x6 1 (-1) fun x296 x297 x298 x299 x300 x301 x302 x303 x304 x305 x306 x307 x308 x309 x310 x311=>(qq 1 Q (.agg (gR x296 x297 x298 x299 x300 x301 x302 x303 x304 x305 x306 x307 x308 x309 x310 x311)))) (dd 1 ((x5 == 63)) (j_quantO 1 x0 x1 x2 x3 x4 x6 0 1 fun x312 x313 x314 x315 x316 x317 x318 x319 x320 x321 x322 x323 x324 x325 x326 x327=>(qq 1 Q (.agg (gR x312 x313 x314 x315 x316 x317 x318 x319 x320 x321 x322 x323 x324 x325 x326 x327)))) (dd 1 ((x5 == 123)) (j_number 2 x0 x1 x2 x3 (w6 (x4 + 1)) fun x328 x329 x330=>(dd 2 ((decide (x329 > w6 (x4 + 1)))) (j_is 3 x0 x1 x2 x3 x329 (bs [44]) fun x331=>(dd 1 x331 (j_number 2 x0 x1 x2 x3 (w6 (x329 + 1)) fun x332 x333 x334=>(dd 0 x330 (dd 3 ((x333 == w6 (x329 + 1))) (dd 2 ((x329 == w6 (x4 + 1))) (qq 9 Q (.agg (gR 1 x4 x6 x5 [] false 0 0 0 (bs []) 0 0 true x6 0 0))) (j_is 3 x0 x1 x2 x3 x333 (bs [125]) fun x335=>(dd 3 ((!x335)) (qq 4 Q (.agg (gR 1 x4 x6 x5 [] false 0 0 0 (bs []) 0 0 true x6 0 0))) (qq 5 Q (.agg (gZ 0 25 x4)))))) (dd 2 ((x329 == w6 (x4 + 1))) (qq 9 Q (.agg (gR 1 x4 x6 x5 [] false 0 0 0 (bs []) 0 0 true x6 0 0))) (j_is 3 x0 x1 x2 x3 x333 (bs [125]) fun x336=>(dd 3 ((!x336)) (qq 4 Q (.agg (gR 1 x4 x6 x5 [] false 0 0 0 (bs []) 0 0 true x6 0 0))) (qq 5 Q (.agg (gZ 0 25 x4))))))) (dd 3 ((x333 == w6 (x329 + 1))) (dd 2 ((x329 == w6 (x4 + 1))) (qq 9 Q (.agg (gR 1 x4 x6 x5 [] false 0 0 0 (bs []) 0 0 true x6 0 0))) (j_is 3 x0 x1 x2 x3 x333 (bs [125]) fun x337=>(dd 3 ((!x337)) (qq 4 Q (.agg (gR 1 x4 x6 x5 [] false 0 0 0 (bs []) 0 0 true x6 0 0))) (dd 0 x334 (qq 4 Q (.agg (gZ 0 25 x4))) (j_quantO 8 x0 x1 x2 x3 x4 (w6 (x333 + 1)) x328 (-1) fun x338 x339 x340 x341 x342 x343 x344 x345 x346 x347 x348 x349 x350 x351 x352 x353=>(qq 1 Q (.agg (gR x338 x339 x340 x341 x342 x343 x344 x345 x346 x347 x348 x349 x350 x351 x352 x353)))))))) (dd 2 ((x329 == w6 (x4 + 1))) (qq 9 Q (.agg (gR 1 x4 x6 x5 [] false 0 0 0 (bs []) 0 0 true x6 0 0))) (j_is 3 x0 x1 x2 x3 x333 (bs [125]) fun x354=>(dd 3 ((!x354)) (qq 4 Q (.agg (gR 1 x4 x6 x5 [] false 0 0 0 (bs []) 0 0 true x6 0 0))) (dd 0 x334 (qq 4 Q (.agg (gZ 0 25 x4))) (dd 1 ((decide (x332 ≥ 0))) (dd 4 ((decide (x332 < x328))) (qq 4 Q (.agg (gZ 0 23 x4))) (j_quantO 2 x0 x1 x2 x3 x4 (w6 (x333 + 1)) x328 x332 fun x355 x356 x357 x358 x359 x360 x361 x362 x363 x364 x365 x366 x367 x368 x369 x370=>(qq 1 Q (.agg (gR x355 x356 x357 x358 x359 x360 x361 x362 x363 x364 x365 x366 x367 x368 x369 x370))))) (j_quantO 6 x0 x1 x2 x3 x4 (w6 (x333 + 1)) x328 x332 fun x371 x372 x373 x374 x375 x376 x377 x378 x379 x380 x381 x382 x383 x384 x385 x386=>(qq 1 Q (.agg (gR x371 x372 x373 x374 x375 x376 x377 x378 x379 x380 x381 x382 x383 x384 x385 x386)))))))))))) (dd 2 ((x329 == w6 (x4 + 1))) (qq 9 Q (.agg (gR 1 x4 x6 x5 [] false 0 0 0 (bs []) 0 0 true x6 0 0))) (j_is 3 x0 x1 x2 x3 x329 (bs [125]) fun x387=>(dd 3 ((!x387)) (qq 4 Q (.agg (gR 1 x4 x6 x5 [] false 0 0 0 (bs []) 0 0 true x6 0 0))) (dd 0 x330 (qq 4 Q (.agg (gZ 0 25 x4))) (dd 1 ((decide (x328 ≥ 0))) (dd 4 ((decide (x328 < x328))) (qq 4 Q (.agg (gZ 0 23 x4))) (j_quantO 2 x0 x1 x2 x3 x4 (w6 (x329 + 1)) x328 x328 fun x388 x389 x390 x391 x392 x393 x394 x395 x396 x397 x398 x399 x400 x401 x402 x403=>(qq 1 Q (.agg (gR x388 x389 x390 x391 x392 x393 x394 x395 x396 x397 x398 x399 x400 x401 x402 x403))))) (j_quantO 6 x0 x1 x2 x3 x4 (w6 (x329 + 1)) x328 x328 fun x404 x405 x406 x407 x408 x409 x410 x411 x412 x413 x414 x415 x416 x417 x418 x419=>(qq 1 Q (.agg (gR x404 x405 x406 x407 x408 x409 x410 x411 x412 x413 x414 x415 x416 x417 x418 x419))))))))))) (dd 6 ((x329 == w6 (x4 + 1))) (qq 9 Q (.agg (gR 1 x4 x6 x5 [] false 0 0 0 (bs []) 0 0 true x6 0 0))) (j_is 3 x0 x1 x2 x3 x329 (bs [125]) fun x420=>(dd 3 ((!x420)) (qq 4 Q (.agg (gR 1 x4 x6 x5 [] false 0 0 0 (bs []) 0 0 true x6 0 0))) (dd 0 x330 (qq 4 Q (.agg (gZ 0 25 x4))) (dd 1 ((decide (x328 ≥ 0))) (dd 4 ((decide (x328 < x328))) (qq 4 Q (.agg (gZ 0 23 x4))) (j_quantO 2 x0 x1 x2 x3 x4 (w6 (x329 + 1)) x328 x328 fun x421 x422 x423 x424 x425 x426 x427 x428 x429 x430 x431 x432 x433 x434 x435 x436=>(qq 1 Q (.agg (gR x421 x422 x423 x424 x425 x426 x427 x428 x429 x430 x431 x432 x433 x434 x435 x436))))) (j_quantO 6 x0 x1 x2 x3 x4 (w6 (x329 + 1)) x328 x328 fun x437 x438 x439 x440 x441 x442 x443 x444 x445 x446 x447 x448 x449 x450 x451 x452=>(qq 1 Q (.agg (gR x437 x438 x439 x440 x441 x442 x443 x444 x445 x446 x447 x448 x449 x450 x451 x452))))))))))) (qq 4 Q (.agg (gR 1 x4 x6 x5 [] false 0 0 0 (bs []) 0 0 true x6 0 0)))))))))))))))))) (dd 1 ((x5 == 92)) (j_escapeO 1 x0 x1 x2 x3 x4 fun x453 x454 x455 x456 x457 x458 x459 x460 x461 x462 x463 x464 x465 x466 x467 x468=>(qq 1 Q (.agg (gR x453 x454 x455 x456 x457 x458 x459 x460 x461 x462 x463 x464 x465 x466 x467 x468)))) (dd 1 ((x5 == 91)) (j_classTO 1 x0 x1 x2 x3 x4 fun x469 x470 x471 x472 x473 x474 x475 x476 x477 x478 x479 x480 x481 x482 x483 x484=>(qq 1 Q (.agg (gR x469 x470 x471 x472 x473 x474 x475 x476 x477 x478 x479 x480 x481 x482 x483 x484)))) (dd 1 ((x5 == 40)) (j_openTO 1 x0 x1 x2 x3 x4 fun x485 x486 x487 x488 x489 x490 x491 x492 x493 x494 x495 x496 x497 x498 x499 x500=>(qq 1 Q (.agg (gR x485 x486 x487 x488 x489 x490 x491 x492 x493 x494 x495 x496 x497 x498 x499 x500)))) (dd 1 ((x5 == 46)) (qq 4 Q (.agg (gR 3 x4 x6 0 [] false 0 0 0 (bs []) 0 0 true x6 0 0))) (dd 1 ((x5 == 94)) (qq 4 Q (.agg (gR 4 x4 x6 0 [] false 1 0 0 (bs []) 0 0 true x6 0 0))) (dd 1 ((x5 == 36)) (qq 4 Q (.agg (gR 4 x4 x6 0 [] false 2 0 0 (bs []) 0 0 true x6 0 0))) (dd 1 ((x5 == 124)) (qq 4 Q (.agg (gR 7 x4 x6 0 [] false 0 0 0 (bs []) 0 0 true x6 0 0))) (dd 1 ((x5 == 41)) (qq 4 Q (.agg (gR 8 x4 x6 0 [] false 0 0 0 (bs []) 0 0 true x6 0 0))) (dd 1 ((x5 == 42)) (j_quantO 1 x0 x1 x2 x3 x4 x6 0 (-1) fun x501 x502 x503 x504 x505 x506 x507 x508 x509 x510 x511 x512 x513 x514 x515 x516=>(qq 1 Q (.agg (gR x501 x502 x503 x504 x505 x506 x507 x508 x509 x510 x511 x512 x513 x514 x515 x516)))) (dd 1 ((x5 == 43)) (j_quantO 1 x0 x1 x2 x3 x4 x6 1 (-1) fun x517 x518 x519 x520 x521 x522 x523 x524 x525 x526 x527 x528 x529 x530 x531 x532=>(qq 1 Q (.agg (gR x517 x518 x519 x520 x521 x522 x523 x524 x525 x526 x527 x528 x529 x530 x531 x532)))) (dd 1 ((x5 == 63)) (j_quantO 1 x0 x1 x2 x3 x4 x6 0 1 fun x533 x534 x535 x536 x537 x538 x539 x540 x541 x542 x543 x544 x545 x546 x547 x548=>(qq 1 Q (.agg (gR x533 x534 x535 x536 x537 x538 x539 x540 x541 x542 x543 x544 x545 x546 x547 x548)))) (dd 1 ((x5 == 123)) (j_number 2 x0 x1 x2 x3 (w6 (x4 + 1)) fun x549 x550 x551=>(dd 2 ((decide (x550 > w6 (x4 + 1)))) (j_is 3 x0 x1 x2 x3 x550 (bs [44]) fun x552=>(dd 1 x552 (j_number 2 x0 x1 x2 x3 (w6 (x550 + 1)) fun x553 x554 x555=>(dd 0 x551 (dd 3 ((x554 == w6 (x550 + 1))) (dd 2 ((x550 == w6 (x4 + 1))) (qq 9 Q (.agg (gR 1 x4 x6 x5 [] false 0 0 0 (bs []) 0 0 true x6 0 0))) (j_is 3 x0 x1 x2 x3 x554 (bs [125]) fun x556=>(dd 3 ((!x556)) (qq 4 Q (.agg (gR 1 x4 x6 x5 [] false 0 0 0 (bs []) 0 0 true x6 0 0))) (qq 5 Q (.agg (gZ 0 25 x4)))))) (dd 2 ((x550 == w6 (x4 + 1))) (qq 9 Q (.agg (gR 1 x4 x6 x5 [] false 0 0 0 (bs []) 0 0 true x6 0 0))) (j_is 3 x0 x1 x2 x3 x554 (bs [125]) fun x557=>(dd 3 ((!x557)) (qq 4 Q (.agg (gR 1 x4 x6 x5 [] false 0 0 0 (bs []) 0 0 true x6 0 0))) (qq 5 Q (.agg (gZ 0 25 x4))))))) (dd 3 ((x554 == w6 (x550 + 1))) (dd 2 ((x550 == w6 (x4 + 1))) (qq 9 Q (.agg (gR 1 x4 x6 x5 [] false 0 0 0 (bs []) 0 0 true x6 0 0))) (j_is 3 x0 x1 x2 x3 x554 (bs [125]) fun x558=>(dd 3 ((!x558)) (qq 4 Q (.agg (gR 1 x4 x6 x5 [] false 0 0 0 (bs []) 0 0 true x6 0 0))) (dd 0 x555 (qq 4 Q (.agg (gZ 0 25 x4))) (j_quantO 8 x0 x1 x2 x3 x4 (w6 (x554 + 1)) x549 (-1) fun x559 x560 x561 x562 x563 x564 x565 x566 x567 x568 x569 x570 x571 x572 x573 x574=>(qq 1 Q (.agg (gR x559 x560 x561 x562 x563 x564 x565 x566 x567 x568 x569 x570 x571 x572 x573 x574)))))))) (dd 2 ((x550 == w6 (x4 + 1))) (qq 9 Q (.agg (gR 1 x4 x6 x5 [] false 0 0 0 (bs []) 0 0 true x6 0 0))) (j_is 3 x0 x1 x2 x3 x554 (bs [125]) fun x575=>(dd 3 ((!x575)) (qq 4 Q (.agg (gR 1 x4 x6 x5 [] false 0 0 0 (bs []) 0 0 true x6 0 0))) (dd 0 x555 (qq 4 Q (.agg (gZ 0 25 x4))) (dd 1 ((decide (x553 ≥ 0))) (dd 4 ((decide (x553 < x549))) (qq 4 Q (.agg (gZ 0 23 x4))) (j_quantO 2 x0 x1 x2 x3 x4 (w6 (x554 + 1)) x549 x553 fun x576 x577 x578 x579 x580 x581 x582 x583 x584 x585 x586 x587 x588 x589 x590 x591=>(qq 1 Q (.agg (gR x576 x577 x578 x579 x580 x581 x582 x583 x584 x585 x586 x587 x588 x589 x590 x591))))) (j_quantO 6 x0 x1 x2 x3 x4 (w6 (x554 + 1)) x549 x553 fun x592 x593 x594 x595 x596 x597 x598 x599 x600 x601 x602 x603 x604 x605 x606 x607=>(qq 1 Q (.agg (gR x592 x593 x594 x595 x596 x597 x598 x599 x600 x601 x602 x603 x604 x605 x606 x607)))))))))))) (dd 2 ((x550 == w6 (x4 + 1))) (qq 9 Q (.agg (gR 1 x4 x6 x5 [] false 0 0 0 (bs []) 0 0 true x6 0 0))) (j_is 3 x0 x1 x2 x3 x550 (bs [125]) fun x608=>(dd 3 ((!x608)) (qq 4 Q (.agg (gR 1 x4 x6 x5 [] false 0 0 0 (bs []) 0 0 true x6 0 0))) (dd 0 x551 (qq 4 Q (.agg (gZ 0 25 x4))) (dd 1 ((decide (x549 ≥ 0))) (dd 4 ((decide (x549 < x549))) (qq 4 Q (.agg (gZ 0 23 x4))) (j_quantO 2 x0 x1 x2 x3 x4 (w6 (x550 + 1)) x549 x549 fun x609 x610 x611 x612 x613 x614 x615 x616 x617 x618 x619 x620 x621 x622 x623 x624=>(qq 1 Q (.agg (gR x609 x610 x611 x612 x613 x614 x615 x616 x617 x618 x619 x620 x621 x622 x623 x624))))) (j_quantO 6 x0 x1 x2 x3 x4 (w6 (x550 + 1)) x549 x549 fun x625 x626 x627 x628 x629 x630 x631 x632 x633 x634 x635 x636 x637 x638 x639 x640=>(qq 1 Q (.agg (gR x625 x626 x627 x628 x629 x630 x631 x632 x633 x634 x635 x636 x637 x638 x639 x640))))))))))) (dd 6 ((x550 == w6 (x4 + 1))) (qq 9 Q (.agg (gR 1 x4 x6 x5 [] false 0 0 0 (bs []) 0 0 true x6 0 0))) (j_is 3 x0 x1 x2 x3 x550 (bs [125]) fun x641=>(dd 3 ((!x641)) (qq 4 Q (.agg (gR 1 x4 x6 x5 [] false 0 0 0 (bs []) 0 0 true x6 0 0))) (dd 0 x551 (qq 4 Q (.agg (gZ 0 25 x4))) (dd 1 ((decide (x549 ≥ 0))) (dd 4 ((decide (x549 < x549))) (qq 4 Q (.agg (gZ 0 23 x4))) (j_quantO 2 x0 x1 x2 x3 x4 (w6 (x550 + 1)) x549 x549 fun x642 x643 x644 x645 x646 x647 x648 x649 x650 x651 x652 x653 x654 x655 x656 x657=>(qq 1 Q (.agg (gR x642 x643 x644 x645 x646 x647 x648 x649 x650 x651 x652 x653 x654 x655 x656 x657))))) (j_quantO 6 x0 x1 x2 x3 x4 (w6 (x550 + 1)) x549 x549 fun x658 x659 x660 x661 x662 x663 x664 x665 x666 x667 x668 x669 x670 x671 x672 x673=>(qq 1 Q (.agg (gR x658 x659 x660 x661 x662 x663 x664 x665 x666 x667 x668 x669 x670 x671 x672 x673))))))))))) (qq 4 Q (.agg (gR 1 x4 x6 x5 [] false 0 0 0 (bs []) 0 0 true x6 0 0)))))))))))))))))
theorem w_TokenO (x0 x1 x2 x3 x4) (Q : AV → HH → Prop) (h : (t_TokenO x0 x1 x2 x3 x4 Q).p) : ∃ r H',A 26 [(.agg [(sv x0),(bv x1),(bv x2),(iv x3)]),(iv x4)] [] r H' ∧ Q r H' :=
 Ans.wq rfl (t_TokenO x0 x1 x2 x3 x4 Q).h (by kernel_rfl) h
theorem c_TokenO (x0 x1 x2 x3 x4) (hp : pre_TokenO x0 x1 x2 x3 x4) : E_TokenO x0 x1 x2 x3 x4 := by
 obtain ⟨_,_,ha,_,hq,rfl,rfl⟩ := w_TokenO x0 x1 x2 x3 x4 (fun r H'=>∃ x5,post_TokenO x0 x1 x2 x3 x4 x5 ∧ r = (.agg x5) ∧ H' = []) (by
  obtain ⟨⟨_,_,_⟩,_⟩ := hp
  refine ⟨c_Char tP,fun _ x7 p8=>?_⟩
  obtain ⟨_,_,_,_⟩ := p8
  apply bS <;> intro _
  ·apply bS <;> intro _
   ·refine bS (fun _=>⟨_,tK,rfl,rfl⟩) fun _=>?_
    refine bS (fun _=>⟨_,tK,rfl,rfl⟩) fun _=>?_
    apply bS <;> intro _
    ·apply bS <;> intro _
     ·try have := tW (x7 - 1)
      refine ⟨tD,tV,fun x15 _=>?_⟩
      have ux15 := u8_lt x15
      apply bS <;> intro _
      ·try have := tW (x7 + 1)
       refine ⟨k_TokenO_0 tP,fun _ e19=>?_⟩
       obtain ⟨_,_⟩ := e19
       exact ⟨_,tK,rfl,rfl⟩
      exact ⟨_,tK,rfl,rfl⟩
     exact ⟨_,tK,rfl,rfl⟩
    apply bS <;> intro _
    ·refine ⟨GotL.words (c_escapeO x0 x1 x2 x3 x4 tP),fun _ _ _ _ _ _ _ _ _ _ _ _ _ _ _ _ _=>?_⟩
     exact ⟨_,tK,rfl,rfl⟩
    apply bS <;> intro _
    ·refine ⟨GotL.words (c_classTO x0 x1 x2 x3 x4 tP),fun _ _ _ _ _ _ _ _ _ _ _ _ _ _ _ _ _=>?_⟩
     exact ⟨_,tK,rfl,rfl⟩
    apply bS <;> intro _
    ·refine ⟨GotL.words (c_openTO x0 x1 x2 x3 x4 tP),fun _ _ _ _ _ _ _ _ _ _ _ _ _ _ _ _ p73=>?_⟩
     obtain ⟨_,_⟩ := p73
     exact ⟨_,tK,rfl,rfl⟩
    refine bS (fun _=>⟨_,tK,rfl,rfl⟩) fun _=>?_
    refine bS (fun _=>⟨_,tK,rfl,rfl⟩) fun _=>?_
    refine bS (fun _=>⟨_,tK,rfl,rfl⟩) fun _=>?_
    refine bS (fun _=>⟨_,tK,rfl,rfl⟩) fun _=>?_
    refine bS (fun _=>⟨_,tK,rfl,rfl⟩) fun _=>?_
    apply bS <;> intro _
    ·refine ⟨GotL.words (c_quantO x0 x1 x2 x3 x4 x7 0 (-1) tP),fun _ _ _ _ _ _ _ _ _ _ _ _ _ _ _ _ _=>?_⟩
     exact ⟨_,tK,rfl,rfl⟩
    apply bS <;> intro _
    ·refine ⟨GotL.words (c_quantO x0 x1 x2 x3 x4 x7 1 (-1) tP),fun _ _ _ _ _ _ _ _ _ _ _ _ _ _ _ _ _=>?_⟩
     exact ⟨_,tK,rfl,rfl⟩
    apply bS <;> intro _
    ·refine ⟨GotL.words (c_quantO x0 x1 x2 x3 x4 x7 0 1 tP),fun _ _ _ _ _ _ _ _ _ _ _ _ _ _ _ _ _=>?_⟩
     exact ⟨_,tK,rfl,rfl⟩
    apply bS <;> intro _
    ·try have := tW (x4 + 1)
     refine ⟨c_number tP,fun x134 x135 _ p137=>?_⟩
     obtain ⟨_,_,_,_,p137_4⟩ := p137
     apply bS <;> intro _
     ·refine ⟨c_is tP,fun _ p140=>?_⟩
      obtain ⟨p140_0,p140_1⟩ := p140
      try replace p140_0 := nz p140_0
      try replace p140_1 := nz p140_1
      apply bS <;> intro h141
      ·have p140_0c := p140_0 h141
       try have := tW (x135 + 1)
       refine ⟨c_number tP,fun x142 x143 _ p145=>?_⟩
       obtain ⟨_,_,_,_,p145_4⟩ := p145
       apply bS <;> intro h146
       ·apply bS <;> intro _
        ·refine bS (fun _=>⟨_,tK,rfl,rfl⟩) fun _=>?_
         refine ⟨c_is tP,fun _ p150=>?_⟩
         obtain ⟨p150_0,p150_1⟩ := p150
         try replace p150_0 := nz p150_0
         try replace p150_1 := nz p150_1
         refine bS (fun h151=>⟨_,tK,rfl,rfl⟩) fun h151=>?_
         have p150_0c := p150_0 h151
         exact ⟨_,tK,rfl,rfl⟩
        refine bS (fun _=>⟨_,tK,rfl,rfl⟩) fun _=>?_
        refine ⟨c_is tP,fun _ p154=>?_⟩
        obtain ⟨p154_0,p154_1⟩ := p154
        try replace p154_0 := nz p154_0
        try replace p154_1 := nz p154_1
        refine bS (fun h155=>⟨_,tK,rfl,rfl⟩) fun h155=>?_
        have p154_0c := p154_0 h155
        exact ⟨_,tK,rfl,rfl⟩
       have p137_4c := p137_4 h146
       apply bS <;> intro _
       ·refine bS (fun _=>⟨_,tK,rfl,rfl⟩) fun _=>?_
        refine ⟨c_is tP,fun _ p159=>?_⟩
        obtain ⟨p159_0,p159_1⟩ := p159
        try replace p159_0 := nz p159_0
        try replace p159_1 := nz p159_1
        refine bS (fun h160=>⟨_,tK,rfl,rfl⟩) fun h160=>?_
        have p159_0c := p159_0 h160
        refine bS (fun h161=>⟨_,tK,rfl,rfl⟩) fun h161=>?_
        have p145_4c := p145_4 h161
        try have := tW (x143 + 1)
        refine ⟨GotL.words (c_quantO x0 x1 x2 x3 x4 (w6 (x143 + 1)) x134 (-1) tP),fun _ _ _ _ _ _ _ _ _ _ _ _ _ _ _ _ _=>?_⟩
        exact ⟨_,tK,rfl,rfl⟩
       refine bS (fun _=>⟨_,tK,rfl,rfl⟩) fun _=>?_
       refine ⟨c_is tP,fun _ p181=>?_⟩
       obtain ⟨p181_0,p181_1⟩ := p181
       try replace p181_0 := nz p181_0
       try replace p181_1 := nz p181_1
       refine bS (fun h182=>⟨_,tK,rfl,rfl⟩) fun h182=>?_
       have p181_0c := p181_0 h182
       refine bS (fun h183=>⟨_,tK,rfl,rfl⟩) fun h183=>?_
       have p145_4c := p145_4 h183
       apply bS <;> intro _
       ·refine bS (fun _=>⟨_,tK,rfl,rfl⟩) fun _=>?_
        try have := tW (x143 + 1)
        refine ⟨GotL.words (c_quantO x0 x1 x2 x3 x4 (w6 (x143 + 1)) x134 x142 tP),fun _ _ _ _ _ _ _ _ _ _ _ _ _ _ _ _ _=>?_⟩
        exact ⟨_,tK,rfl,rfl⟩
       try have := tW (x143 + 1)
       refine ⟨GotL.words (c_quantO x0 x1 x2 x3 x4 (w6 (x143 + 1)) x134 x142 tP),fun _ _ _ _ _ _ _ _ _ _ _ _ _ _ _ _ _=>?_⟩
       exact ⟨_,tK,rfl,rfl⟩
      refine bS (fun _=>⟨_,tK,rfl,rfl⟩) fun _=>?_
      refine ⟨c_is tP,fun _ p222=>?_⟩
      obtain ⟨p222_0,p222_1⟩ := p222
      try replace p222_0 := nz p222_0
      try replace p222_1 := nz p222_1
      refine bS (fun h223=>⟨_,tK,rfl,rfl⟩) fun h223=>?_
      have p222_0c := p222_0 h223
      refine bS (fun h224=>⟨_,tK,rfl,rfl⟩) fun h224=>?_
      have p137_4c := p137_4 h224
      apply bS <;> intro _
      ·refine bS (fun _=>⟨_,tK,rfl,rfl⟩) fun _=>?_
       try have := tW (x135 + 1)
       refine ⟨GotL.words (c_quantO x0 x1 x2 x3 x4 (w6 (x135 + 1)) x134 x134 tP),fun _ _ _ _ _ _ _ _ _ _ _ _ _ _ _ _ _=>?_⟩
       exact ⟨_,tK,rfl,rfl⟩
      try have := tW (x135 + 1)
      refine ⟨GotL.words (c_quantO x0 x1 x2 x3 x4 (w6 (x135 + 1)) x134 x134 tP),fun _ _ _ _ _ _ _ _ _ _ _ _ _ _ _ _ _=>?_⟩
      exact ⟨_,tK,rfl,rfl⟩
     refine bS (fun _=>⟨_,tK,rfl,rfl⟩) fun _=>?_
     refine ⟨c_is tP,fun _ p263=>?_⟩
     obtain ⟨p263_0,p263_1⟩ := p263
     try replace p263_0 := nz p263_0
     try replace p263_1 := nz p263_1
     refine bS (fun h264=>⟨_,tK,rfl,rfl⟩) fun h264=>?_
     have p263_0c := p263_0 h264
     refine bS (fun h265=>⟨_,tK,rfl,rfl⟩) fun h265=>?_
     have p137_4c := p137_4 h265
     apply bS <;> intro _
     ·refine bS (fun _=>⟨_,tK,rfl,rfl⟩) fun _=>?_
      try have := tW (x135 + 1)
      refine ⟨GotL.words (c_quantO x0 x1 x2 x3 x4 (w6 (x135 + 1)) x134 x134 tP),fun _ _ _ _ _ _ _ _ _ _ _ _ _ _ _ _ _=>?_⟩
      exact ⟨_,tK,rfl,rfl⟩
     try have := tW (x135 + 1)
     refine ⟨GotL.words (c_quantO x0 x1 x2 x3 x4 (w6 (x135 + 1)) x134 x134 tP),fun _ _ _ _ _ _ _ _ _ _ _ _ _ _ _ _ _=>?_⟩
     exact ⟨_,tK,rfl,rfl⟩
    exact ⟨_,tK,rfl,rfl⟩
   refine bS (fun _=>⟨_,tK,rfl,rfl⟩) fun _=>?_
   apply bS <;> intro _
   ·apply bS <;> intro _
    ·try have := tW (x7 - 1)
     refine ⟨tD,tV,fun x305 _=>?_⟩
     have ux305 := u8_lt x305
     apply bS <;> intro _
     ·try have := tW (x7 + 1)
      refine ⟨k_TokenO_0 tP,fun _ e309=>?_⟩
      obtain ⟨_,_⟩ := e309
      exact ⟨_,tK,rfl,rfl⟩
     exact ⟨_,tK,rfl,rfl⟩
    exact ⟨_,tK,rfl,rfl⟩
   apply bS <;> intro _
   ·refine ⟨GotL.words (c_escapeO x0 x1 x2 x3 x4 tP),fun _ _ _ _ _ _ _ _ _ _ _ _ _ _ _ _ _=>?_⟩
    exact ⟨_,tK,rfl,rfl⟩
   apply bS <;> intro _
   ·refine ⟨GotL.words (c_classTO x0 x1 x2 x3 x4 tP),fun _ _ _ _ _ _ _ _ _ _ _ _ _ _ _ _ _=>?_⟩
    exact ⟨_,tK,rfl,rfl⟩
   apply bS <;> intro _
   ·refine ⟨GotL.words (c_openTO x0 x1 x2 x3 x4 tP),fun _ _ _ _ _ _ _ _ _ _ _ _ _ _ _ _ p363=>?_⟩
    obtain ⟨_,_⟩ := p363
    exact ⟨_,tK,rfl,rfl⟩
   refine bS (fun _=>⟨_,tK,rfl,rfl⟩) fun _=>?_
   refine bS (fun _=>⟨_,tK,rfl,rfl⟩) fun _=>?_
   refine bS (fun _=>⟨_,tK,rfl,rfl⟩) fun _=>?_
   refine bS (fun _=>⟨_,tK,rfl,rfl⟩) fun _=>?_
   refine bS (fun _=>⟨_,tK,rfl,rfl⟩) fun _=>?_
   apply bS <;> intro _
   ·refine ⟨GotL.words (c_quantO x0 x1 x2 x3 x4 x7 0 (-1) tP),fun _ _ _ _ _ _ _ _ _ _ _ _ _ _ _ _ _=>?_⟩
    exact ⟨_,tK,rfl,rfl⟩
   apply bS <;> intro _
   ·refine ⟨GotL.words (c_quantO x0 x1 x2 x3 x4 x7 1 (-1) tP),fun _ _ _ _ _ _ _ _ _ _ _ _ _ _ _ _ _=>?_⟩
    exact ⟨_,tK,rfl,rfl⟩
   apply bS <;> intro _
   ·refine ⟨GotL.words (c_quantO x0 x1 x2 x3 x4 x7 0 1 tP),fun _ _ _ _ _ _ _ _ _ _ _ _ _ _ _ _ _=>?_⟩
    exact ⟨_,tK,rfl,rfl⟩
   apply bS <;> intro _
   ·try have := tW (x4 + 1)
    refine ⟨c_number tP,fun x424 x425 _ p427=>?_⟩
    obtain ⟨_,_,_,_,p427_4⟩ := p427
    apply bS <;> intro _
    ·refine ⟨c_is tP,fun _ p430=>?_⟩
     obtain ⟨p430_0,p430_1⟩ := p430
     try replace p430_0 := nz p430_0
     try replace p430_1 := nz p430_1
     apply bS <;> intro h431
     ·have p430_0c := p430_0 h431
      try have := tW (x425 + 1)
      refine ⟨c_number tP,fun x432 x433 _ p435=>?_⟩
      obtain ⟨_,_,_,_,p435_4⟩ := p435
      apply bS <;> intro h436
      ·apply bS <;> intro _
       ·refine bS (fun _=>⟨_,tK,rfl,rfl⟩) fun _=>?_
        refine ⟨c_is tP,fun _ p440=>?_⟩
        obtain ⟨p440_0,p440_1⟩ := p440
        try replace p440_0 := nz p440_0
        try replace p440_1 := nz p440_1
        refine bS (fun h441=>⟨_,tK,rfl,rfl⟩) fun h441=>?_
        have p440_0c := p440_0 h441
        exact ⟨_,tK,rfl,rfl⟩
       refine bS (fun _=>⟨_,tK,rfl,rfl⟩) fun _=>?_
       refine ⟨c_is tP,fun _ p444=>?_⟩
       obtain ⟨p444_0,p444_1⟩ := p444
       try replace p444_0 := nz p444_0
       try replace p444_1 := nz p444_1
       refine bS (fun h445=>⟨_,tK,rfl,rfl⟩) fun h445=>?_
       have p444_0c := p444_0 h445
       exact ⟨_,tK,rfl,rfl⟩
      have p427_4c := p427_4 h436
      apply bS <;> intro _
      ·refine bS (fun _=>⟨_,tK,rfl,rfl⟩) fun _=>?_
       refine ⟨c_is tP,fun _ p449=>?_⟩
       obtain ⟨p449_0,p449_1⟩ := p449
       try replace p449_0 := nz p449_0
       try replace p449_1 := nz p449_1
       refine bS (fun h450=>⟨_,tK,rfl,rfl⟩) fun h450=>?_
       have p449_0c := p449_0 h450
       refine bS (fun h451=>⟨_,tK,rfl,rfl⟩) fun h451=>?_
       have p435_4c := p435_4 h451
       try have := tW (x433 + 1)
       refine ⟨GotL.words (c_quantO x0 x1 x2 x3 x4 (w6 (x433 + 1)) x424 (-1) tP),fun _ _ _ _ _ _ _ _ _ _ _ _ _ _ _ _ _=>?_⟩
       exact ⟨_,tK,rfl,rfl⟩
      refine bS (fun _=>⟨_,tK,rfl,rfl⟩) fun _=>?_
      refine ⟨c_is tP,fun _ p471=>?_⟩
      obtain ⟨p471_0,p471_1⟩ := p471
      try replace p471_0 := nz p471_0
      try replace p471_1 := nz p471_1
      refine bS (fun h472=>⟨_,tK,rfl,rfl⟩) fun h472=>?_
      have p471_0c := p471_0 h472
      refine bS (fun h473=>⟨_,tK,rfl,rfl⟩) fun h473=>?_
      have p435_4c := p435_4 h473
      apply bS <;> intro _
      ·refine bS (fun _=>⟨_,tK,rfl,rfl⟩) fun _=>?_
       try have := tW (x433 + 1)
       refine ⟨GotL.words (c_quantO x0 x1 x2 x3 x4 (w6 (x433 + 1)) x424 x432 tP),fun _ _ _ _ _ _ _ _ _ _ _ _ _ _ _ _ _=>?_⟩
       exact ⟨_,tK,rfl,rfl⟩
      try have := tW (x433 + 1)
      refine ⟨GotL.words (c_quantO x0 x1 x2 x3 x4 (w6 (x433 + 1)) x424 x432 tP),fun _ _ _ _ _ _ _ _ _ _ _ _ _ _ _ _ _=>?_⟩
      exact ⟨_,tK,rfl,rfl⟩
     refine bS (fun _=>⟨_,tK,rfl,rfl⟩) fun _=>?_
     refine ⟨c_is tP,fun _ p512=>?_⟩
     obtain ⟨p512_0,p512_1⟩ := p512
     try replace p512_0 := nz p512_0
     try replace p512_1 := nz p512_1
     refine bS (fun h513=>⟨_,tK,rfl,rfl⟩) fun h513=>?_
     have p512_0c := p512_0 h513
     refine bS (fun h514=>⟨_,tK,rfl,rfl⟩) fun h514=>?_
     have p427_4c := p427_4 h514
     apply bS <;> intro _
     ·refine bS (fun _=>⟨_,tK,rfl,rfl⟩) fun _=>?_
      try have := tW (x425 + 1)
      refine ⟨GotL.words (c_quantO x0 x1 x2 x3 x4 (w6 (x425 + 1)) x424 x424 tP),fun _ _ _ _ _ _ _ _ _ _ _ _ _ _ _ _ _=>?_⟩
      exact ⟨_,tK,rfl,rfl⟩
     try have := tW (x425 + 1)
     refine ⟨GotL.words (c_quantO x0 x1 x2 x3 x4 (w6 (x425 + 1)) x424 x424 tP),fun _ _ _ _ _ _ _ _ _ _ _ _ _ _ _ _ _=>?_⟩
     exact ⟨_,tK,rfl,rfl⟩
    refine bS (fun _=>⟨_,tK,rfl,rfl⟩) fun _=>?_
    refine ⟨c_is tP,fun _ p553=>?_⟩
    obtain ⟨p553_0,p553_1⟩ := p553
    try replace p553_0 := nz p553_0
    try replace p553_1 := nz p553_1
    refine bS (fun h554=>⟨_,tK,rfl,rfl⟩) fun h554=>?_
    have p553_0c := p553_0 h554
    refine bS (fun h555=>⟨_,tK,rfl,rfl⟩) fun h555=>?_
    have p427_4c := p427_4 h555
    apply bS <;> intro _
    ·refine bS (fun _=>⟨_,tK,rfl,rfl⟩) fun _=>?_
     try have := tW (x425 + 1)
     refine ⟨GotL.words (c_quantO x0 x1 x2 x3 x4 (w6 (x425 + 1)) x424 x424 tP),fun _ _ _ _ _ _ _ _ _ _ _ _ _ _ _ _ _=>?_⟩
     exact ⟨_,tK,rfl,rfl⟩
    try have := tW (x425 + 1)
    refine ⟨GotL.words (c_quantO x0 x1 x2 x3 x4 (w6 (x425 + 1)) x424 x424 tP),fun _ _ _ _ _ _ _ _ _ _ _ _ _ _ _ _ _=>?_⟩
    exact ⟨_,tK,rfl,rfl⟩
   exact ⟨_,tK,rfl,rfl⟩
  apply bS <;> intro _
  ·refine ⟨GotL.words (c_escapeO x0 x1 x2 x3 x4 tP),fun _ _ _ _ _ _ _ _ _ _ _ _ _ _ _ _ _=>?_⟩
   exact ⟨_,tK,rfl,rfl⟩
  apply bS <;> intro _
  ·refine ⟨GotL.words (c_classTO x0 x1 x2 x3 x4 tP),fun _ _ _ _ _ _ _ _ _ _ _ _ _ _ _ _ _=>?_⟩
   exact ⟨_,tK,rfl,rfl⟩
  apply bS <;> intro _
  ·refine ⟨GotL.words (c_openTO x0 x1 x2 x3 x4 tP),fun _ _ _ _ _ _ _ _ _ _ _ _ _ _ _ _ p645=>?_⟩
   obtain ⟨_,_⟩ := p645
   exact ⟨_,tK,rfl,rfl⟩
  refine bS (fun _=>⟨_,tK,rfl,rfl⟩) fun _=>?_
  refine bS (fun _=>⟨_,tK,rfl,rfl⟩) fun _=>?_
  refine bS (fun _=>⟨_,tK,rfl,rfl⟩) fun _=>?_
  refine bS (fun _=>⟨_,tK,rfl,rfl⟩) fun _=>?_
  refine bS (fun _=>⟨_,tK,rfl,rfl⟩) fun _=>?_
  apply bS <;> intro _
  ·refine ⟨GotL.words (c_quantO x0 x1 x2 x3 x4 x7 0 (-1) tP),fun _ _ _ _ _ _ _ _ _ _ _ _ _ _ _ _ _=>?_⟩
   exact ⟨_,tK,rfl,rfl⟩
  apply bS <;> intro _
  ·refine ⟨GotL.words (c_quantO x0 x1 x2 x3 x4 x7 1 (-1) tP),fun _ _ _ _ _ _ _ _ _ _ _ _ _ _ _ _ _=>?_⟩
   exact ⟨_,tK,rfl,rfl⟩
  apply bS <;> intro _
  ·refine ⟨GotL.words (c_quantO x0 x1 x2 x3 x4 x7 0 1 tP),fun _ _ _ _ _ _ _ _ _ _ _ _ _ _ _ _ _=>?_⟩
   exact ⟨_,tK,rfl,rfl⟩
  apply bS <;> intro _
  ·try have := tW (x4 + 1)
   refine ⟨c_number tP,fun x706 x707 _ p709=>?_⟩
   obtain ⟨_,_,_,_,p709_4⟩ := p709
   apply bS <;> intro _
   ·refine ⟨c_is tP,fun _ p712=>?_⟩
    obtain ⟨p712_0,p712_1⟩ := p712
    try replace p712_0 := nz p712_0
    try replace p712_1 := nz p712_1
    apply bS <;> intro h713
    ·have p712_0c := p712_0 h713
     try have := tW (x707 + 1)
     refine ⟨c_number tP,fun x714 x715 _ p717=>?_⟩
     obtain ⟨_,_,_,_,p717_4⟩ := p717
     apply bS <;> intro h718
     ·apply bS <;> intro _
      ·refine bS (fun _=>⟨_,tK,rfl,rfl⟩) fun _=>?_
       refine ⟨c_is tP,fun _ p722=>?_⟩
       obtain ⟨p722_0,p722_1⟩ := p722
       try replace p722_0 := nz p722_0
       try replace p722_1 := nz p722_1
       refine bS (fun h723=>⟨_,tK,rfl,rfl⟩) fun h723=>?_
       have p722_0c := p722_0 h723
       exact ⟨_,tK,rfl,rfl⟩
      refine bS (fun _=>⟨_,tK,rfl,rfl⟩) fun _=>?_
      refine ⟨c_is tP,fun _ p726=>?_⟩
      obtain ⟨p726_0,p726_1⟩ := p726
      try replace p726_0 := nz p726_0
      try replace p726_1 := nz p726_1
      refine bS (fun h727=>⟨_,tK,rfl,rfl⟩) fun h727=>?_
      have p726_0c := p726_0 h727
      exact ⟨_,tK,rfl,rfl⟩
     have p709_4c := p709_4 h718
     apply bS <;> intro _
     ·refine bS (fun _=>⟨_,tK,rfl,rfl⟩) fun _=>?_
      refine ⟨c_is tP,fun _ p731=>?_⟩
      obtain ⟨p731_0,p731_1⟩ := p731
      try replace p731_0 := nz p731_0
      try replace p731_1 := nz p731_1
      refine bS (fun h732=>⟨_,tK,rfl,rfl⟩) fun h732=>?_
      have p731_0c := p731_0 h732
      refine bS (fun h733=>⟨_,tK,rfl,rfl⟩) fun h733=>?_
      have p717_4c := p717_4 h733
      try have := tW (x715 + 1)
      refine ⟨GotL.words (c_quantO x0 x1 x2 x3 x4 (w6 (x715 + 1)) x706 (-1) tP),fun _ _ _ _ _ _ _ _ _ _ _ _ _ _ _ _ _=>?_⟩
      exact ⟨_,tK,rfl,rfl⟩
     refine bS (fun _=>⟨_,tK,rfl,rfl⟩) fun _=>?_
     refine ⟨c_is tP,fun _ p753=>?_⟩
     obtain ⟨p753_0,p753_1⟩ := p753
     try replace p753_0 := nz p753_0
     try replace p753_1 := nz p753_1
     refine bS (fun h754=>⟨_,tK,rfl,rfl⟩) fun h754=>?_
     have p753_0c := p753_0 h754
     refine bS (fun h755=>⟨_,tK,rfl,rfl⟩) fun h755=>?_
     have p717_4c := p717_4 h755
     apply bS <;> intro _
     ·refine bS (fun _=>⟨_,tK,rfl,rfl⟩) fun _=>?_
      try have := tW (x715 + 1)
      refine ⟨GotL.words (c_quantO x0 x1 x2 x3 x4 (w6 (x715 + 1)) x706 x714 tP),fun _ _ _ _ _ _ _ _ _ _ _ _ _ _ _ _ _=>?_⟩
      exact ⟨_,tK,rfl,rfl⟩
     try have := tW (x715 + 1)
     refine ⟨GotL.words (c_quantO x0 x1 x2 x3 x4 (w6 (x715 + 1)) x706 x714 tP),fun _ _ _ _ _ _ _ _ _ _ _ _ _ _ _ _ _=>?_⟩
     exact ⟨_,tK,rfl,rfl⟩
    refine bS (fun _=>⟨_,tK,rfl,rfl⟩) fun _=>?_
    refine ⟨c_is tP,fun _ p794=>?_⟩
    obtain ⟨p794_0,p794_1⟩ := p794
    try replace p794_0 := nz p794_0
    try replace p794_1 := nz p794_1
    refine bS (fun h795=>⟨_,tK,rfl,rfl⟩) fun h795=>?_
    have p794_0c := p794_0 h795
    refine bS (fun h796=>⟨_,tK,rfl,rfl⟩) fun h796=>?_
    have p709_4c := p709_4 h796
    apply bS <;> intro _
    ·refine bS (fun _=>⟨_,tK,rfl,rfl⟩) fun _=>?_
     try have := tW (x707 + 1)
     refine ⟨GotL.words (c_quantO x0 x1 x2 x3 x4 (w6 (x707 + 1)) x706 x706 tP),fun _ _ _ _ _ _ _ _ _ _ _ _ _ _ _ _ _=>?_⟩
     exact ⟨_,tK,rfl,rfl⟩
    try have := tW (x707 + 1)
    refine ⟨GotL.words (c_quantO x0 x1 x2 x3 x4 (w6 (x707 + 1)) x706 x706 tP),fun _ _ _ _ _ _ _ _ _ _ _ _ _ _ _ _ _=>?_⟩
    exact ⟨_,tK,rfl,rfl⟩
   refine bS (fun _=>⟨_,tK,rfl,rfl⟩) fun _=>?_
   refine ⟨c_is tP,fun _ p835=>?_⟩
   obtain ⟨p835_0,p835_1⟩ := p835
   try replace p835_0 := nz p835_0
   try replace p835_1 := nz p835_1
   refine bS (fun h836=>⟨_,tK,rfl,rfl⟩) fun h836=>?_
   have p835_0c := p835_0 h836
   refine bS (fun h837=>⟨_,tK,rfl,rfl⟩) fun h837=>?_
   have p709_4c := p709_4 h837
   apply bS <;> intro _
   ·refine bS (fun _=>⟨_,tK,rfl,rfl⟩) fun _=>?_
    try have := tW (x707 + 1)
    refine ⟨GotL.words (c_quantO x0 x1 x2 x3 x4 (w6 (x707 + 1)) x706 x706 tP),fun _ _ _ _ _ _ _ _ _ _ _ _ _ _ _ _ _=>?_⟩
    exact ⟨_,tK,rfl,rfl⟩
   try have := tW (x707 + 1)
   refine ⟨GotL.words (c_quantO x0 x1 x2 x3 x4 (w6 (x707 + 1)) x706 x706 tP),fun _ _ _ _ _ _ _ _ _ _ _ _ _ _ _ _ _=>?_⟩
   exact ⟨_,tK,rfl,rfl⟩
  exact ⟨_,tK,rfl,rfl⟩)
 exact ⟨_,hq,ha⟩
abbrev E_Token (S : ByteArray) (utf X : Bool) (most i : Int) : Prop := ∃ k at' to c s neg n m mode nm on off some' To E At',post_Token S utf X most i k at' to c s neg n m mode nm on off some' To E At' ∧ A 26 [.agg [sv S,bv utf,bv X,iv most],iv i] [] (.agg (gR k at' to c s neg n m mode nm on off some' To E At')) []
abbrev j_Token (nn : Nat) (S : ByteArray) (utf X : Bool) (most i : Int) (f : Int → Int → Int → Int → List AV → Bool → Int → Int → Int → ByteArray → Int → Int → Bool → Int → Int → Int → HC) : HC := ⟨.ev nn (.ask (eG fun k at' to c s neg n m mode nm on off some' To E At'=>.done (.res (.agg (gR k at' to c s neg n m mode nm on off some' To E At')) [] (post_Token S utf X most i k at' to c s neg n m mode nm on off some' To E At')) (f k at' to c s neg n m mode nm on off some' To E At').h)),E_Token S utf X most i ∧ ∀ k at' to c s neg n m mode nm on off some' To E At',post_Token S utf X most i k at' to c s neg n m mode nm on off some' To E At' → (f k at' to c s neg n m mode nm on off some' To E At').p⟩
theorem c_Token {S utf X most i} (hp : pre_Token S utf X most i) : E_Token S utf X most i := by
 obtain ⟨k,at',to,c,s,neg,n,m,mode,nm,on,off,some',To,E,At',h,ha⟩ := GotL.words (c_TokenO S utf X most i hp)
 exact ⟨k,at',to,c,s,neg,n,m,mode,nm,on,off,some',To,E,At',⟨(GotL.got h.1).1,(GotL.got h.1).2,fun hl=>(h.2 hl).got⟩,ha⟩
abbrev E_Valid (x0 : List AV) : Prop := ∃ x1 x2,post_Valid x0 x1 x2 ∧ A 23 [(.sl 1 x0)] [] (.tup [(iv x1),(bv x2)]) []
abbrev j_Valid (nn : Nat) (x0 : List AV) (kK : Int → Bool → HC) : HC := ⟨.ev nn (.ask (eI fun x1=>eB fun x2=>.done (.res (.tup [(iv x1),(bv x2)]) [] (post_Valid x0 x1 x2)) ((kK x1 x2).h))),E_Valid x0 ∧ (∀ x1 x2,post_Valid x0 x1 x2 → (kK x1 x2).p)⟩
def s_Valid_0 (x0 : List AV) (x1 : Int) : St := ⟨[],[(0,(.sl 1 x0)),(4,(iv x1))],[],0⟩
def x_Valid_0_0 (x0 : List AV) (y1 : Int) : St := ⟨[],[(2,(iv y1)),(3,(bv false))],[],0⟩
def x_Valid_0_1 (x0 : List AV) (y1 : Int) : St := ⟨[],[(0,(.sl 1 x0)),(4,(iv y1)),(10,(bv false))],[],0⟩
abbrev E_Valid_0 (x0 : List AV) (x1o : Int) : Prop := ((∃ y2,out_Valid_0_0 x0 x1o y2 ∧ R 23 0 (s_Valid_0 x0 x1o) (Ex.ret,x_Valid_0_0 x0 y2)) ∨ (∃ y2,out_Valid_0_1 x0 x1o y2 ∧ R 23 0 (s_Valid_0 x0 x1o) ((.exit 0),x_Valid_0_1 x0 y2)))
abbrev j_Valid_0 (nn : Nat) (x0 : List AV) (x1o : Int) (f0 : Int → HC) (f1 : Int → HC) : HC := ⟨.ev nn (.ask (.or (eI fun y2=>.done (.exit Ex.ret (x_Valid_0_0 x0 y2) (out_Valid_0_0 x0 x1o y2)) (f0 y2).h) (eI fun y2=>.done (.exit (.exit 0) (x_Valid_0_1 x0 y2) (out_Valid_0_1 x0 x1o y2)) (f1 y2).h))),E_Valid_0 x0 x1o ∧ ((∀ y2,out_Valid_0_0 x0 x1o y2 → (f0 y2).p) ∧ (∀ y2,out_Valid_0_1 x0 x1o y2 → (f1 y2).p))⟩
abbrev t_Valid_0 (x0 : List AV) (x1 : Int) (Q : Ex → St → Prop) : HC := (dd 1 ((decide (x1 < (↑x0.length : Int)))) (oo 0 ((npL [(.sl 1 x0),(iv x1)])) (j_At 0 x0 x1 fun x2 x3=>(dd 1 ((x3 == 0)) (zz 0 (Q Ex.ret (x_Valid_0_0 x0 x1))) (zz 1 (Q .norm (s_Valid_0 x0 (w6 (x1 + x3)))))))) (zz 0 (Q (.exit 0) (x_Valid_0_1 x0 x1))))
theorem l_Valid_0 (x0 x1) (Q : Ex → St → Prop) (h : (t_Valid_0 x0 x1 Q).p) : ∃ e s',L 23 0 (s_Valid_0 x0 x1) (e,s') ∧ Q e s' :=
 Leads.wq (t_Valid_0 x0 x1 Q).h (by kernel_rfl) h
theorem k_Valid_0 {x0 x1o} (hi : inv_Valid_0 x0 x1o x1o) : E_Valid_0 x0 x1o := by
 obtain ⟨e,s',hr,hq⟩ := Rounds.byInv (st := fun (w : Int)=>s_Valid_0 x0 w) (Inv := fun w=>inv_Valid_0 x0 x1o w) (μ := fun w=>mu_Valid_0 x0 w) (Q := fun e s'=>((∃ y2,out_Valid_0_0 x0 x1o y2 ∧ e = Ex.ret ∧ s' = x_Valid_0_0 x0 y2) ∨ (∃ y2,out_Valid_0_1 x0 x1o y2 ∧ e = (.exit 0) ∧ s' = x_Valid_0_1 x0 y2))) (by
  intro x1 hi
  have hi : inv_Valid_0 x0 x1o x1 := hi
  refine l_Valid_0 x0 x1 _ ?_
  obtain ⟨_,_,_,_⟩ := hi
  apply bS <;> intro _
  ·refine ⟨tN,c_At tP,fun _ x5 p6=>?_⟩
   obtain ⟨_,_,_,_,_,_⟩ := p6
   apply bS <;> intro _
   ·exact .inr ⟨by simp,.inl ⟨_,tP,rfl,rfl⟩⟩
   try have := tW (x1 + x5)
   exact .inl ⟨rfl,(w6 (x1 + x5)),rfl,tP,by unfold mu_Valid_0; exact tI⟩
  exact .inr ⟨by simp,.inr (⟨_,tP,rfl,rfl⟩)⟩) x1o hi
 rcases hq with ⟨_,ho,rfl,rfl⟩ | ⟨_,ho,rfl,rfl⟩
 
 ·exact .inl ⟨_,ho,hr⟩
 ·exact .inr (⟨_,ho,hr⟩)
abbrev t_Valid (x0 : List AV) (Q : AV → HH → Prop) : HC := (j_Valid_0 0 x0 0 (fun x1=>(qq 1 Q (.tup [(iv x1),(bv false)]))) (fun x2=>(qq 1 Q (.tup [(iv x2),(bv true)]))))
theorem w_Valid (x0) (Q : AV → HH → Prop) (h : (t_Valid x0 Q).p) : ∃ r H',A 23 [(.sl 1 x0)] [] r H' ∧ Q r H' :=
 Ans.wq rfl (t_Valid x0 Q).h (by kernel_rfl) h
theorem c_Valid {x0} (hp : pre_Valid x0) : E_Valid x0 := by
 obtain ⟨_,_,ha,_,_,hq,rfl,rfl⟩ := w_Valid x0 (fun r H'=>∃ x1 x2,post_Valid x0 x1 x2 ∧ r = (.tup [(iv x1),(bv x2)]) ∧ H' = []) (by
  obtain ⟨_,_⟩ := hp
  refine ⟨k_Valid_0 tP,fun _ _=>?_,fun _ _=>?_⟩
  ·exact ⟨_,_,tP,rfl,rfl⟩
  exact ⟨_,_,tP,rfl,rfl⟩)
 exact ⟨_,_,hq,ha⟩
abbrev E_Lex (x0 : List AV) (x1 : Int) : Prop := ∃ x2 x3 x4,post_Lex x0 x1 x2 x3 x4 ∧ A 14 [(.sl 1 x0),(iv x1)] [] (.tup [(.sl 12 x2),(iv x3),(iv x4)]) []
abbrev j_Lex (nn : Nat) (x0 : List AV) (x1 : Int) (kK : List AV → Int → Int → HC) : HC := ⟨.ev nn (.ask (eL fun x2=>eI fun x3=>eI fun x4=>.done (.res (.tup [(.sl 12 x2),(iv x3),(iv x4)]) [] (post_Lex x0 x1 x2 x3 x4)) ((kK x2 x3 x4).h))),E_Lex x0 x1 ∧ (∀ x2 x3 x4,post_Lex x0 x1 x2 x3 x4 → (kK x2 x3 x4).p)⟩
def s_Lex_0 (x0 : ByteArray) (x1 x2 : Bool) (x3 : Int) (x4 : List AV) (x5 : Int) (x6 : Bool) : St := ⟨[],[(7,(.box [(sv x0),(bv x1),(bv x2),(iv x3)])),(10,(.cap false 66 x4)),(11,(iv x5)),(12,(bv x6))],[],0⟩
def x_Lex_0_0 (x0 : ByteArray) (x1 x2 : Bool) (x3 y4 y5 : Int) : St := ⟨[],[(4,(.sl 12 [])),(5,(iv y4)),(6,(iv y5))],[],0⟩
def x_Lex_0_1 (x0 : ByteArray) (x1 x2 : Bool) (x3 : Int) (y4 : List AV) (y5 : Int) (y6 : Bool) : St := ⟨[],[(7,(.box [(sv x0),(bv x1),(bv x2),(iv x3)])),(10,(.cap false 66 y4)),(11,(iv y5)),(12,(bv y6)),(49,(bv false))],[],0⟩
abbrev E_Lex_0 (x0 : ByteArray) (x1 x2 : Bool) (x3 : Int) (x4o : List AV) (x5o : Int) (x6o : Bool) : Prop := ((∃ y7 y8,out_Lex_0_0 x0 x1 x2 x3 x4o x5o x6o y7 y8 ∧ R 14 0 (s_Lex_0 x0 x1 x2 x3 x4o x5o x6o) (Ex.ret,x_Lex_0_0 x0 x1 x2 x3 y7 y8)) ∨ (∃ y7 y8 y9,out_Lex_0_1 x0 x1 x2 x3 x4o x5o x6o y7 y8 y9 ∧ R 14 0 (s_Lex_0 x0 x1 x2 x3 x4o x5o x6o) ((.exit 0),x_Lex_0_1 x0 x1 x2 x3 y7 y8 y9)))
abbrev j_Lex_0 (nn : Nat) (x0 : ByteArray) (x1 x2 : Bool) (x3 : Int) (x4o : List AV) (x5o : Int) (x6o : Bool) (f0 : Int → Int → HC) (f1 : List AV → Int → Bool → HC) : HC := ⟨.ev nn (.ask (.or (eI fun y7=>eI fun y8=>.done (.exit Ex.ret (x_Lex_0_0 x0 x1 x2 x3 y7 y8) (out_Lex_0_0 x0 x1 x2 x3 x4o x5o x6o y7 y8)) (f0 y7 y8).h) (eL fun y7=>eI fun y8=>eB fun y9=>.done (.exit (.exit 0) (x_Lex_0_1 x0 x1 x2 x3 y7 y8 y9) (out_Lex_0_1 x0 x1 x2 x3 x4o x5o x6o y7 y8 y9)) (f1 y7 y8 y9).h))),E_Lex_0 x0 x1 x2 x3 x4o x5o x6o ∧ ((∀ y7 y8,out_Lex_0_0 x0 x1 x2 x3 x4o x5o x6o y7 y8 → (f0 y7 y8).p) ∧ (∀ y7 y8 y9,out_Lex_0_1 x0 x1 x2 x3 x4o x5o x6o y7 y8 y9 → (f1 y7 y8 y9).p))⟩
abbrev t_Lex_0 (x0 : ByteArray) (x1 x2 : Bool) (x3 : Int) (x4 : List AV) (x5 : Int) (x6 : Bool) (Q : Ex → St → Prop) : HC := (dd 1 ((decide (x5 < (↑x0.size : Int)))) (dd 0 x6 (j_is 1 x0 x1 x2 x3 x5 (bs [92,69]) fun x7=>(dd 0 x7 (zz 1 (Q .norm (s_Lex_0 x0 x1 x2 x3 x4 (w6 (x5 + 2)) false))) (j_Char 1 x0 x1 x2 x3 x5 fun x8 x9=>(oo 0 ((roomD pr 66 x4.length 1)) (zz 0 (Q .norm (s_Lex_0 x0 x1 x2 x3 (x4 ++ [AV.agg (kR 1 x5 x9 x8 [] false 0 0 0 (bs []) 0 0)]) x9 x6))))))) (j_is 1 x0 x1 x2 x3 x5 (bs [92,81]) fun x10=>(dd 0 x10 (zz 1 (Q .norm (s_Lex_0 x0 x1 x2 x3 x4 (w6 (x5 + 2)) true))) (j_Token 1 x0 x1 x2 x3 x5 fun x11 x12 x13 x14 x15 x16 x17 x18 x19 x20 x21 x22 x23 x24 x25 x26=>(dd 1 ((!x25 == 0)) (zz 0 (Q Ex.ret (x_Lex_0_0 x0 x1 x2 x3 x25 x26))) (dd 0 x23 (oo 0 ((roomD pr 66 x4.length 1)) (zz 0 (Q .norm (s_Lex_0 x0 x1 x2 x3 (x4 ++ [AV.agg (kR x11 x12 x13 x14 x15 x16 x17 x18 x19 x20 x21 x22)]) x24 x6)))) (zz 0 (Q .norm (s_Lex_0 x0 x1 x2 x3 x4 x24 x6))))))))) (zz 0 (Q (.exit 0) (x_Lex_0_1 x0 x1 x2 x3 x4 x5 x6))))
theorem l_Lex_0 (x0 x1 x2 x3 x4 x5 x6) (Q : Ex → St → Prop) (h : (t_Lex_0 x0 x1 x2 x3 x4 x5 x6 Q).p) : ∃ e s',L 14 0 (s_Lex_0 x0 x1 x2 x3 x4 x5 x6) (e,s') ∧ Q e s' :=
 Leads.wq (t_Lex_0 x0 x1 x2 x3 x4 x5 x6 Q).h (by kernel_rfl) h
theorem k_Lex_0 {x0 x1 x2 x3 x4o x5o x6o} (hi : inv_Lex_0 x0 x1 x2 x3 x4o x5o x6o x4o x5o x6o) : E_Lex_0 x0 x1 x2 x3 x4o x5o x6o := by
 obtain ⟨e,s',hr,hq⟩ := Rounds.byInv (st := fun (w : (List AV) × Int × Bool)=>s_Lex_0 x0 x1 x2 x3 w.1 w.2.1 w.2.2) (Inv := fun w=>inv_Lex_0 x0 x1 x2 x3 x4o x5o x6o w.1 w.2.1 w.2.2) (μ := fun w=>mu_Lex_0 x0 x1 x2 x3 w.1 w.2.1 w.2.2) (Q := fun e s'=>((∃ y7 y8,out_Lex_0_0 x0 x1 x2 x3 x4o x5o x6o y7 y8 ∧ e = Ex.ret ∧ s' = x_Lex_0_0 x0 x1 x2 x3 y7 y8) ∨ (∃ y7 y8 y9,out_Lex_0_1 x0 x1 x2 x3 x4o x5o x6o y7 y8 y9 ∧ e = (.exit 0) ∧ s' = x_Lex_0_1 x0 x1 x2 x3 y7 y8 y9))) (by
  rintro ⟨x4,x5,x6⟩ hi
  have hi : inv_Lex_0 x0 x1 x2 x3 x4o x5o x6o x4 x5 x6 := hi
  refine l_Lex_0 x0 x1 x2 x3 x4 x5 x6 _ ?_
  obtain ⟨_,_,_,_,_,_,hi_6⟩ := hi
  apply bS <;> intro _
  ·apply bS <;> intro h11
   ·refine ⟨c_is tP,fun _ p13=>?_⟩
    obtain ⟨p13_0,p13_1⟩ := p13
    try replace p13_0 := nz p13_0
    try replace p13_1 := nz p13_1
    apply bS <;> intro h14
    ·have p13_0c := p13_0 h14
     try have := tW (x5 + 2)
     exact .inl ⟨rfl,(x4,(w6 (x5 + 2)),false),rfl,zb2x2,zb2x3⟩
    refine ⟨c_Char tP,fun x16 x17 p18=>?_⟩
    obtain ⟨_,_,_,_⟩ := p18
    refine ⟨tR,?_⟩
    exact .inl ⟨rfl,((x4 ++ [AV.agg [iv 1,iv x5,iv x17,iv x16,AV.sl 2 [],bv false,iv 0,iv 0,iv 0,sv (bs []),iv 0,iv 0]]),x17,x6),rfl,zb2x2,zb2x3⟩
   refine ⟨c_is tP,fun _ p20=>?_⟩
   obtain ⟨p20_0,p20_1⟩ := p20
   try replace p20_0 := nz p20_0
   try replace p20_1 := nz p20_1
   apply bS <;> intro h21
   ·have p20_0c := p20_0 h21
    try have := tW (x5 + 2)
    exact .inl ⟨rfl,(x4,(w6 (x5 + 2)),true),rfl,zb2x2,zb2x3⟩
   refine ⟨c_Token tP,fun x22 x23 x24 x25 x26 x27 x28 x29 x30 x31 x32 x33 _ x35 _ _ p15=>?_⟩
   obtain ⟨_,p15_1,p15_2⟩ := p15
   apply bS <;> intro h38
   ·exact .inr ⟨by simp,.inl ⟨_,_,by first | trivial | exact ⟨tP,tP,TCi.fin (by with_reducible assumption) (by omega) (by omega) (by omega)⟩,rfl,rfl⟩⟩
   obtain ⟨_,_,_,_,p15_1c_4⟩ := p15_1 h38
   apply bS <;> intro _
   ·refine ⟨tR,?_⟩
    exact .inl ⟨rfl,((x4 ++ [AV.agg [iv x22,iv x23,iv x24,iv x25,AV.sl 2 x26,bv x27,iv x28,iv x29,iv x30,sv x31,iv x32,iv x33]]),x35,x6),rfl,zb2x2,zb2x3⟩
   exact .inl ⟨rfl,(x4,x35,x6),rfl,zb2x2,zb2x3⟩
  exact .inr ⟨by simp,.inr (⟨_,_,_,by first | trivial | exact ⟨tP,tP,TCi.fin (by with_reducible assumption) (by omega) (by omega) (by omega)⟩,rfl,rfl⟩)⟩) (x4o,x5o,x6o) hi
 rcases hq with ⟨_,_,ho,rfl,rfl⟩ | ⟨_,_,_,ho,rfl,rfl⟩
 
 ·exact .inl ⟨_,_,ho,hr⟩
 ·exact .inr (⟨_,_,_,ho,hr⟩)
abbrev t_Lex (x0 : List AV) (x1 : Int) (Q : AV → HH → Prop) : HC := (dd 1 ((decide (x1 < 0))) (qq 4 Q (.tup [(.sl 12 []),(iv 1),(iv 0)])) (dd 3 ((decide (x1 > 65535))) (qq 1 Q (.tup [(.sl 12 []),(iv 1),(iv 0)])) (dd 1 ((decide ((↑x0.length : Int) > 1000))) (qq 1 Q (.tup [(.sl 12 []),(iv 10),(iv 1000)])) (pW1 0 ((match bytesOf x0 with | some b=>some (Value.string { data := b.toArray }) | none=>none)) (fun (x2 : ByteArray)=>(.string x2)) fun x2=>(dd 4 ((!w6 (↑((x1 % 18446744073709551616).toNat &&& 32) : Int) == 0)) (oo 0 ((npL [(.sl 1 x0)])) (j_Valid 0 x0 fun x3 x4=>(dd 1 ((!x4)) (qq 1 Q (.tup [(.sl 12 []),(iv 13),(iv x3)])) (j_Lex_0 0 x2 (!w6 (↑((x1 % 18446744073709551616).toNat &&& 32) : Int) == 0) (!w6 (↑((x1 % 18446744073709551616).toNat &&& 8) : Int) == 0) 1114111 [] 0 false (fun x5 x6=>(qq 1 Q (.tup [(.sl 12 []),(iv x5),(iv x6)]))) (fun x7 x8 x9=>(qq 1 Q (.tup [(.sl 12 x7),(iv 0),(iv 0)]))))))) (j_Lex_0 0 x2 (!w6 (↑((x1 % 18446744073709551616).toNat &&& 32) : Int) == 0) (!w6 (↑((x1 % 18446744073709551616).toNat &&& 8) : Int) == 0) 255 [] 0 false (fun x10 x11=>(qq 1 Q (.tup [(.sl 12 []),(iv x10),(iv x11)]))) (fun x12 x13 x14=>(qq 1 Q (.tup [(.sl 12 x12),(iv 0),(iv 0)])))))))))
theorem w_Lex (x0 x1) (Q : AV → HH → Prop) (h : (t_Lex x0 x1 Q).p) : ∃ r H',A 14 [(.sl 1 x0),(iv x1)] [] r H' ∧ Q r H' :=
 Ans.wq rfl (t_Lex x0 x1 Q).h (by kernel_rfl) h
theorem c_Lex {x0 x1} (hp : pre_Lex x0 x1) : E_Lex x0 x1 := by
 obtain ⟨_,_,ha,_,_,_,hq,rfl,rfl⟩ := w_Lex x0 x1 (fun r H'=>∃ x2 x3 x4,post_Lex x0 x1 x2 x3 x4 ∧ r = (.tup [(.sl 12 x2),(iv x3),(iv x4)]) ∧ H' = []) (by
  obtain ⟨_,_⟩ := hp
  refine bS (fun _=>⟨_,1,0,tP,rfl,rfl⟩) fun _=>?_
  refine bS (fun _=>⟨_,1,0,tP,rfl,rfl⟩) fun _=>?_
  refine bS (fun _=>⟨_,_,_,tP,rfl,rfl⟩) fun _=>?_
  refine ⟨tV,fun _ g9=>?_⟩
  try have eg9 := Bs.strlen tA g9
  try have := tW (↑((x1 % 18446744073709551616).toNat &&& 32) : Int)
  apply bS <;> intro _
  ·refine ⟨tN,c_Valid tP,fun _ _ _=>?_⟩
   refine bS (fun _=>⟨_,_,_,tP,rfl,rfl⟩) fun _=>?_
   try have := tW (↑((x1 % 18446744073709551616).toNat &&& 8) : Int)
   refine ⟨k_Lex_0 (by (try dsimp only); refine ⟨tP,tP,tP,tP,tP,tP,?_⟩; first | exact TCi.nil | (refine TCi.skip hi_6 (fun hl hq=>?_); first | (refine lookB_noQ (i := x15) ?_ ?_ hl <;> first | omega | grind) | (have hk := p16_2 hl; simp_all; done) | (exfalso; simp_all; done)) | (refine TCi.push hi_6 (fun hl hq=>?_) (fun hc=>?_); all_goals first | exact isO_of (p16_2 hl).1 (p16_2 hl).2.1 | exact ⟨h17,p16_1c_4 (isC_of hc).1 (isC_of hc).2⟩ | (have hc := isC_of hc; omega) | (exfalso; simp_all; done))),fun _ _ _=>?_,fun _ _ _ e24=>?_⟩
   ·exact ⟨_,_,_,tP,rfl,rfl⟩
   obtain ⟨e24_0,e24_1,e24_2⟩ := e24
   try replace e24_0 := nz e24_0
   try replace e24_1 := nz e24_1
   try replace e24_2 := nz e24_2
   exact ⟨_,0,0,tP,rfl,rfl⟩
  try have := tW (↑((x1 % 18446744073709551616).toNat &&& 8) : Int)
  refine ⟨k_Lex_0 (by (try dsimp only); refine ⟨tP,tP,tP,tP,tP,tP,?_⟩; first | exact TCi.nil | (refine TCi.skip hi_6 (fun hl hq=>?_); first | (refine lookB_noQ (i := x15) ?_ ?_ hl <;> first | omega | grind) | (have hk := p16_2 hl; simp_all; done) | (exfalso; simp_all; done)) | (refine TCi.push hi_6 (fun hl hq=>?_) (fun hc=>?_); all_goals first | exact isO_of (p16_2 hl).1 (p16_2 hl).2.1 | exact ⟨h17,p16_1c_4 (isC_of hc).1 (isC_of hc).2⟩ | (have hc := isC_of hc; omega) | (exfalso; simp_all; done))),fun _ _ _=>?_,fun _ _ _ e31=>?_⟩
  ·exact ⟨_,_,_,tP,rfl,rfl⟩
  obtain ⟨e31_0,e31_1,e31_2⟩ := e31
  try replace e31_0 := nz e31_0
  try replace e31_1 := nz e31_1
  try replace e31_2 := nz e31_2
  exact ⟨_,0,0,tP,rfl,rfl⟩)
 exact ⟨_,_,_,hq,ha⟩
end
end Go.Proofs.Ytcjcdammcmjbnaa.U
