/- Vrules, Trsym, Trdes, Trmul6, Trnorm, Trnodes (joined by shake.py). -/
import Derived.Test.YtjhjoiplpmjepaaGreatW0
import Derived.Test.YtjhjoiplpmjepaaGreatW5
import Derived.Test.YtjhjoiplpmjepaaGreatW6
import Derived.Test.YtjhjoiplpmjepaaGreatW8
import Derived.Test.YtjhjoiplpmjepaaGreatW11
import Derived.Test.YtjhjoiplpmjepaaGreatW12
import Derived.Test.YtjhjoiplpmjepaaGreatW13
import Derived.Test.YtjhjoiplpmjepaaGreatW14
import Derived.Test.YtjhjoiplpmjepaaGreatW15
import Derived.Test.YtjhjoiplpmjepaaGreatW16
import Derived.Test.YtjhjoiplpmjepaaGreatW18
import Derived.Test.YtjhjoiplpmjepaaGreatW19
import Derived.Test.YtjhjoiplpmjepaaGreatW20
import Derived.Deep.QuietTactic
import Derived.BigQuiet
import Derived.Deep.Cut
set_option maxRecDepth 100000
set_option linter.unusedVariables false
set_option linter.unusedSimpArgs false
set_option maxHeartbeats 64000000
namespace Go.Proofs.YtjhjoiplpmjepaaGreat
open Go.RowKit Go.Sort
theorem qcv {W:World} {b:Nat} {P:Nat→Prop} (n:ByteArray) (its:List It) (hn:n.size≤1000) (hl:its.length≤1000) (HL:Hid (W.heap[b]?=some (.cells (itCells its).toArray 24 (0,0)))) (hb:P b) (hr:∀y∈its,RepP W P y.1 y.2.1 y.2.2) :
  RepP W P (.mk 3 n 0 (its.map (·.1))) (some ⟨b,0,none⟩) its.length:=by
 rw[qa3];refine⟨by unfold maxLen;omega,by rw[List.length_map];exact Nat.le_refl _,by unfold maxLen;omega,.inr ⟨b,0,rfl,hb,?_⟩⟩;refine RepLP.of_its its _ 0 (fun j u hj=>?_) hr;rw[Nat.zero_add];unfold World.cell?;rw[HL.out];simpa using hj
theorem rep_var {W:World} {P:Nat→Prop} {x:Tm} (hx:x=vX∨x=vY):RepP W P x none 0:=by
 rcases hx with rfl|rfl
 ·show RepP W P (.mk 1 ⟨#[120]⟩ 0 []) none 0;rw[qa3];exact⟨by decide,Nat.le_refl _,Nat.zero_le _,.inl rfl⟩
 ·show RepP W P (.mk 1 ⟨#[121]⟩ 0 []) none 0;rw[qa3];exact⟨by decide,Nat.le_refl _,Nat.zero_le _,.inl rfl⟩
theorem qpd (w:World):Calls Tryz.prog 28 #[] w fun e w'=>∃A c,e=.returned (.slice A 6 c)∧RepB w' (fun b=>b<w'.heap.size) rulesT A c∧Below w.heap.size w w':=by
 obtain⟨D,hD⟩:∃D,D=w:=⟨_,rfl⟩;have HB:Hid (Below D.heap.size D w):=hdzz (by rw[hD];exact Below.refl _ _);have hB0:0≤D.heap.size:=Nat.zero_le _;have HD:=hdzz hD;clear hD;go_enter Tryz.func28,Tryz.ntmps28
 go_wp2_with fail
 refine(qaf _).mono ?_;rintro e w1 ⟨rfl,hb⟩
 replace HB:=hbt HB hb
 clear hb;go_wp2_with fail
 refine(qaf _).mono ?_;rintro e w2 ⟨rfl,hb⟩
 replace HB:=hbt HB hb
 clear hb;go_wp2_with fail
 refine(qah _).mono ?_;rintro e w3 ⟨rfl,hb⟩
 replace HB:=hbt HB hb
 clear hb;obtain⟨z1,hZ⟩:∃Z,Z=w3.alloc (.cells #[.int .i64 1,.string ⟨#[120]⟩,.int .i64 0,.slice none 0 0,.int .i64 1,.string ⟨#[121]⟩,.int .i64 0,.slice none 0 0] 24):=⟨_,rfl⟩;obtain⟨b1,hbe,hb,HL1,-⟩:=qcz [((vX,none,0):It),((vY,none,0):It)] HB hB0 hZ;go_wp2_with fail
 rw[←hZ,←hbe];clear hZ hbe
 replace HB:=hbt HB hb
 clear hb;refine(qam _ _ _ _ _).mono ?_;rintro e w4 ⟨rfl,hb⟩
 replace HL1:=hbl hb HL1
 replace HB:=hbt HB hb
 clear hb;obtain⟨z2,hZ⟩:∃Z,Z=w4.alloc (.cells #[.int .i64 3,.string ⟨#[112,97,105,114]⟩,.int .i64 0,.slice (some ⟨b1,0,none⟩) 2 2] 24):=⟨_,rfl⟩;obtain⟨b2,hbe,hb,HL2,-⟩:=qcz [(((Tm.mk 3 qbd 0 [vX,vY]),(some ⟨b1,0,none⟩),2):It)] HB hB0 hZ;go_wp2_with fail
 rw[←hZ,←hbe];clear hZ hbe
 replace HL1:=hbl hb HL1
 replace HB:=hbt HB hb
 clear hb;refine(qaj _ _ _ _ _ _ _ _ _ _ _).mono ?_;rintro e w5 ⟨rfl,hb⟩
 replace HL1:=hbl hb HL1
 replace HL2:=hbl hb HL2
 replace HB:=hbt HB hb
 clear hb;go_wp2_with fail
 refine(qah _).mono ?_;rintro e w6 ⟨rfl,hb⟩
 replace HL1:=hbl hb HL1
 replace HL2:=hbl hb HL2
 replace HB:=hbt HB hb
 clear hb;go_wp2_with fail
 refine(qaf _).mono ?_;rintro e w7 ⟨rfl,hb⟩
 replace HL1:=hbl hb HL1
 replace HL2:=hbl hb HL2
 replace HB:=hbt HB hb
 clear hb;go_wp2_with fail
 refine(qah _).mono ?_;rintro e w8 ⟨rfl,hb⟩
 replace HL1:=hbl hb HL1
 replace HL2:=hbl hb HL2
 replace HB:=hbt HB hb
 clear hb;obtain⟨z3,hZ⟩:∃Z,Z=w8.alloc (.cells #[.int .i64 1,.string ⟨#[120]⟩,.int .i64 0,.slice none 0 0,.int .i64 1,.string ⟨#[121]⟩,.int .i64 0,.slice none 0 0] 24):=⟨_,rfl⟩;obtain⟨b3,hbe,hb,HL3,-⟩:=qcz [((vX,none,0):It),((vY,none,0):It)] HB hB0 hZ;go_wp2_with fail
 rw[←hZ,←hbe];clear hZ hbe
 replace HL1:=hbl hb HL1
 replace HL2:=hbl hb HL2
 replace HB:=hbt HB hb
 clear hb;refine(qam _ _ _ _ _).mono ?_;rintro e w9 ⟨rfl,hb⟩
 replace HL1:=hbl hb HL1
 replace HL2:=hbl hb HL2
 replace HL3:=hbl hb HL3
 replace HB:=hbt HB hb
 clear hb;obtain⟨z4,hZ⟩:∃Z,Z=w9.alloc (.cells #[.int .i64 3,.string ⟨#[112,97,105,114]⟩,.int .i64 0,.slice (some ⟨b3,0,none⟩) 2 2] 24):=⟨_,rfl⟩;obtain⟨b4,hbe,hb,HL4,-⟩:=qcz [(((Tm.mk 3 qbd 0 [vX,vY]),(some ⟨b3,0,none⟩),2):It)] HB hB0 hZ;go_wp2_with fail
 rw[←hZ,←hbe];clear hZ hbe
 replace HL1:=hbl hb HL1
 replace HL2:=hbl hb HL2
 replace HL3:=hbl hb HL3
 replace HB:=hbt HB hb
 clear hb;refine(qaj _ _ _ _ _ _ _ _ _ _ _).mono ?_;rintro e w10 ⟨rfl,hb⟩
 replace HL1:=hbl hb HL1
 replace HL2:=hbl hb HL2
 replace HL3:=hbl hb HL3
 replace HL4:=hbl hb HL4
 replace HB:=hbt HB hb
 clear hb;go_wp2_with fail
 refine(qaf _).mono ?_;rintro e w11 ⟨rfl,hb⟩
 replace HL1:=hbl hb HL1
 replace HL2:=hbl hb HL2
 replace HL3:=hbl hb HL3
 replace HL4:=hbl hb HL4
 replace HB:=hbt HB hb
 clear hb;go_wp2_with fail
 refine(qaf _).mono ?_;rintro e w12 ⟨rfl,hb⟩
 replace HL1:=hbl hb HL1
 replace HL2:=hbl hb HL2
 replace HL3:=hbl hb HL3
 replace HL4:=hbl hb HL4
 replace HB:=hbt HB hb
 clear hb;go_wp2_with fail
 refine(qah _).mono ?_;rintro e w13 ⟨rfl,hb⟩
 replace HL1:=hbl hb HL1
 replace HL2:=hbl hb HL2
 replace HL3:=hbl hb HL3
 replace HL4:=hbl hb HL4
 replace HB:=hbt HB hb
 clear hb;obtain⟨z5,hZ⟩:∃Z,Z=w13.alloc (.cells #[.int .i64 1,.string ⟨#[120]⟩,.int .i64 0,.slice none 0 0,.int .i64 1,.string ⟨#[121]⟩,.int .i64 0,.slice none 0 0] 24):=⟨_,rfl⟩;obtain⟨b5,hbe,hb,HL5,-⟩:=qcz [((vX,none,0):It),((vY,none,0):It)] HB hB0 hZ;go_wp2_with fail
 rw[←hZ,←hbe];clear hZ hbe
 replace HL1:=hbl hb HL1
 replace HL2:=hbl hb HL2
 replace HL3:=hbl hb HL3
 replace HL4:=hbl hb HL4
 replace HB:=hbt HB hb
 clear hb;refine(qam _ _ _ _ _).mono ?_;rintro e w14 ⟨rfl,hb⟩
 replace HL1:=hbl hb HL1
 replace HL2:=hbl hb HL2
 replace HL3:=hbl hb HL3
 replace HL4:=hbl hb HL4
 replace HL5:=hbl hb HL5
 replace HB:=hbt HB hb
 clear hb;go_wp2_with fail
 refine(qah _).mono ?_;rintro e w15 ⟨rfl,hb⟩
 replace HL1:=hbl hb HL1
 replace HL2:=hbl hb HL2
 replace HL3:=hbl hb HL3
 replace HL4:=hbl hb HL4
 replace HL5:=hbl hb HL5
 replace HB:=hbt HB hb
 clear hb;obtain⟨z6,hZ⟩:∃Z,Z=w15.alloc (.cells #[.int .i64 3,.string ⟨#[101,110,99]⟩,.int .i64 0,.slice (some ⟨b5,0,none⟩) 2 2,.int .i64 1,.string ⟨#[121]⟩,.int .i64 0,.slice none 0 0] 24):=⟨_,rfl⟩;obtain⟨b6,hbe,hb,HL6,-⟩:=qcz [(((Tm.mk 3 nEnc 0 [vX,vY]),(some ⟨b5,0,none⟩),2):It),((vY,none,0):It)] HB hB0 hZ;go_wp2_with fail
 rw[←hZ,←hbe];clear hZ hbe
 replace HL1:=hbl hb HL1
 replace HL2:=hbl hb HL2
 replace HL3:=hbl hb HL3
 replace HL4:=hbl hb HL4
 replace HL5:=hbl hb HL5
 replace HB:=hbt HB hb
 clear hb;refine(qaj _ _ _ _ _ _ _ _ _ _ _).mono ?_;rintro e w16 ⟨rfl,hb⟩
 replace HL1:=hbl hb HL1
 replace HL2:=hbl hb HL2
 replace HL3:=hbl hb HL3
 replace HL4:=hbl hb HL4
 replace HL5:=hbl hb HL5
 replace HL6:=hbl hb HL6
 replace HB:=hbt HB hb
 clear hb;go_wp2_with fail
 refine(qaf _).mono ?_;rintro e w17 ⟨rfl,hb⟩
 replace HL1:=hbl hb HL1
 replace HL2:=hbl hb HL2
 replace HL3:=hbl hb HL3
 replace HL4:=hbl hb HL4
 replace HL5:=hbl hb HL5
 replace HL6:=hbl hb HL6
 replace HB:=hbt HB hb
 clear hb;go_wp2_with fail
 refine(qaf _).mono ?_;rintro e w18 ⟨rfl,hb⟩
 replace HL1:=hbl hb HL1
 replace HL2:=hbl hb HL2
 replace HL3:=hbl hb HL3
 replace HL4:=hbl hb HL4
 replace HL5:=hbl hb HL5
 replace HL6:=hbl hb HL6
 replace HB:=hbt HB hb
 clear hb;go_wp2_with fail
 refine(qah _).mono ?_;rintro e w19 ⟨rfl,hb⟩
 replace HL1:=hbl hb HL1
 replace HL2:=hbl hb HL2
 replace HL3:=hbl hb HL3
 replace HL4:=hbl hb HL4
 replace HL5:=hbl hb HL5
 replace HL6:=hbl hb HL6
 replace HB:=hbt HB hb
 clear hb;obtain⟨z7,hZ⟩:∃Z,Z=w19.alloc (.cells #[.int .i64 1,.string ⟨#[121]⟩,.int .i64 0,.slice none 0 0] 24):=⟨_,rfl⟩;obtain⟨b7,hbe,hb,HL7,-⟩:=qcz [((vY,none,0):It)] HB hB0 hZ;go_wp2_with fail
 rw[←hZ,←hbe];clear hZ hbe
 replace HL1:=hbl hb HL1
 replace HL2:=hbl hb HL2
 replace HL3:=hbl hb HL3
 replace HL4:=hbl hb HL4
 replace HL5:=hbl hb HL5
 replace HL6:=hbl hb HL6
 replace HB:=hbt HB hb
 clear hb;refine(qam _ _ _ _ _).mono ?_;rintro e w20 ⟨rfl,hb⟩
 replace HL1:=hbl hb HL1
 replace HL2:=hbl hb HL2
 replace HL3:=hbl hb HL3
 replace HL4:=hbl hb HL4
 replace HL5:=hbl hb HL5
 replace HL6:=hbl hb HL6
 replace HL7:=hbl hb HL7
 replace HB:=hbt HB hb
 clear hb;obtain⟨z8,hZ⟩:∃Z,Z=w20.alloc (.cells #[.int .i64 1,.string ⟨#[120]⟩,.int .i64 0,.slice none 0 0,.int .i64 3,.string ⟨#[112,107]⟩,.int .i64 0,.slice (some ⟨b7,0,none⟩) 1 1] 24):=⟨_,rfl⟩;obtain⟨b8,hbe,hb,HL8,-⟩:=qcz [((vX,none,0):It),(((Tm.mk 3 nPk 0 [vY]),(some ⟨b7,0,none⟩),1):It)] HB hB0 hZ;go_wp2_with fail
 rw[←hZ,←hbe];clear hZ hbe
 replace HL1:=hbl hb HL1
 replace HL2:=hbl hb HL2
 replace HL3:=hbl hb HL3
 replace HL4:=hbl hb HL4
 replace HL5:=hbl hb HL5
 replace HL6:=hbl hb HL6
 replace HL7:=hbl hb HL7
 replace HB:=hbt HB hb
 clear hb;refine(qam _ _ _ _ _).mono ?_;rintro e w21 ⟨rfl,hb⟩
 replace HL1:=hbl hb HL1
 replace HL2:=hbl hb HL2
 replace HL3:=hbl hb HL3
 replace HL4:=hbl hb HL4
 replace HL5:=hbl hb HL5
 replace HL6:=hbl hb HL6
 replace HL7:=hbl hb HL7
 replace HL8:=hbl hb HL8
 replace HB:=hbt HB hb
 clear hb;go_wp2_with fail
 refine(qah _).mono ?_;rintro e w22 ⟨rfl,hb⟩
 replace HL1:=hbl hb HL1
 replace HL2:=hbl hb HL2
 replace HL3:=hbl hb HL3
 replace HL4:=hbl hb HL4
 replace HL5:=hbl hb HL5
 replace HL6:=hbl hb HL6
 replace HL7:=hbl hb HL7
 replace HL8:=hbl hb HL8
 replace HB:=hbt HB hb
 clear hb;obtain⟨z9,hZ⟩:∃Z,Z=w22.alloc (.cells #[.int .i64 3,.string ⟨#[97,101,110,99]⟩,.int .i64 0,.slice (some ⟨b8,0,none⟩) 2 2,.int .i64 1,.string ⟨#[121]⟩,.int .i64 0,.slice none 0 0] 24):=⟨_,rfl⟩;obtain⟨b9,hbe,hb,HL9,-⟩:=qcz [(((Tm.mk 3 qcf 0 [vX,(Tm.mk 3 nPk 0 [vY])]),(some ⟨b8,0,none⟩),2):It),((vY,none,0):It)] HB hB0 hZ;go_wp2_with fail
 rw[←hZ,←hbe];clear hZ hbe
 replace HL1:=hbl hb HL1
 replace HL2:=hbl hb HL2
 replace HL3:=hbl hb HL3
 replace HL4:=hbl hb HL4
 replace HL5:=hbl hb HL5
 replace HL6:=hbl hb HL6
 replace HL7:=hbl hb HL7
 replace HL8:=hbl hb HL8
 replace HB:=hbt HB hb
 clear hb;refine(qaj _ _ _ _ _ _ _ _ _ _ _).mono ?_;rintro e w23 ⟨rfl,hb⟩
 replace HL1:=hbl hb HL1
 replace HL2:=hbl hb HL2
 replace HL3:=hbl hb HL3
 replace HL4:=hbl hb HL4
 replace HL5:=hbl hb HL5
 replace HL6:=hbl hb HL6
 replace HL7:=hbl hb HL7
 replace HL8:=hbl hb HL8
 replace HL9:=hbl hb HL9
 replace HB:=hbt HB hb
 clear hb;go_wp2_with fail
 refine(qaf _).mono ?_;rintro e w24 ⟨rfl,hb⟩
 replace HL1:=hbl hb HL1
 replace HL2:=hbl hb HL2
 replace HL3:=hbl hb HL3
 replace HL4:=hbl hb HL4
 replace HL5:=hbl hb HL5
 replace HL6:=hbl hb HL6
 replace HL7:=hbl hb HL7
 replace HL8:=hbl hb HL8
 replace HL9:=hbl hb HL9
 replace HB:=hbt HB hb
 clear hb;go_wp2_with fail
 refine(qaf _).mono ?_;rintro e w25 ⟨rfl,hb⟩
 replace HL1:=hbl hb HL1
 replace HL2:=hbl hb HL2
 replace HL3:=hbl hb HL3
 replace HL4:=hbl hb HL4
 replace HL5:=hbl hb HL5
 replace HL6:=hbl hb HL6
 replace HL7:=hbl hb HL7
 replace HL8:=hbl hb HL8
 replace HL9:=hbl hb HL9
 replace HB:=hbt HB hb
 clear hb;go_wp2_with fail
 refine(qah _).mono ?_;rintro e w26 ⟨rfl,hb⟩
 replace HL1:=hbl hb HL1
 replace HL2:=hbl hb HL2
 replace HL3:=hbl hb HL3
 replace HL4:=hbl hb HL4
 replace HL5:=hbl hb HL5
 replace HL6:=hbl hb HL6
 replace HL7:=hbl hb HL7
 replace HL8:=hbl hb HL8
 replace HL9:=hbl hb HL9
 replace HB:=hbt HB hb
 clear hb;obtain⟨z10,hZ⟩:∃Z,Z=w26.alloc (.cells #[.int .i64 1,.string ⟨#[120]⟩,.int .i64 0,.slice none 0 0,.int .i64 1,.string ⟨#[121]⟩,.int .i64 0,.slice none 0 0] 24):=⟨_,rfl⟩;obtain⟨b10,hbe,hb,HL10,-⟩:=qcz [((vX,none,0):It),((vY,none,0):It)] HB hB0 hZ;go_wp2_with fail
 rw[←hZ,←hbe];clear hZ hbe
 replace HL1:=hbl hb HL1
 replace HL2:=hbl hb HL2
 replace HL3:=hbl hb HL3
 replace HL4:=hbl hb HL4
 replace HL5:=hbl hb HL5
 replace HL6:=hbl hb HL6
 replace HL7:=hbl hb HL7
 replace HL8:=hbl hb HL8
 replace HL9:=hbl hb HL9
 replace HB:=hbt HB hb
 clear hb;refine(qam _ _ _ _ _).mono ?_;rintro e w27 ⟨rfl,hb⟩
 replace HL1:=hbl hb HL1
 replace HL2:=hbl hb HL2
 replace HL3:=hbl hb HL3
 replace HL4:=hbl hb HL4
 replace HL5:=hbl hb HL5
 replace HL6:=hbl hb HL6
 replace HL7:=hbl hb HL7
 replace HL8:=hbl hb HL8
 replace HL9:=hbl hb HL9
 replace HL10:=hbl hb HL10
 replace HB:=hbt HB hb
 clear hb;go_wp2_with fail
 refine(qah _).mono ?_;rintro e w28 ⟨rfl,hb⟩
 replace HL1:=hbl hb HL1
 replace HL2:=hbl hb HL2
 replace HL3:=hbl hb HL3
 replace HL4:=hbl hb HL4
 replace HL5:=hbl hb HL5
 replace HL6:=hbl hb HL6
 replace HL7:=hbl hb HL7
 replace HL8:=hbl hb HL8
 replace HL9:=hbl hb HL9
 replace HL10:=hbl hb HL10
 replace HB:=hbt HB hb
 clear hb;obtain⟨z11,hZ⟩:∃Z,Z=w28.alloc (.cells #[.int .i64 1,.string ⟨#[121]⟩,.int .i64 0,.slice none 0 0] 24):=⟨_,rfl⟩;obtain⟨b11,hbe,hb,HL11,-⟩:=qcz [((vY,none,0):It)] HB hB0 hZ;go_wp2_with fail
 rw[←hZ,←hbe];clear hZ hbe
 replace HL1:=hbl hb HL1
 replace HL2:=hbl hb HL2
 replace HL3:=hbl hb HL3
 replace HL4:=hbl hb HL4
 replace HL5:=hbl hb HL5
 replace HL6:=hbl hb HL6
 replace HL7:=hbl hb HL7
 replace HL8:=hbl hb HL8
 replace HL9:=hbl hb HL9
 replace HL10:=hbl hb HL10
 replace HB:=hbt HB hb
 clear hb;refine(qam _ _ _ _ _).mono ?_;rintro e w29 ⟨rfl,hb⟩
 replace HL1:=hbl hb HL1
 replace HL2:=hbl hb HL2
 replace HL3:=hbl hb HL3
 replace HL4:=hbl hb HL4
 replace HL5:=hbl hb HL5
 replace HL6:=hbl hb HL6
 replace HL7:=hbl hb HL7
 replace HL8:=hbl hb HL8
 replace HL9:=hbl hb HL9
 replace HL10:=hbl hb HL10
 replace HL11:=hbl hb HL11
 replace HB:=hbt HB hb
 clear hb;obtain⟨z12,hZ⟩:∃Z,Z=w29.alloc (.cells #[.int .i64 3,.string ⟨#[115,105,103,110]⟩,.int .i64 0,.slice (some ⟨b10,0,none⟩) 2 2,.int .i64 3,.string ⟨#[112,107]⟩,.int .i64 0,.slice (some ⟨b11,0,none⟩) 1 1] 24):=⟨_,rfl⟩;obtain⟨b12,hbe,hb,HL12,-⟩:=qcz [(((Tm.mk 3 qa7 0 [vX,vY]),(some ⟨b10,0,none⟩),2):It),(((Tm.mk 3 nPk 0 [vY]),(some ⟨b11,0,none⟩),1):It)] HB hB0 hZ;go_wp2_with fail
 rw[←hZ,←hbe];clear hZ hbe
 replace HL1:=hbl hb HL1
 replace HL2:=hbl hb HL2
 replace HL3:=hbl hb HL3
 replace HL4:=hbl hb HL4
 replace HL5:=hbl hb HL5
 replace HL6:=hbl hb HL6
 replace HL7:=hbl hb HL7
 replace HL8:=hbl hb HL8
 replace HL9:=hbl hb HL9
 replace HL10:=hbl hb HL10
 replace HL11:=hbl hb HL11
 replace HB:=hbt HB hb
 clear hb;refine(qaj _ _ _ _ _ _ _ _ _ _ _).mono ?_;rintro e w30 ⟨rfl,hb⟩
 replace HL1:=hbl hb HL1
 replace HL2:=hbl hb HL2
 replace HL3:=hbl hb HL3
 replace HL4:=hbl hb HL4
 replace HL5:=hbl hb HL5
 replace HL6:=hbl hb HL6
 replace HL7:=hbl hb HL7
 replace HL8:=hbl hb HL8
 replace HL9:=hbl hb HL9
 replace HL10:=hbl hb HL10
 replace HL11:=hbl hb HL11
 replace HL12:=hbl hb HL12
 replace HB:=hbt HB hb
 clear hb;go_wp2_with fail
 refine(qaf _).mono ?_;rintro e w31 ⟨rfl,hb⟩
 replace HL1:=hbl hb HL1
 replace HL2:=hbl hb HL2
 replace HL3:=hbl hb HL3
 replace HL4:=hbl hb HL4
 replace HL5:=hbl hb HL5
 replace HL6:=hbl hb HL6
 replace HL7:=hbl hb HL7
 replace HL8:=hbl hb HL8
 replace HL9:=hbl hb HL9
 replace HL10:=hbl hb HL10
 replace HL11:=hbl hb HL11
 replace HL12:=hbl hb HL12
 replace HB:=hbt HB hb
 clear hb;go_wp2_with fail
 refine(qaf _).mono ?_;rintro e w32 ⟨rfl,hb⟩
 replace HL1:=hbl hb HL1
 replace HL2:=hbl hb HL2
 replace HL3:=hbl hb HL3
 replace HL4:=hbl hb HL4
 replace HL5:=hbl hb HL5
 replace HL6:=hbl hb HL6
 replace HL7:=hbl hb HL7
 replace HL8:=hbl hb HL8
 replace HL9:=hbl hb HL9
 replace HL10:=hbl hb HL10
 replace HL11:=hbl hb HL11
 replace HL12:=hbl hb HL12
 replace HB:=hbt HB hb
 clear hb;go_wp2_with fail
 refine(qah _).mono ?_;rintro e w33 ⟨rfl,hb⟩
 replace HL1:=hbl hb HL1
 replace HL2:=hbl hb HL2
 replace HL3:=hbl hb HL3
 replace HL4:=hbl hb HL4
 replace HL5:=hbl hb HL5
 replace HL6:=hbl hb HL6
 replace HL7:=hbl hb HL7
 replace HL8:=hbl hb HL8
 replace HL9:=hbl hb HL9
 replace HL10:=hbl hb HL10
 replace HL11:=hbl hb HL11
 replace HL12:=hbl hb HL12
 replace HB:=hbt HB hb
 clear hb;obtain⟨z13,hZ⟩:∃Z,Z=w33.alloc (.cells #[.int .i64 1,.string ⟨#[120]⟩,.int .i64 0,.slice none 0 0,.int .i64 1,.string ⟨#[121]⟩,.int .i64 0,.slice none 0 0] 24):=⟨_,rfl⟩;obtain⟨b13,hbe,hb,HL13,-⟩:=qcz [((vX,none,0):It),((vY,none,0):It)] HB hB0 hZ;go_wp2_with fail
 rw[←hZ,←hbe];clear hZ hbe
 replace HL1:=hbl hb HL1
 replace HL2:=hbl hb HL2
 replace HL3:=hbl hb HL3
 replace HL4:=hbl hb HL4
 replace HL5:=hbl hb HL5
 replace HL6:=hbl hb HL6
 replace HL7:=hbl hb HL7
 replace HL8:=hbl hb HL8
 replace HL9:=hbl hb HL9
 replace HL10:=hbl hb HL10
 replace HL11:=hbl hb HL11
 replace HL12:=hbl hb HL12
 replace HB:=hbt HB hb
 clear hb;refine(qam _ _ _ _ _).mono ?_;rintro e w34 ⟨rfl,hb⟩
 replace HL1:=hbl hb HL1
 replace HL2:=hbl hb HL2
 replace HL3:=hbl hb HL3
 replace HL4:=hbl hb HL4
 replace HL5:=hbl hb HL5
 replace HL6:=hbl hb HL6
 replace HL7:=hbl hb HL7
 replace HL8:=hbl hb HL8
 replace HL9:=hbl hb HL9
 replace HL10:=hbl hb HL10
 replace HL11:=hbl hb HL11
 replace HL12:=hbl hb HL12
 replace HL13:=hbl hb HL13
 replace HB:=hbt HB hb
 clear hb;obtain⟨z14,hZ⟩:∃Z,Z=w34.alloc (.cells #[.int .i64 3,.string ⟨#[115,105,103,110]⟩,.int .i64 0,.slice (some ⟨b13,0,none⟩) 2 2] 24):=⟨_,rfl⟩;obtain⟨b14,hbe,hb,HL14,-⟩:=qcz [(((Tm.mk 3 qa7 0 [vX,vY]),(some ⟨b13,0,none⟩),2):It)] HB hB0 hZ;go_wp2_with fail
 rw[←hZ,←hbe];clear hZ hbe
 replace HL1:=hbl hb HL1
 replace HL2:=hbl hb HL2
 replace HL3:=hbl hb HL3
 replace HL4:=hbl hb HL4
 replace HL5:=hbl hb HL5
 replace HL6:=hbl hb HL6
 replace HL7:=hbl hb HL7
 replace HL8:=hbl hb HL8
 replace HL9:=hbl hb HL9
 replace HL10:=hbl hb HL10
 replace HL11:=hbl hb HL11
 replace HL12:=hbl hb HL12
 replace HL13:=hbl hb HL13
 replace HB:=hbt HB hb
 clear hb;refine(qaj _ _ _ _ _ _ _ _ _ _ _).mono ?_;rintro e w35 ⟨rfl,hb⟩
 replace HL1:=hbl hb HL1
 replace HL2:=hbl hb HL2
 replace HL3:=hbl hb HL3
 replace HL4:=hbl hb HL4
 replace HL5:=hbl hb HL5
 replace HL6:=hbl hb HL6
 replace HL7:=hbl hb HL7
 replace HL8:=hbl hb HL8
 replace HL9:=hbl hb HL9
 replace HL10:=hbl hb HL10
 replace HL11:=hbl hb HL11
 replace HL12:=hbl hb HL12
 replace HL13:=hbl hb HL13
 replace HL14:=hbl hb HL14
 replace HB:=hbt HB hb
 clear hb
 obtain⟨Z,hZ⟩:∃Z,Z=w35.alloc (.cells #[.int .i64 3,.string ⟨#[102,115,116]⟩,.int .i64 0,.slice (some ⟨b2,0,none⟩) 1 1,.int .i64 1,.string ⟨#[120]⟩,.int .i64 0,.slice none 0 0,.int .i64 3,.string ⟨#[115,110,100]⟩,.int .i64 0,.slice (some ⟨b4,0,none⟩) 1 1,.int .i64 1,.string ⟨#[121]⟩,.int .i64 0,.slice none 0 0,.int .i64 3,.string ⟨#[100,101,99]⟩,.int .i64 0,.slice (some ⟨b6,0,none⟩) 2 2,.int .i64 1,.string ⟨#[120]⟩,.int .i64 0,.slice none 0 0,.int .i64 3,.string ⟨#[97,100,101,99]⟩,.int .i64 0,.slice (some ⟨b9,0,none⟩) 2 2,.int .i64 1,.string ⟨#[120]⟩,.int .i64 0,.slice none 0 0,.int .i64 3,.string ⟨#[111,112,101,110]⟩,.int .i64 0,.slice (some ⟨b12,0,none⟩) 2 2,.int .i64 1,.string ⟨#[120]⟩,.int .i64 0,.slice none 0 0,.int .i64 3,.string ⟨#[114,101,97,100]⟩,.int .i64 0,.slice (some ⟨b14,0,none⟩) 1 1,.int .i64 1,.string ⟨#[120]⟩,.int .i64 0,.slice none 0 0] 98):=⟨_,rfl⟩
 have hb:Below w35.heap.size w35 Z:=by rw[hZ];exact qab (Nat.le_refl _) _
 have hbz:Z.heap[w35.heap.size]?=some (.cells (itCells [(((Tm.mk 3 nFst 0 [(Tm.mk 3 qbd 0 [vX,vY])]),(some ⟨b2,0,none⟩),1):It),((vX,none,0):It),(((Tm.mk 3 nSnd 0 [(Tm.mk 3 qbd 0 [vX,vY])]),(some ⟨b4,0,none⟩),1):It),((vY,none,0):It),(((Tm.mk 3 nDec 0 [(Tm.mk 3 nEnc 0 [vX,vY]),vY]),(some ⟨b6,0,none⟩),2):It),((vX,none,0):It),(((Tm.mk 3 qbi 0 [(Tm.mk 3 qcf 0 [vX,(Tm.mk 3 nPk 0 [vY])]),vY]),(some ⟨b9,0,none⟩),2):It),((vX,none,0):It),(((Tm.mk 3 qbh 0 [(Tm.mk 3 qa7 0 [vX,vY]),(Tm.mk 3 nPk 0 [vY])]),(some ⟨b12,0,none⟩),2):It),((vX,none,0):It),(((Tm.mk 3 qb4 0 [(Tm.mk 3 qa7 0 [vX,vY])]),(some ⟨b14,0,none⟩),1):It),((vX,none,0):It)]).toArray 98 (0,0)):=by rw[hZ];exact heap_alloc_new _ _
 replace HL1:=hbl hb HL1
 replace HL2:=hbl hb HL2
 replace HL3:=hbl hb HL3
 replace HL4:=hbl hb HL4
 replace HL5:=hbl hb HL5
 replace HL6:=hbl hb HL6
 replace HL7:=hbl hb HL7
 replace HL8:=hbl hb HL8
 replace HL9:=hbl hb HL9
 replace HL10:=hbl hb HL10
 replace HL11:=hbl hb HL11
 replace HL12:=hbl hb HL12
 replace HL13:=hbl hb HL13
 replace HL14:=hbl hb HL14
 go_wp2_with fail
 rw[←hZ];go_ret
 have hbD:=HB.out;rw[HD.out]at hbD;have lt:∀{b:Nat} {c:Obj},Hid (Z.heap[b]?=some c)→b<Z.heap.size:=fun h=>(sltz h.out);have r1:RepP Z (fun b=>b<Z.heap.size) (Tm.mk 3 qbd 0 [vX,vY]) (some ⟨b1,0,none⟩) 2:=qcv (P:=fun b=>b<Z.heap.size) qbd [((vX,none,0):It),((vY,none,0):It)] (by decide) (by simp) HL1 (lt HL1) (by
  intro y hy;simp only[List.mem_cons,List.not_mem_nil,or_false]at hy;rcases hy with rfl|rfl
  ·exact(rep_var (.inl rfl))
  ·exact(rep_var (.inr rfl)))
 have r2:RepP Z (fun b=>b<Z.heap.size) (Tm.mk 3 nFst 0 [(Tm.mk 3 qbd 0 [vX,vY])]) (some ⟨b2,0,none⟩) 1:=qcv (P:=fun b=>b<Z.heap.size) nFst [(((Tm.mk 3 qbd 0 [vX,vY]),(some ⟨b1,0,none⟩),2):It)] (by decide) (by simp) HL2 (lt HL2) (by
  intro y hy;simp only[List.mem_cons,List.not_mem_nil,or_false]at hy;subst hy;exact r1)
 have r3:RepP Z (fun b=>b<Z.heap.size) (Tm.mk 3 qbd 0 [vX,vY]) (some ⟨b3,0,none⟩) 2:=qcv (P:=fun b=>b<Z.heap.size) qbd [((vX,none,0):It),((vY,none,0):It)] (by decide) (by simp) HL3 (lt HL3) (by
  intro y hy;simp only[List.mem_cons,List.not_mem_nil,or_false]at hy;rcases hy with rfl|rfl
  ·exact(rep_var (.inl rfl))
  ·exact(rep_var (.inr rfl)))
 have r4:RepP Z (fun b=>b<Z.heap.size) (Tm.mk 3 nSnd 0 [(Tm.mk 3 qbd 0 [vX,vY])]) (some ⟨b4,0,none⟩) 1:=qcv (P:=fun b=>b<Z.heap.size) nSnd [(((Tm.mk 3 qbd 0 [vX,vY]),(some ⟨b3,0,none⟩),2):It)] (by decide) (by simp) HL4 (lt HL4) (by
  intro y hy;simp only[List.mem_cons,List.not_mem_nil,or_false]at hy;subst hy;exact r3)
 have r5:RepP Z (fun b=>b<Z.heap.size) (Tm.mk 3 nEnc 0 [vX,vY]) (some ⟨b5,0,none⟩) 2:=qcv (P:=fun b=>b<Z.heap.size) nEnc [((vX,none,0):It),((vY,none,0):It)] (by decide) (by simp) HL5 (lt HL5) (by
  intro y hy;simp only[List.mem_cons,List.not_mem_nil,or_false]at hy;rcases hy with rfl|rfl
  ·exact(rep_var (.inl rfl))
  ·exact(rep_var (.inr rfl)))
 have r6:RepP Z (fun b=>b<Z.heap.size) (Tm.mk 3 nDec 0 [(Tm.mk 3 nEnc 0 [vX,vY]),vY]) (some ⟨b6,0,none⟩) 2:=qcv (P:=fun b=>b<Z.heap.size) nDec [(((Tm.mk 3 nEnc 0 [vX,vY]),(some ⟨b5,0,none⟩),2):It),((vY,none,0):It)] (by decide) (by simp) HL6 (lt HL6) (by
  intro y hy;simp only[List.mem_cons,List.not_mem_nil,or_false]at hy;rcases hy with rfl|rfl
  ·exact r5
  ·exact(rep_var (.inr rfl)))
 have r7:RepP Z (fun b=>b<Z.heap.size) (Tm.mk 3 nPk 0 [vY]) (some ⟨b7,0,none⟩) 1:=qcv (P:=fun b=>b<Z.heap.size) nPk [((vY,none,0):It)] (by decide) (by simp) HL7 (lt HL7) (by
  intro y hy;simp only[List.mem_cons,List.not_mem_nil,or_false]at hy;subst hy;exact(rep_var (.inr rfl)))
 have r8:RepP Z (fun b=>b<Z.heap.size) (Tm.mk 3 qcf 0 [vX,(Tm.mk 3 nPk 0 [vY])]) (some ⟨b8,0,none⟩) 2:=qcv (P:=fun b=>b<Z.heap.size) qcf [((vX,none,0):It),(((Tm.mk 3 nPk 0 [vY]),(some ⟨b7,0,none⟩),1):It)] (by decide) (by simp) HL8 (lt HL8) (by
  intro y hy;simp only[List.mem_cons,List.not_mem_nil,or_false]at hy;rcases hy with rfl|rfl
  ·exact(rep_var (.inl rfl))
  ·exact r7)
 have r9:RepP Z (fun b=>b<Z.heap.size) (Tm.mk 3 qbi 0 [(Tm.mk 3 qcf 0 [vX,(Tm.mk 3 nPk 0 [vY])]),vY]) (some ⟨b9,0,none⟩) 2:=qcv (P:=fun b=>b<Z.heap.size) qbi [(((Tm.mk 3 qcf 0 [vX,(Tm.mk 3 nPk 0 [vY])]),(some ⟨b8,0,none⟩),2):It),((vY,none,0):It)] (by decide) (by simp) HL9 (lt HL9) (by
  intro y hy;simp only[List.mem_cons,List.not_mem_nil,or_false]at hy;rcases hy with rfl|rfl
  ·exact r8
  ·exact(rep_var (.inr rfl)))
 have r10:RepP Z (fun b=>b<Z.heap.size) (Tm.mk 3 qa7 0 [vX,vY]) (some ⟨b10,0,none⟩) 2:=qcv (P:=fun b=>b<Z.heap.size) qa7 [((vX,none,0):It),((vY,none,0):It)] (by decide) (by simp) HL10 (lt HL10) (by
  intro y hy;simp only[List.mem_cons,List.not_mem_nil,or_false]at hy;rcases hy with rfl|rfl
  ·exact(rep_var (.inl rfl))
  ·exact(rep_var (.inr rfl)))
 have r11:RepP Z (fun b=>b<Z.heap.size) (Tm.mk 3 nPk 0 [vY]) (some ⟨b11,0,none⟩) 1:=qcv (P:=fun b=>b<Z.heap.size) nPk [((vY,none,0):It)] (by decide) (by simp) HL11 (lt HL11) (by
  intro y hy;simp only[List.mem_cons,List.not_mem_nil,or_false]at hy;subst hy;exact(rep_var (.inr rfl)))
 have r12:RepP Z (fun b=>b<Z.heap.size) (Tm.mk 3 qbh 0 [(Tm.mk 3 qa7 0 [vX,vY]),(Tm.mk 3 nPk 0 [vY])]) (some ⟨b12,0,none⟩) 2:=qcv (P:=fun b=>b<Z.heap.size) qbh [(((Tm.mk 3 qa7 0 [vX,vY]),(some ⟨b10,0,none⟩),2):It),(((Tm.mk 3 nPk 0 [vY]),(some ⟨b11,0,none⟩),1):It)] (by decide) (by simp) HL12 (lt HL12) (by
  intro y hy;simp only[List.mem_cons,List.not_mem_nil,or_false]at hy;rcases hy with rfl|rfl
  ·exact r10
  ·exact r11)
 have r13:RepP Z (fun b=>b<Z.heap.size) (Tm.mk 3 qa7 0 [vX,vY]) (some ⟨b13,0,none⟩) 2:=qcv (P:=fun b=>b<Z.heap.size) qa7 [((vX,none,0):It),((vY,none,0):It)] (by decide) (by simp) HL13 (lt HL13) (by
  intro y hy;simp only[List.mem_cons,List.not_mem_nil,or_false]at hy;rcases hy with rfl|rfl
  ·exact(rep_var (.inl rfl))
  ·exact(rep_var (.inr rfl)))
 have r14:RepP Z (fun b=>b<Z.heap.size) (Tm.mk 3 qb4 0 [(Tm.mk 3 qa7 0 [vX,vY])]) (some ⟨b14,0,none⟩) 1:=qcv (P:=fun b=>b<Z.heap.size) qb4 [(((Tm.mk 3 qa7 0 [vX,vY]),(some ⟨b13,0,none⟩),2):It)] (by decide) (by simp) HL14 (lt HL14) (by
  intro y hy;simp only[List.mem_cons,List.not_mem_nil,or_false]at hy;subst hy;exact r13)
 refine⟨_,_,rfl,⟨Nat.le_refl _,by unfold maxLen;decide,.inr ⟨w35.heap.size,0,rfl,(sltz hbz),?_⟩⟩,hbD.trans (hb.mono hbD.size)⟩;refine RepLP.of_its [(((Tm.mk 3 nFst 0 [(Tm.mk 3 qbd 0 [vX,vY])]),(some ⟨b2,0,none⟩),1):It),((vX,none,0):It),(((Tm.mk 3 nSnd 0 [(Tm.mk 3 qbd 0 [vX,vY])]),(some ⟨b4,0,none⟩),1):It),((vY,none,0):It),(((Tm.mk 3 nDec 0 [(Tm.mk 3 nEnc 0 [vX,vY]),vY]),(some ⟨b6,0,none⟩),2):It),((vX,none,0):It),(((Tm.mk 3 qbi 0 [(Tm.mk 3 qcf 0 [vX,(Tm.mk 3 nPk 0 [vY])]),vY]),(some ⟨b9,0,none⟩),2):It),((vX,none,0):It),(((Tm.mk 3 qbh 0 [(Tm.mk 3 qa7 0 [vX,vY]),(Tm.mk 3 nPk 0 [vY])]),(some ⟨b12,0,none⟩),2):It),((vX,none,0):It),(((Tm.mk 3 qb4 0 [(Tm.mk 3 qa7 0 [vX,vY])]),(some ⟨b14,0,none⟩),1):It),((vX,none,0):It)] _ 0 (fun j u hj=>?_) (fun y hy=>?_)
 ·rw[Nat.zero_add];unfold World.cell?;rw[hbz];simpa using hj
 ·simp only[List.mem_cons,List.not_mem_nil,or_false]at hy;rcases hy with rfl|rfl|rfl|rfl|rfl|rfl|rfl|rfl|rfl|rfl|rfl|rfl
  ·exact r2
  ·exact(rep_var (.inl rfl))
  ·exact r4
  ·exact(rep_var (.inr rfl))
  ·exact r6
  ·exact(rep_var (.inl rfl))
  ·exact r9
  ·exact(rep_var (.inl rfl))
  ·exact r12
  ·exact(rep_var (.inl rfl))
  ·exact r14
  ·exact(rep_var (.inl rfl))
def kdS:Option Sy→Int
 | some s=>s.kd
 | none=>0
def kdOf (n:ByteArray):Int:=kdS (qft n)
theorem qhe (w:World):Calls Tryz.prog 114 #[] w fun e w'=>∃b,e=.returned (.slice (some ⟨b,0,none⟩) 21 21)∧b<w'.heap.size∧(∀j u,(qbs tabS)[j]?=some u→w'.cell? ⟨b,j,none⟩=some u)∧Below w.heap.size w w':=by
 go_enter Tryz.func114,Tryz.ntmps114
 go_wp2_with fail
 go_ret
 refine⟨w.heap.size,rfl,by simp,fun j u hj=>?_,qab (Nat.le_refl _) _⟩;have h:(qbs tabS).toArray[j]?=some u:=by simpa using hj
 have e:∀(o:Obj),o=.cells (qbs tabS).toArray 140→(w.alloc o).cell? ⟨w.heap.size,j,none⟩=some u:=by
  rintro o rfl;rw[World.cell?_alloc_at _ _ _ _ rfl];exact h
 exact e _ rfl
theorem sym_row {b k:Nat} {w wr:World} (hb:b<w.heap.size) (hc:∀j u,(qbs tabS)[j]?=some u→w.cell? ⟨b,j,none⟩=some u) (hB:Below w.heap.size w wr) (hk:k<tabS.length) :
  wr.cell? ⟨b,k*4,none⟩=some (.string tabS[k].nm)∧wr.cell? ⟨b,k*4+1,none⟩=some (.int .i64 tabS[k].lo)∧wr.cell? ⟨b,k*4+2,none⟩=some (.int .i64 tabS[k].hi)∧wr.cell? ⟨b,k*4+3,none⟩=some (.int .i64 tabS[k].kd):=by
 obtain⟨g0,g1,g2,g3⟩:=qhd tabS k hk;have hcell:∀o,wr.cell? ⟨b,o,none⟩=w.cell? ⟨b,o,none⟩:=fun o=>hB.cell (by exact hb);exact⟨(hcell _).trans (hc _ _ g0),(hcell _).trans (hc _ _ g1),(hcell _).trans (hc _ _ g2),(hcell _).trans (hc _ _ g3)⟩
theorem qmj {k:Nat} {n:ByteArray} {r:Option Sy} (hk:k<tabS.length) (h:(tabS.drop k).find? (fun s=>decide (s.nm=n))=r) :
  ((tabS[k].nm.toList==n.toList)=true→some tabS[k]=r)∧((tabS[k].nm.toList==n.toList)=false→(tabS.drop (k+1)).find? (fun s=>decide (s.nm=n))=r):=by
 rw[List.drop_eq_getElem_cons hk,List.find?_cons,qhl]at h;refine⟨fun e=>?_,fun e=>?_⟩<;>rw[e]at h<;>exact h
theorem qpy (n:ByteArray) (w:World):Calls Tryz.prog 73 #[.string n] w fun e w'=>e=.returned (.int .i64 (kdOf n))∧Below w.heap.size w w':=by
 have SY:=hdzz (qhe w);obtain⟨r,hr⟩:∃r,r=qft n:=⟨_,rfl⟩;unfold kdOf;rw[←hr];obtain⟨q,hq⟩:∃q:Int,q=kdS r:=⟨_,rfl⟩;rw[←hq];have HQ:=hdzz hq;clear hq;have HR:=hdzz hr;clear hr;go_enter Tryz.func73,Tryz.ntmps73
 go_wp2_with fail
 refine SY.out.mono ?_;clear SY;rintro e w1 ⟨b,rfl,hb,hcl,hb1⟩;have HCL:=hdzz hcl;have B1:=hdzz hb1;have hs1:=hb1.size;clear hcl hb1;go_wp2_with fail
 go_loopw [4] (fun i wr=>∃k:Nat,k≤21∧i=.int .i64 k∧Hid (Below w1.heap.size w1 wr)∧Hid ((tabS.drop k).find? (fun s=>decide (s.nm=n))=r)) (fun i _=>21 - (intOf i).toNat)
 case atStart=>exact⟨0,Nat.zero_le _,rfl,Below.refl _ _,HR.out.symm⟩
 case round=>
  obtain⟨k,hk,rfl,HB,HF⟩:=hrel;have i1:(0:Int)≤(k:Int):=Int.natCast_nonneg _;have BR:=hdzz (B1.out.trans (HB.out.mono (by omega)));by_cases hlt:k<21
  ·have i2:(k:Int)<21:=by omega
   have hlen:k<tabS.length:=hlt;obtain⟨h0,h1,h2,h3⟩:=sym_row hb HCL.out HB.out hlen;have hf:=qmj hlen HF.out;obtain⟨s,hs⟩:∃s,s=tabS[k]:=⟨_,rfl⟩;rw[←hs]at h0 h1 h2 h3 hf;clear hs;have HFN:=hdzz hf;clear hf;generalize hq:(s.nm.toList==n.toList)=q at HFN
   cases q with
   | true=>
    have hf:some s=r:=HFN.out.1 rfl;subst hf;have hq:=HQ.out;simp only[kdS]at hq;subst hq;go_wp2_with fail
    go_ret
    exact⟨rfl,BR.out⟩
   | false=>
    have HF2:=hdzz (HFN.out.2 rfl);go_wp2_with fail
    go_roundw
    case rel=>exact⟨k+1,by omega,by go_num,HB.out,HF2⟩
    case measure=>simp[intOf];omega
  ·obtain rfl:k=21:=by omega
   have hf:none=r:=HF.out;subst hf;have hq:=HQ.out;simp only[kdS]at hq;subst hq;go_wp2_with fail
   go_ret
   exact⟨rfl,BR.out⟩
def fitsS:Option Sy→Nat→Bool
 | some s,m=>decide (s.lo≤(m:Int)) && decide ((m:Int)≤s.hi)
 | none,_=>false
def qmi (n:ByteArray) (m:Nat):Bool:=fitsS (qft n) m
theorem qpz (t:Tm) (A:Option Addr) (cap:Nat) (w:World) (hl:t.kids.length≤1000000):Calls Tryz.prog 79 #[t.val A cap] w fun e w'=>e=.returned (.bool (qmi t.name t.kids.length))∧Below w.heap.size w w':=by
 have mixed:=mixz;obtain⟨V,hV⟩:∃V,V=w.alloc (qal t A cap):=⟨_,rfl⟩;have hbV:Below w.heap.size w V:=by rw[hV];exact qab (Nat.le_refl _) _
 have hsV:V.heap.size=w.heap.size+1:=by rw[hV];simp
 have hbx:V.heap[w.heap.size]?=some (qal t A cap):=by rw[hV];exact heap_alloc_new _ _
 have SY:=hdzz (qhe V);obtain⟨n,hn⟩:∃n,n=t.name:=⟨_,rfl⟩;obtain⟨m,hm⟩:∃m,m=t.kids.length:=⟨_,rfl⟩;unfold qmi;simp only[qal]at hV hbx;simp only[Tm.val];rw[←hn,←hm]at hV hbx;rw[←hm]at hl;rw[←hn,←hm];clear hn hm;obtain⟨r,hr⟩:∃r,r=qft n:=⟨_,rfl⟩;rw[←hr];obtain⟨q,hq⟩:∃q:Bool,q=fitsS r m:=⟨_,rfl⟩;rw[←hq];have HQ:=hdzz hq;clear hq;have HR:=hdzz hr;clear hr;have HBX:=hdzz hbx;have HV:=hdzz hV;clear hV hbx;have HBV:=hdzz hbV;clear hbV;have hl1:(m:Int)≤9223372036854775807:=by omega
 go_enter Tryz.func79,Tryz.ntmps79
 go_wp2_with fail
 rw[←HV.out];clear HV;go_wp2_with fail
 refine SY.out.mono ?_;clear SY;rintro e w1 ⟨b,rfl,hb,hcl,hb1⟩;have HCL:=hdzz hcl;have hs1:=hb1.size;have B1:=hdzz (HBV.out.trans (hb1.mono (by omega)));have HX1:=hdzz ((hb1.block _ (by omega)).trans HBX.out);clear hcl hb1 HBX HBV;go_wp2_with fail
 go_loopw [4] (fun i wr=>∃k:Nat,k≤21∧i=.int .i64 k∧Hid (Below w1.heap.size w1 wr)∧Hid ((tabS.drop k).find? (fun s=>decide (s.nm=n))=r)) (fun i _=>21 - (intOf i).toNat)
 case atStart=>exact⟨0,Nat.zero_le _,rfl,Below.refl _ _,HR.out.symm⟩
 case round=>
  obtain⟨k,hk,rfl,HB,HF⟩:=hrel;have i1:(0:Int)≤(k:Int):=Int.natCast_nonneg _;have BR:=hdzz (B1.out.trans (HB.out.mono (by omega)));obtain⟨x0,x1,x2,x3,xf⟩:=qaa ((HB.out.block _ (by omega)).trans HX1.out);by_cases hlt:k<21
  ·have i2:(k:Int)<21:=by omega
   have hlen:k<tabS.length:=hlt;obtain⟨h0,h1,h2,h3⟩:=sym_row hb HCL.out HB.out hlen;have hf:=qmj hlen HF.out;obtain⟨s,hs⟩:∃s,s=tabS[k]:=⟨_,rfl⟩;rw[←hs]at h0 h1 h2 h3 hf;clear hs;have HFN:=hdzz hf;clear hf;generalize hq:(s.nm.toList==n.toList)=q at HFN
   cases q with
   | true=>
    have hf:some s=r:=HFN.out.1 rfl;subst hf;have hq:=HQ.out;simp only[fitsS]at hq;clear HQ HFN;go_wp2_with fail
    go_quiet (fail)
    go_wp2_with fail
    have y0:(wr.drewN nq).cell? ⟨b,k*4,none⟩=_:=h0;have y1:(wr.drewN nq).cell? ⟨b,k*4+1,none⟩=_:=h1;have y2:(wr.drewN nq).cell? ⟨b,k*4+2,none⟩=_:=h2;have y3:(wr.drewN nq).cell? ⟨w.heap.size,3,none⟩=_:=x3;have HBQ:Hid (Below w.heap.size w (wr.drewN nq)):=BR.out.trans ((Lay.refl _ _).drewN nq).below;clear h0 h1 h2 h3 x0 x1 x2 x3 xf;generalize wr.drewN nq=Z at *;by_cases hlo:s.lo≤(m:Int)
    ·have d1:decide (s.lo≤(m:Int))=true:=decide_eq_true hlo;rw[d1,Bool.true_and]at hq;subst hq;go_quiet (fail)
     go_wp2_with fail
     go_ret
     exact⟨rfl,HBQ.out.trans ((Lay.refl _ _).drewN _).below⟩
    ·have d1:decide (s.lo≤(m:Int))=false:=decide_eq_false hlo;rw[d1,Bool.false_and]at hq;subst hq;go_quiet (fail)
     go_wp2_with fail
     go_ret
     exact⟨rfl,HBQ.out.trans ((Lay.refl _ _).drewN _).below⟩
   | false=>
    have HF2:=hdzz (HFN.out.2 rfl);go_wp2_with fail
    go_quiet (fail)
    go_wp2_with fail
    go_roundw
    case rel=>exact⟨k+1,by omega,by go_num,HB.out.trans ((Lay.refl _ _).drewN nq).below,HF2⟩
    case measure=>simp[intOf];omega
  ·obtain rfl:k=21:=by omega
   have hf:none=r:=HF.out;subst hf;have hq:=HQ.out;simp only[fitsS]at hq;subst hq;go_wp2_with fail
   go_ret
   exact⟨rfl,BR.out⟩
def agB (n:ByteArray) (l:List Tm):Bool:=if n=nNew then decide ((kidT l 0).kind=2)else !(l.any noAg)
theorem tabS_two:∀s∈tabS,(s.kd=2↔(s.nm=nSk∨s.nm=nShk∨s.nm=nNew)):=by decide
theorem thN_ref (n:ByteArray) (l:List Tm):thN n l=if kdOf n=0 then 10 else if qmi n l.length=false then 6 else if kdOf n=2∧agB n l=false then 10 else 0:=by
 unfold thN kdOf qmi
 cases hs:qft n with
 | none=>rfl
 | some s=>
  obtain⟨hm,hn⟩:=qlj hs;have h2:=tabS_two s hm;rw[hn]at h2;have h0:kdS (some s)≠0:=tabS_kd s hm;rw[if_neg h0];show(if (l.length:Int)<s.lo∨s.hi<l.length then 6 else _)=if (decide (s.lo≤(l.length:Int)) && decide ((l.length:Int)≤s.hi))=false then 6 else _
  by_cases h6:(l.length:Int)<s.lo∨s.hi<l.length
  ·rw[if_pos h6,if_pos];rcases h6 with h|h
   ·rw[decide_eq_false (by omega:¬s.lo≤(l.length:Int)),Bool.false_and]
   ·rw[decide_eq_false (by omega:¬(l.length:Int)≤s.hi),Bool.and_false]
  ·have e6:(decide (s.lo≤(l.length:Int)) && decide ((l.length:Int)≤s.hi))=true:=by
    rw[decide_eq_true (by omega:s.lo≤(l.length:Int)),decide_eq_true (by omega:(l.length:Int)≤s.hi)];rfl
   rw[if_neg h6,e6]
   ·show _=if s.kd=2∧agB n l=false then (10:Int)else 0
    unfold agB;have e:(l.any fun k=>decide (k.kind=3∨k.sort≠1))=l.any noAg:=rfl;rw[e];by_cases hN:n=nNew
    ·rw[if_pos hN,if_neg (fun h=>by rcases h.1 with h|h<;>rw[hN]at h<;>exact absurd h (by decide))];have:s.kd=2:=h2.2 (.inr (.inr hN));by_cases hk:(kidT l 0).kind=2
     ·rw[if_neg (fun h=>h.2 hk),if_neg (fun h=>by rw[decide_eq_true hk]at h;exact absurd h.2 (by decide))]
     ·rw[if_pos ⟨hN,hk⟩,if_pos ⟨this,by rw[decide_eq_false hk]⟩]
    ·rw[if_neg hN];by_cases hsk:n=nSk∨n=nShk
     ·have:s.kd=2:=h2.2 (hsk.imp id .inl);by_cases ha:l.any noAg=true
      ·rw[if_pos ⟨hsk,ha⟩,if_pos ⟨this,by rw[ha];rfl⟩]
      ·rw[if_neg (fun h=>ha h.2),if_neg (fun h=>hN h.1),if_neg (fun h=>by rw[Bool.not_eq_true]at ha;rw[ha]at h;exact absurd h.2 (by decide))]
     ·have:s.kd≠2:=fun h=>(h2.1 h).elim (fun h=>hsk (.inl h)) (fun h=>h.elim (fun h=>hsk (.inr h)) hN);rw[if_neg (fun h=>hsk h.1),if_neg (fun h=>hN h.1),if_neg (fun h=>this h.1)]
theorem new_fits {n:ByteArray} {m:Nat} (h:qmi n m=true) (hn:n=nNew):0<m:=by
 subst hn;have:qmi nNew m=(decide ((1:Int)≤(m:Int)) && decide ((m:Int)≤8)):=rfl;rw[this,Bool.and_eq_true,decide_eq_true_iff]at h;omega
theorem qnf (t:Tm) (A:Option Addr) (cap:Nat) (w:World) (hl:t.kids.length≤1000000) (h0:t.name=nNew→0<t.kids.length) (hrep:RepT w w.heap.size t A cap) :
  Calls Tryz.prog 80 #[t.val A cap] w fun e w'=>e=.returned (.bool (agB t.name t.kids))∧Below w.heap.size w w':=by
 obtain⟨tk,tn,ts,l⟩:=t;rw[qbe]at hrep;obtain⟨hr1,hr2,hr3,hr4⟩:=hrep;unfold maxLen at hr3;obtain⟨V,hV⟩:∃V,V=w.alloc (.cells #[.int .i64 tk,.string tn,.int .i64 ts,.slice A l.length cap] 24):=⟨_,rfl⟩;have hbV:Below w.heap.size w V:=by rw[hV];exact qab (Nat.le_refl _) _
 have hsV:V.heap.size=w.heap.size+1:=by rw[hV];simp
 have hbx:V.heap[w.heap.size]?=some (.cells #[.int .i64 tk,.string tn,.int .i64 ts,.slice A l.length cap] 24 (0,0)):=by rw[hV];exact heap_alloc_new _ _
 have hlen:(l.length:Int)≤9223372036854775807:=by omega
 simp only[Tm.val,Tm.kind,Tm.name,Tm.sort,Tm.kids]at hl h0 ⊢;obtain⟨r,hr⟩:∃r,r=agB tn l:=⟨_,rfl⟩;rw[←hr];unfold agB at hr;have N3:Hid (tn=nNew↔(tn.toList==[110,101,119])=true):=qkl (c:=nNew) rfl;generalize hq3:(tn.toList==[110,101,119])=q3 at N3;have HBV:=hdzz hbV;clear hbV;have HBX:=hdzz hbx;obtain⟨r0,r1,r2,r3,rf⟩:=qaa hbx;have HV:=hdzz hV;clear hV hbx
 cases q3 with
 | true=>
  have hN:=N3.out.2 rfl;have hl0:=h0 hN;rw[if_pos hN]at hr;have e0:kidT l 0=l[0]'hl0:=by unfold kidT;rw[List.getElem?_eq_getElem hl0];rfl
  rw[e0]at hr;rcases hr4 with rfl|⟨b,off,rfl,hbB,hl'⟩
  ·simp at hl0
  obtain⟨A',cap',c0,c1,c2,c3,c5⟩:=RepL.get hl' 0 hl0;rw[Nat.zero_mul,Nat.add_zero]at c0;clear c1 c2 c3 c5 N3 hN h0 hl';obtain⟨x,hx⟩:∃x,x=l[0].kind:=⟨_,rfl⟩;rw[←hx]at c0 hr;clear hx;have hr:r=(x==2):=by rw[hr,Bool.eq_iff_iff,decide_eq_true_iff,beq_iff_eq]
  subst hr;go_enter Tryz.func80,Tryz.ntmps80
  go_wp2_with fail
  go_ret
  rw[←HV.out];exact⟨rfl,HBV.out⟩
 | false=>
  have hN:tn≠nNew:=fun h=>by have:=N3.out.1 h;cases this
  rw[if_neg hN]at hr;clear hN N3 h0;have HR:=hdzz hr;clear hr;go_enter Tryz.func80,Tryz.ntmps80
  go_wp2_with fail
  rw[←HV.out];clear HV;go_wp2_with fail
  clear r0 r1 r2 r3 rf;go_loopw [3] (fun i wr=>∃k:Nat,k≤l.length∧i=.int .i64 k∧Hid (Below V.heap.size V wr)∧Hid ((l.take k).any noAg=false)) (fun i _=>l.length - (intOf i).toNat)
  case atStart=>exact⟨0,Nat.zero_le _,rfl,Below.refl _ _,by rw[List.take_zero];exact rfl⟩
  case round=>
   obtain⟨k,hk,rfl,HB,HA⟩:=hrel;have i1:(0:Int)≤(k:Int):=Int.natCast_nonneg _;have hsr:=HB.out.size;have HBR:=hdzz (HBV.out.trans (HB.out.mono (by omega)));obtain⟨r0,r1,r2,r3,rf⟩:=qaa ((HB.out.block _ (by omega)).trans HBX.out);by_cases hlt:k<l.length
   ·have i2:(k:Int)<(l.length:Int):=by omega
    rcases hr4 with rfl|⟨b,off,rfl,hbB,hl'⟩
    ·simp at hlt
    obtain⟨A',cap',h0,h1,h2,h3,h5⟩:=(hl'.below HBR.out hbB).get k hlt;have hat:=qo4 hlt HA.out;have hna:=noAg_eq l[k];clear h5 hl';obtain⟨x,hx⟩:∃x,x=l[k]:=⟨_,rfl⟩;rw[←hx]at h0 h1 h2 h3 hat hna;clear hx;have HAT:=hdzz hat;clear hat;generalize hp1:(x.kind==3)=p1 at hna;generalize hp2:(x.sort != 1)=p2 at hna;have hp2':(x.sort==1) = !p2:=by rw[←hp2];unfold bne;rw[Bool.not_not]
    have HNA:=hdzz hna;clear hna
    cases p1 with
    | true=>
     have hr:r=false:=by rw[HR.out,HAT.out.1 HNA.out];rfl
     subst hr;go_wp2_with fail
     go_ret
     exact⟨rfl,HBR.out⟩
    | false=>
     cases p2 with
     | true=>
      have hr:r=false:=by rw[HR.out,HAT.out.1 HNA.out];rfl
      subst hr;go_wp2_with fail
      go_ret
      exact⟨rfl,HBR.out⟩
     | false=>
      go_wp2_with fail
      go_roundw
      case rel=>exact⟨k+1,by omega,by go_num,HB.out,HAT.out.2 HNA.out⟩
      case measure=>simp[intOf];omega
   ·obtain rfl:k=l.length:=by omega
    have hr:r=true:=by
     have ha:=HA.out;rw[List.take_length]at ha;rw[HR.out,ha];rfl
    subst hr;go_wp2_with fail
    go_ret
    exact⟨rfl,HBR.out⟩
theorem destT_fit {n:ByteArray} {l:List Tm} (h:fitD n l):qas n l=kidT (kidT l 0).kids (if n=nSnd then 1 else 0):=by unfold qas;rw[if_pos h]
structure DsR (Pb:Nat→Prop) (w:World) (n:ByteArray) (l:List Tm) (A:Option Addr) (c:Nat) (a:Tm) (Aa:Option Addr) (ca:Nat) (W:World):Prop where
 b1:W.heap[w.heap.size]?=some (qal (.mk 3 n 0 l) A c)
 b2:W.heap[w.heap.size+1]?=some (.cells #[.int .i64 0,.string ⟨#[]⟩,.int .i64 0,.slice none 0 0] 24 (0,0))
 b3:W.heap[w.heap.size+1+1]?=some (qal a Aa ca)
 bel:Below w.heap.size w W
 ra:RepP W Pb a Aa ca
 rt:RepP W Pb (.mk 3 n 0 l) A c
 le:∀b,Pb b→b<w.heap.size
theorem DsR.size {Pb:Nat→Prop} {w W:World} {n:ByteArray} {l:List Tm} {A:Option Addr} {c:Nat} {a:Tm} {Aa:Option Addr} {ca:Nat} (h:DsR Pb w n l A c a Aa ca W):w.heap.size+1+1<W.heap.size:=(sltz h.b3)
theorem DsR.go {Pb:Nat→Prop} {w W Z:World} {n:ByteArray} {l:List Tm} {A:Option Addr} {c:Nat} {a:Tm} {Aa:Option Addr} {ca:Nat} (h:DsR Pb w n l A c a Aa ca W) (hb:Below W.heap.size W Z):DsR Pb w n l A c a Aa ca Z:=by
 have hs:=h.size;have hle:=h.le;exact⟨(hb.block _ (by omega)).trans h.b1,(hb.block _ (by omega)).trans h.b2,(hb.block _ (by omega)).trans h.b3,h.bel.trans (hb.mono (by omega)),
  RepP.mono (fun _ h=>h) (fun p hp=>hb.cell (by have:=hle _ hp;omega)) _ _ _ h.ra,RepP.mono (fun _ h=>h) (fun p hp=>hb.cell (by have:=hle _ hp;omega)) _ _ _ h.rt,hle⟩
attribute [local irreducible] qay
theorem qjx {n:ByteArray} {L:List Tm} (h1:n≠nXor) (h2:¬symN n) (h3:n≠nExp):FineN n L:=⟨fun h=>absurd h h1,fun h=>absurd h h2,fun h=>absurd h h3⟩
theorem fineN_des {n:ByteArray} {L:List Tm} (h:desN n):FineN n L:=qjx (fun e=>qnn (.inl e) h) (fun e=>qnn (by rcases e with e|e|e<;>simp[e]) h) (fun e=>qnn (by simp[e]) h)
structure NrmR (Pb:Nat→Prop) (w:World) (t:Tm) (A:Option Addr) (c:Nat) (v:Value) (its:List It) (W:World):Prop where
 b1:W.heap[w.heap.size]?=some (qal t A c)
 b2:W.heap[w.heap.size+1]?=some (.cells #[.int .i64 0,.string ⟨#[]⟩,.int .i64 0,.slice none 0 0] 24 (0,0))
 row:RowT W (w.heap.size+1+1) (fun b=>Pb b∨w.heap.size+1+1≤b) v its
 bel:Below w.heap.size w W
 le:∀b,Pb b→b<w.heap.size
 sz:w.heap.size+1+1≤W.heap.size
theorem NrmR.go {Pb:Nat→Prop} {w W Z:World} {t:Tm} {A:Option Addr} {c:Nat} {v:Value} {its:List It} (h:NrmR Pb w t A c v its W) (hb:Below W.heap.size W Z):NrmR Pb w t A c v its Z:=by
 have hs:=h.sz;have:=hb.size;exact⟨(hb.block _ (by omega)).trans h.b1,(hb.block _ (by omega)).trans h.b2,h.row.below hb,h.bel.trans (hb.mono (by omega)),h.le,by omega⟩
theorem qnb (n:Nat):∀(t:Tm) (A:Option Addr) (cap:Nat) (w:World),t.size≤n→n≤1000000→RepT w w.heap.size t A cap→
  Calls Tryz.prog 39 #[t.val A cap] w fun e w'=>e=.returned (.int .i64 t.th)∧Below w.heap.size w w':=by
 induction n with
 | zero=>intro t _ _ _ h;have:=t.size_pos;omega
 | succ n ih=>
  intro t A cap w hn hb hrep;have hrept:=hrep;obtain⟨tk,tn,ts,l⟩:=t;have IH:=hdzz ih;clear ih;rw[Tm.size]at hn;rw[qbe]at hrep;obtain⟨hr1,hr2,hr3,hr4⟩:=hrep;have hls:=Tm.length_le_sizes l;unfold maxLen at hr1 hr3;obtain⟨V,hV⟩:∃V,V=w.alloc (.cells #[.int .i64 tk,.string tn,.int .i64 ts,.slice A l.length cap] 24):=⟨_,rfl⟩;have hbV:Below w.heap.size w V:=by rw[hV];exact qab (Nat.le_refl _) _
  have hsV:V.heap.size=w.heap.size+1:=by rw[hV];simp
  have hbx:V.heap[w.heap.size]?=some (.cells #[.int .i64 tk,.string tn,.int .i64 ts,.slice A l.length cap] 24 (0,0)):=by rw[hV];exact heap_alloc_new _ _
  have HBV:=hdzz hbV;clear hbV;simp only[Tm.val,Tm.kind,Tm.name,Tm.sort,Tm.kids];by_cases hk:tk=3
  case neg=>
   have h0:(Tm.mk tk tn ts l).th=0:=by rw[Tm.th,if_neg hk]
   rw[h0];clear h0;have q:(tk==3)=false:=by rw[beq_eq_false_iff_ne];exact hk
   have q':(tk != 3)=true:=by simp[hk]
   obtain⟨r0,r1,r2,r3,rf⟩:=qaa hbx;have HV:=hdzz hV;clear hV;clear hbx hk;go_enter Tryz.func39,Tryz.ntmps39
   go_wp2_with fail
   rw[←HV.out];go_wp2_with fail
   go_ret
   exact⟨rfl,HBV.out⟩
  subst hk;have hth:(Tm.mk 3 tn ts l).th=if thN tn l≠0 then thN tn l else Tm.ths l:=by rw[Tm.th,if_pos rfl]
  rw[thN_ref]at hth;have KD:=qpy tn V;have FI:=hdzz (fun Z=>qpz (.mk 3 tn ts l) A cap Z (by show l.length≤_;omega));have AG:=hdzz (fun(h0:qmi tn l.length=true) Z (hz:Below V.heap.size V Z)=>qnf (.mk 3 tn ts l) A cap Z (by show l.length≤_;omega) (fun h=>new_fits h0 h) (hrept.go (HBV.out.trans (hz.mono (by omega))) (by have:=hz.size;omega)));obtain⟨kd,hkd⟩:∃k,k=kdOf tn:=⟨_,rfl⟩;obtain⟨fb,hfb⟩:∃k,k=qmi tn l.length:=⟨_,rfl⟩;obtain⟨ab,hab⟩:∃k,k=agB tn l:=⟨_,rfl⟩;obtain⟨r,hr⟩:∃r,r=(Tm.mk 3 tn ts l).th:=⟨_,rfl⟩;simp only[Tm.val,Tm.kind,Tm.name,Tm.sort,Tm.kids]at FI AG;rw[←hkd]at KD hth;rw[←hfb]at FI AG hth;rw[←hab]at AG hth;rw[←hr]at hth ⊢;clear hr hkd hfb hab;have HA:Hid (kd=0→r=10):=hdzz fun h=>by rw[hth,if_pos h];rfl
  have HB6:Hid (kd≠0→fb=false→r=6):=hdzz fun h1 h2=>by rw[hth];simp[h1,h2]
  have HC:Hid (kd≠0→fb=true→kd=2→ab=false→r=10):=hdzz fun h1 h2 h3 h4=>by rw[hth];simp[h2,h3,h4]
  have HD:Hid (kd≠0→fb=true→¬(kd=2∧ab=false)→r=Tm.ths l):=hdzz fun h1 h2 h3=>by rw[hth];simp only[h2,if_neg h1,if_neg h3];simp
  have KD:=hdzz KD;have HBX:=hdzz hbx;obtain⟨r0,r1,r2,r3,rf⟩:=qaa hbx;have HV:=hdzz hV;have HSV:=hdzz hsV;clear hth hbx hV hsV hrept;go_enter Tryz.func39,Tryz.ntmps39
  go_wp2_with fail
  rw[←HV.out];clear HV;go_wp2_with fail
  refine KD.out.mono ?_;rintro e w1 ⟨rfl,hb1⟩;have hs1:=hb1.size;have HB1:=hdzz hb1;have HBX1:=hdzz ((hb1.block _ (by have:=HSV.out;omega)).trans HBX.out);clear KD hb1 r0 r1 r2 r3 rf;obtain⟨r0,r1,r2,r3,rf⟩:=qaa HBX1.out;by_cases hk0:kd=0
  ·subst hk0;have hr:r=10:=HA.out rfl;subst hr;clear HA HB6 HC HD;go_wp2_with fail
   go_ret
   exact⟨rfl,HBV.out.trans (HB1.out.mono (by have:=HSV.out;omega))⟩
  have q:(kd==0)=false:=by rw[beq_eq_false_iff_ne];exact hk0
  have q':(kd != 0)=true:=by simp[hk0]
  have HK0:=hdzz hk0;clear HA hk0;go_wp2_with fail
  refine(FI.out w1).mono ?_;rintro e w2 ⟨rfl,hb2⟩;have hs2:=hb2.size;have HB2:=hdzz (HB1.out.trans (hb2.mono (by omega)));have HBX2:=hdzz ((hb2.block _ (by have:=HSV.out;omega)).trans HBX1.out);clear FI hb2 r0 r1 r2 r3 rf HB1 HBX1;obtain⟨r0,r1,r2,r3,rf⟩:=qaa HBX2.out
  cases fb with
  | false=>
   have hr:r=6:=HB6.out HK0.out rfl;subst hr;clear HB6 HC HD;go_wp2_with fail
   go_ret
   exact⟨rfl,HBV.out.trans (HB2.out.mono (by have:=HSV.out;omega))⟩
  | true=>
   have hcase:((kd==2)=true∧ab=false)∨((kd==2)=true∧ab=true)∨(kd==2)=false:=by
    cases (kd==2)<;>cases ab<;>simp
   rcases hcase with⟨k2,rfl⟩|⟨k2,rfl⟩|k2
   ·have hr:r=10:=HC.out HK0.out rfl (by simpa using k2) rfl;subst hr;clear HC HD HB6;go_wp2_with fail
    refine(AG.out trivial w2 HB2.out).mono ?_;rintro e w3 ⟨rfl,hb3⟩;have HB3:=hdzz (HB2.out.trans (hb3.mono (by omega)));clear AG hb3;go_wp2_with fail
    go_ret
    exact⟨rfl,HBV.out.trans (HB3.out.mono (by have:=HSV.out;omega))⟩
   ·have HTL:Hid (r=Tm.ths l):=hdzz (HD.out HK0.out rfl (by simp));clear HC HD HB6;go_wp2_with fail
    refine(AG.out trivial w2 HB2.out).mono ?_;rintro e w3 ⟨rfl,hb3⟩;have hs3:=hb3.size;have HBC:=hdzz (HB2.out.trans (hb3.mono (by omega)));clear AG hb3 HB2 HBX2;go_upto_region 11 with fail
    clear r0 r1 r2 r3 rf;go_loopw [4] (fun i wr=>∃k:Nat,k≤l.length∧i=.int .i64 k∧Hid (Below V.heap.size V wr)∧Hid (Tm.ths (l.drop k)=r)) (fun i _=>l.length - (intOf i).toNat)
    case atStart=>exact⟨0,Nat.zero_le _,rfl,HBC.out,HTL.out.symm⟩
    case round=>
     obtain⟨k,hk,rfl,HB,HF⟩:=hrel;have i1:(0:Int)≤(k:Int):=Int.natCast_nonneg _;have hsr:=HB.out.size;have HBR:=hdzz (HBV.out.trans (HB.out.mono (by have:=HSV.out;omega)));have hls':(l.length:Int)≤1000000:=by omega
     obtain⟨r0,r1,r2,r3,rf⟩:=qaa ((HB.out.block _ (by have:=HSV.out;omega)).trans HBX.out);by_cases hlt:k<l.length
     ·have i2:(k:Int)<(l.length:Int):=by omega
      rcases hr4 with rfl|⟨b,off,rfl,hbB,hl⟩
      ·simp at hlt
      obtain⟨A',cap',h0,h1,h2,h3,h5⟩:=(hl.below HBR.out hbB).get k hlt;have hsg:=Tm.sizes_get l k hlt;have hf:=HF.out;rw[qf8 l k hlt]at hf;have CON:=IH.out l[k] A' cap' wr (by omega) (by omega) (RepP.mono (fun b (h:b<w.heap.size)=>by have:=HBR.out.size;omega) (fun _ _=>rfl) _ _ _ h5);clear h5 hl;obtain⟨x,hx⟩:∃x,x=l[k]:=⟨_,rfl⟩;rw[←hx]at h0 h1 h2 h3 hf CON;clear hx;obtain⟨y,hy⟩:∃y,y=x.th:=⟨_,rfl⟩;rw[←hy]at hf CON;clear hy;simp only[Tm.val]at CON;have CON:=hdzz CON;have HF2:=hdzz hf;clear hf HF;go_wp2_with fail
      refine CON.out.mono ?_;clear CON h0 h1 h2 h3 r0 r1 r2 r3 rf;rintro e w5 ⟨rfl,hb5⟩;have HB5:=hdzz (HB.out.trans (hb5.mono hsr));clear hb5;by_cases hz:y=0
      ·subst hz;have HF3:=hdzz HF2.out;go_wp2_with fail
       go_roundw
       case rel=>exact⟨k+1,by omega,by go_num,HB5.out,(if_neg (by simp)).symm.trans HF3.out⟩
       case measure=>simp[intOf];omega
      ·have hr:y=r:=(if_pos hz).symm.trans HF2.out;subst hr;have q:(y==0)=false:=by rw[beq_eq_false_iff_ne];exact hz
       have q':(y != 0)=true:=by simp[hz]
       clear HF2;go_wp2_with fail
       go_ret
       exact⟨rfl,HBV.out.trans (HB5.out.mono (by have:=HSV.out;omega))⟩
     ·obtain rfl:k=l.length:=by omega
      have hr:0=r:=by have:=HF.out;rw[List.drop_length]at this;exact this
      subst hr;go_wp2_with fail
      go_ret
      exact⟨rfl,HBR.out⟩
   ·have HTL:Hid (r=Tm.ths l):=hdzz (HD.out HK0.out rfl (by rintro⟨h1,_⟩;rw[h1]at k2;exact absurd k2 (by decide)));have HBC:=HB2;clear HC HD HB6 AG HB2 HBX2;go_upto_region 11 with fail
    clear r0 r1 r2 r3 rf;go_loopw [4] (fun i wr=>∃k:Nat,k≤l.length∧i=.int .i64 k∧Hid (Below V.heap.size V wr)∧Hid (Tm.ths (l.drop k)=r)) (fun i _=>l.length - (intOf i).toNat)
    case atStart=>exact⟨0,Nat.zero_le _,rfl,HBC.out,HTL.out.symm⟩
    case round=>
     obtain⟨k,hk,rfl,HB,HF⟩:=hrel;have i1:(0:Int)≤(k:Int):=Int.natCast_nonneg _;have hsr:=HB.out.size;have HBR:=hdzz (HBV.out.trans (HB.out.mono (by have:=HSV.out;omega)));have hls':(l.length:Int)≤1000000:=by omega
     obtain⟨r0,r1,r2,r3,rf⟩:=qaa ((HB.out.block _ (by have:=HSV.out;omega)).trans HBX.out);by_cases hlt:k<l.length
     ·have i2:(k:Int)<(l.length:Int):=by omega
      rcases hr4 with rfl|⟨b,off,rfl,hbB,hl⟩
      ·simp at hlt
      obtain⟨A',cap',h0,h1,h2,h3,h5⟩:=(hl.below HBR.out hbB).get k hlt;have hsg:=Tm.sizes_get l k hlt;have hf:=HF.out;rw[qf8 l k hlt]at hf;have CON:=IH.out l[k] A' cap' wr (by omega) (by omega) (RepP.mono (fun b (h:b<w.heap.size)=>by have:=HBR.out.size;omega) (fun _ _=>rfl) _ _ _ h5);clear h5 hl;obtain⟨x,hx⟩:∃x,x=l[k]:=⟨_,rfl⟩;rw[←hx]at h0 h1 h2 h3 hf CON;clear hx;obtain⟨y,hy⟩:∃y,y=x.th:=⟨_,rfl⟩;rw[←hy]at hf CON;clear hy;simp only[Tm.val]at CON;have CON:=hdzz CON;have HF2:=hdzz hf;clear hf HF;go_wp2_with fail
      refine CON.out.mono ?_;clear CON h0 h1 h2 h3 r0 r1 r2 r3 rf;rintro e w5 ⟨rfl,hb5⟩;have HB5:=hdzz (HB.out.trans (hb5.mono hsr));clear hb5;by_cases hz:y=0
      ·subst hz;have HF3:=hdzz HF2.out;go_wp2_with fail
       go_roundw
       case rel=>exact⟨k+1,by omega,by go_num,HB5.out,(if_neg (by simp)).symm.trans HF3.out⟩
       case measure=>simp[intOf];omega
      ·have hr:y=r:=(if_pos hz).symm.trans HF2.out;subst hr;have q:(y==0)=false:=by rw[beq_eq_false_iff_ne];exact hz
       have q':(y != 0)=true:=by simp[hz]
       clear HF2;go_wp2_with fail
       go_ret
       exact⟨rfl,HBV.out.trans (HB5.out.mono (by have:=HSV.out;omega))⟩
     ·obtain rfl:k=l.length:=by omega
      have hr:0=r:=by have:=HF.out;rw[List.drop_length]at this;exact this
      subst hr;go_wp2_with fail
      go_ret
      exact⟨rfl,HBR.out⟩
theorem qm9 (t:Tm) (A:Option Addr) (cap:Nat) (w:World) (hn:t.size≤1000000) (hrep:RepT w w.heap.size t A cap) :
  Calls Tryz.prog 14 #[t.val A cap] w fun e w'=>e=.returned (.int .i64 t.validT)∧Below w.heap.size w w':=by
 obtain⟨V,hV⟩:∃V,V=w.alloc (qal t A cap):=⟨_,rfl⟩;have hbV:Below w.heap.size w V:=by rw[hV];exact qab (Nat.le_refl _) _
 have hsV:V.heap.size=w.heap.size+1:=by rw[hV];simp
 have hbx:V.heap[w.heap.size]?=some (qal t A cap):=by rw[hV];exact heap_alloc_new _ _
 have VA:=qjf t A cap V hn (hrep.go hbV (by omega));have TC:Hid (∀Z,Below V.heap.size V Z→Calls Tryz.prog 39 #[t.val A cap] Z fun e w'=>e=.returned (.int .i64 t.th)∧Below Z.heap.size Z w'):=hdzz fun Z h=>
  qnb 1000000 t A cap Z hn (Nat.le_refl _) (hrep.go (hbV.trans (h.mono (by omega))) (by have:=h.size;omega))
 unfold Tm.validT;obtain⟨v,hv⟩:∃v,v=t.valid:=⟨_,rfl⟩;obtain⟨u,hu⟩:∃u,u=t.th:=⟨_,rfl⟩;rw[←hv]at VA ⊢;rw[←hu]at TC ⊢;clear hv hu;obtain⟨r,hr⟩:∃r,r=if v≠0 then v else u:=⟨_,rfl⟩
 rw[←hr];have HR:=hdzz hr;clear hr;simp only[qal]at hV hbx;simp only[Tm.val]at VA TC ⊢;have HBX:=hdzz hbx;obtain⟨r0,r1,r2,r3,rf⟩:=qaa hbx;have HV:=hdzz hV;clear hV hbx;have HBV:=hdzz hbV;clear hbV;have VA:=hdzz VA;go_enter Tryz.func14,Tryz.ntmps14
 go_wp2_with fail
 rw[←HV.out];clear HV;go_wp2_with fail
 refine VA.out.mono ?_;clear VA r0 r1 r2 r3 rf;rintro e w1 ⟨rfl,hl1⟩;have hs1:=hl1.below.size;have HB1:=hdzz (HBV.out.trans (hl1.below.mono (by omega)));have TC:=hdzz (TC.out w1 hl1.below);obtain⟨r0,r1,r2,r3,rf⟩:=qaa ((hl1.below.block _ (by omega)).trans HBX.out);clear hl1 HBX HBV;by_cases hv:v=0
 case neg=>
  have hr:=HR.out.trans (if_pos hv);clear HR;subst hr;have q:(r==0)=false:=by rw[beq_eq_false_iff_ne];exact hv
  have q':(r != 0)=true:=by simp[hv]
  clear hv;go_wp2_with fail
  go_ret
  exact⟨rfl,HB1.out⟩
 subst hv;have hr:=HR.out.trans (if_neg (by simp));clear HR;subst hr;go_wp2_with fail
 refine TC.out.mono ?_;clear TC r0 r1 r2 r3 rf;rintro e w2 ⟨rfl,hb2⟩;have HB2:=hdzz (HB1.out.trans (hb2.mono (by omega)));clear hb2;go_wp2_with fail
 go_ret
 exact⟨rfl,HB2.out⟩
end Go.Proofs.YtjhjoiplpmjepaaGreat
