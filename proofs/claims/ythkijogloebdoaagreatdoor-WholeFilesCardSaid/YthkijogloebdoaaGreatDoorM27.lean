/-
  WholeFiles, the texts Wfd: lemmas for the proof that three files on one disk are plain rows of bytes. No conditions.
-/
import Derived.Test.YthkijogloebdoaaGreatDoorM26
import Derived.Deep.CutBlock
import Derived.Deep.RegionHeld3
set_option linter.unusedVariables false
set_option linter.unusedSimpArgs false
section
set_option maxRecDepth 1000000
namespace Go.Proofs.YthkijogloebdoaaGreatDoor
open Go.RowKit Go.Maps Rec Gp Fs
def WI2 (R:Value → Value → Value → World → Prop)(n ol oc og d gb:Nat)(nv:Value)(c6 c8 c9 c14 c30 c31 c32 c33 c34 c35 c36 c37 c38 c39 c40 c41 c42 c43 c44 c45 c46 c47 c48 c49 c50 c51 c52 c53 c54 c55 c56 c57 c58 c59 c60 c61 c88 c89 c90 c91:Value)(a:Act)(w:World):Prop :=
  ∃ tv lv iv u4 u15 u16 u18 u19 u20 u21 u22 u23 u24 u25 u26 u27 u28 u62 u63 u64 u65 u66 u67 u68 u69 u70 u71 u72 u73 u74 u75 u76 u77 u78 u79 u80 u81 u82 u83 u84 u85 u86 u87 u92 u93 u94 u95 u96 u97 u98 u99 u100 u101 u102 u103 u104 u105 u106 u107 u108 u109 u110 u111 u112 u113 u114 u115 u116 u117 u118 u119 u120 u121 u122 u123 u124 u125 u126 u127 u128 u129 u130 u131 u132 u133 u134 u135 u136 u137 u138 u139 u140 u141 u142 u143 u144 u145 u146 u147 u148 u149 u150 u151 u152 u153 u154 u155 u156 u157 u158 u159 u160 u161 u162 u163 u164 u165 u166 u167 u168 u169 u170 u171 u172 u173 u174 u175 u176 u177 u178 u179 u180 u181 u182 u183 u184 u185 u186 u187 u188 u189 u190 u191 u192 u193 u194 u195 u196 u197 u198 u199 u200 u201 u202 u203 u204 u205 u206 u207 u208 u209 u210 u211 u212 u213 u214 u215 u216 u217 u218 u219 u220 u221 u222 u223 u224 u225 u226 u227 u228 u229 u230 u231 u232 u233 u234 u235 u236 u237 u238 u239 u240 u241 u242 u243 u244 u245 u246 u247 u248 u249 u250 u251 u252 u253 u254 u255 u256 u257 u258 u259 u260 u261 u262 u263 u264 u265 u266 u267 u268 u269 u270 u271:Value,R tv lv iv w ∧ a=⟨#[.int .i64 (n:Int),.slice (some ⟨og,0,none⟩) (ol + 1) oc,undef,undef,u4,.pointer (some ⟨d,0,none⟩),c6,.pointer (some ⟨gb,0,none⟩),c8,c9,.int .i64 (dat n:Int),tv,lv,nv,c14,u15,u16,iv,u18,u19,u20,u21,u22,u23,u24,u25,u26,u27,u28,undef,c30,c31,c32,c33,c34,c35,c36,c37,c38,c39,c40,c41,c42,c43,c44,c45,c46,c47,c48,c49,c50,c51,c52,c53,c54,c55,c56,c57,c58,c59,c60,c61,u62,u63,u64,u65,u66,u67,u68,u69,u70,u71,u72,u73,u74,u75,u76,u77,u78,u79,u80,u81,u82,u83,u84,u85,u86,u87,c88,c89,c90,c91,u92,u93,u94,u95,u96,u97,u98,u99,u100,u101,u102,u103,u104,u105,u106,u107,u108,u109,u110,u111,u112,u113,u114,u115,u116,u117,u118,u119,u120,u121,u122,u123,u124,u125,u126,u127,u128,u129,u130,u131,u132,u133,u134,u135,u136,u137,u138,u139,u140,u141,u142,u143,u144,u145,u146,u147,u148,u149,u150,u151,u152,u153,u154,u155,u156,u157,u158,u159,u160,u161,u162,u163,u164,u165,u166,u167,u168,u169,u170,u171,u172,u173,u174,u175,u176,u177,u178,u179,u180,u181,u182,u183,u184,u185,u186,u187,u188,u189,u190,u191,u192,u193,u194,u195,u196,u197,u198,u199,u200,u201,u202,u203,u204,u205,u206,u207,u208,u209,u210,u211,u212,u213,u214,u215,u216,u217,u218,u219,u220,u221,u222,u223,u224,u225,u226,u227,u228,u229,u230,u231,u232,u233,u234,u235,u236,u237,u238,u239,u240,u241,u242,u243,u244,u245,u246,u247,u248,u249,u250,u251,u252,u253,u254,u255,u256,u257,u258,u259,u260,u261,u262,u263,u264,u265,u266,u267,u268,u269,u270,u271,undef,undef,undef,undef,undef,undef,undef,undef,undef,undef,undef,undef,undef,undef,undef,undef,undef,undef,undef,undef,undef],[]⟩
def Wmu2 (a:Act)(_:World):Nat:=40 - (intOf (a.tmps.getD 17 undef)).toNat
def Rel2 (n:Nat)(w0:World)(B a d gb:Nat)(nv ov:Value)(cs:List Value)(ol:Nat)(tv lv iv:Value)(wr:World):Prop :=
  ∃ (i:Nat) (c:Cx) (O:Nat → Prop) (T:Tn) (X:Nat → Ino) (L:Nat → Nat → Nat) (Q:Nat → Pl) (S:List Nat) (ms:Nat → Nat),iv=.int .i64 (i:Int) ∧ i ≤ 40 ∧ tv=.pointer (some ⟨c.t,0,none⟩) ∧ Loop n w0 B a d gb nv ov cs ol i wr c O T X L Q S ∧ RF wr O w0.heap.size 47 2 lv 3 (plC ms Q) ∧ PQ wr O ms Q
set_option maxHeartbeats 6400000 in
theorem round2 (n ol oc og d gb:Nat)(nv lv:Value)(w0:World)(B a:Nat)(cs:List Value)(i:Nat)(c:Cx)(O:Nat → Prop)(T:Tn)(X:Nat → Ino)(L:Nat → Nat → Nat)(Q:Nat → Pl)(S:List Nat)(ms:Nat → Nat)(wr:World)(Q0:Exit → Act → World → Prop)(c6 c8 c9 c14 c30 c31 c32 c33 c34 c35 c36 c37 c38 c39 c40 c41 c42 c43 c44 c45 c46 c47 c48 c49 c50 c51 c52 c53 c54 c55 c56 c57 c58 c59 c60 c61 c88 c89 c90 c91:Value)(u4 u15 u16 u18 u19 u20 u21 u22 u23 u24 u25 u26 u27 u28 u62 u63 u64 u65 u66 u67 u68 u69 u70 u71 u72 u73 u74 u75 u76 u77 u78 u79 u80 u81 u82 u83 u84 u85 u86 u87 u92 u93 u94 u95 u96 u97 u98 u99 u100 u101 u102 u103 u104 u105 u106 u107 u108 u109 u110 u111 u112 u113 u114 u115 u116 u117 u118 u119 u120 u121 u122 u123 u124 u125 u126 u127 u128 u129 u130 u131 u132 u133 u134 u135 u136 u137 u138 u139 u140 u141 u142 u143 u144 u145 u146 u147 u148 u149 u150 u151 u152 u153 u154 u155 u156 u157 u158 u159 u160 u161 u162 u163 u164 u165 u166 u167 u168 u169 u170 u171 u172 u173 u174 u175 u176 u177 u178 u179 u180 u181 u182 u183 u184 u185 u186 u187 u188 u189 u190 u191 u192 u193 u194 u195 u196 u197 u198 u199 u200 u201 u202 u203 u204 u205 u206 u207 u208 u209 u210 u211 u212 u213 u214 u215 u216 u217 u218 u219 u220 u221 u222 u223 u224 u225 u226 u227 u228 u229 u230 u231 u232 u233 u234 u235 u236 u237 u238 u239 u240 u241 u242 u243 u244 u245 u246 u247 u248 u249 u250 u251 u252 u253 u254 u255 u256 u257 u258 u259 u260 u261 u262 u263 u264 u265 u266 u267 u268 u269 u270 u271:Value)
    (hB:w0.heap.size ≤ B)(hops:∀ i,i < ol + 1 → ∀ j,j < 5 → (first5 ++ cs)[i * 5 + j]? = some (.int .i64 (opAt cs i j)) ∧ -9223372036854775808 ≤ opAt cs i j ∧ opAt cs i j ≤ 9223372036854775807)
    (hi40:i ≤ 40)(hlp:Loop n w0 B a d gb nv (.slice (some ⟨og,0,none⟩) (ol + 1) oc) cs ol i wr c O T X L Q S)(hrl:RF wr O w0.heap.size 47 2 lv 3 (plC ms Q))(hpq:PQ wr O ms Q)
    (hexit:∀ a' w',WI2 (Rel2 n w0 B a d gb nv (.slice (some ⟨og,0,none⟩) (ol + 1) oc) cs ol) n ol oc og d gb nv c6 c8 c9 c14 c30 c31 c32 c33 c34 c35 c36 c37 c38 c39 c40 c41 c42 c43 c44 c45 c46 c47 c48 c49 c50 c51 c52 c53 c54 c55 c56 c57 c58 c59 c60 c61 c88 c89 c90 c91 a' w' → Q0 (.exit 2) a' w') :
    Code.wp Tryz.prog body2 (Exit.then (fun a' w' => WI2 (Rel2 n w0 B a d gb nv (.slice (some ⟨og,0,none⟩) (ol + 1) oc) cs ol) n ol oc og d gb nv c6 c8 c9 c14 c30 c31 c32 c33 c34 c35 c36 c37 c38 c39 c40 c41 c42 c43 c44 c45 c46 c47 c48 c49 c50 c51 c52 c53 c54 c55 c56 c57 c58 c59 c60 c61 c88 c89 c90 c91 a' w' ∧ Wmu2 a' w' < Wmu2 ⟨#[.int .i64 (n:Int),.slice (some ⟨og,0,none⟩) (ol + 1) oc,undef,undef,u4,.pointer (some ⟨d,0,none⟩),c6,.pointer (some ⟨gb,0,none⟩),c8,c9,.int .i64 (dat n:Int),.pointer (some ⟨c.t,0,none⟩),lv,nv,c14,u15,u16,.int .i64 (i:Int),u18,u19,u20,u21,u22,u23,u24,u25,u26,u27,u28,undef,c30,c31,c32,c33,c34,c35,c36,c37,c38,c39,c40,c41,c42,c43,c44,c45,c46,c47,c48,c49,c50,c51,c52,c53,c54,c55,c56,c57,c58,c59,c60,c61,u62,u63,u64,u65,u66,u67,u68,u69,u70,u71,u72,u73,u74,u75,u76,u77,u78,u79,u80,u81,u82,u83,u84,u85,u86,u87,c88,c89,c90,c91,u92,u93,u94,u95,u96,u97,u98,u99,u100,u101,u102,u103,u104,u105,u106,u107,u108,u109,u110,u111,u112,u113,u114,u115,u116,u117,u118,u119,u120,u121,u122,u123,u124,u125,u126,u127,u128,u129,u130,u131,u132,u133,u134,u135,u136,u137,u138,u139,u140,u141,u142,u143,u144,u145,u146,u147,u148,u149,u150,u151,u152,u153,u154,u155,u156,u157,u158,u159,u160,u161,u162,u163,u164,u165,u166,u167,u168,u169,u170,u171,u172,u173,u174,u175,u176,u177,u178,u179,u180,u181,u182,u183,u184,u185,u186,u187,u188,u189,u190,u191,u192,u193,u194,u195,u196,u197,u198,u199,u200,u201,u202,u203,u204,u205,u206,u207,u208,u209,u210,u211,u212,u213,u214,u215,u216,u217,u218,u219,u220,u221,u222,u223,u224,u225,u226,u227,u228,u229,u230,u231,u232,u233,u234,u235,u236,u237,u238,u239,u240,u241,u242,u243,u244,u245,u246,u247,u248,u249,u250,u251,u252,u253,u254,u255,u256,u257,u258,u259,u260,u261,u262,u263,u264,u265,u266,u267,u268,u269,u270,u271,undef,undef,undef,undef,undef,undef,undef,undef,undef,undef,undef,undef,undef,undef,undef,undef,undef,undef,undef,undef,undef],[]⟩ wr) Q0) ⟨#[.int .i64 (n:Int),.slice (some ⟨og,0,none⟩) (ol + 1) oc,undef,undef,u4,.pointer (some ⟨d,0,none⟩),c6,.pointer (some ⟨gb,0,none⟩),c8,c9,.int .i64 (dat n:Int),.pointer (some ⟨c.t,0,none⟩),lv,nv,c14,u15,u16,.int .i64 (i:Int),u18,u19,u20,u21,u22,u23,u24,u25,u26,u27,u28,undef,c30,c31,c32,c33,c34,c35,c36,c37,c38,c39,c40,c41,c42,c43,c44,c45,c46,c47,c48,c49,c50,c51,c52,c53,c54,c55,c56,c57,c58,c59,c60,c61,u62,u63,u64,u65,u66,u67,u68,u69,u70,u71,u72,u73,u74,u75,u76,u77,u78,u79,u80,u81,u82,u83,u84,u85,u86,u87,c88,c89,c90,c91,u92,u93,u94,u95,u96,u97,u98,u99,u100,u101,u102,u103,u104,u105,u106,u107,u108,u109,u110,u111,u112,u113,u114,u115,u116,u117,u118,u119,u120,u121,u122,u123,u124,u125,u126,u127,u128,u129,u130,u131,u132,u133,u134,u135,u136,u137,u138,u139,u140,u141,u142,u143,u144,u145,u146,u147,u148,u149,u150,u151,u152,u153,u154,u155,u156,u157,u158,u159,u160,u161,u162,u163,u164,u165,u166,u167,u168,u169,u170,u171,u172,u173,u174,u175,u176,u177,u178,u179,u180,u181,u182,u183,u184,u185,u186,u187,u188,u189,u190,u191,u192,u193,u194,u195,u196,u197,u198,u199,u200,u201,u202,u203,u204,u205,u206,u207,u208,u209,u210,u211,u212,u213,u214,u215,u216,u217,u218,u219,u220,u221,u222,u223,u224,u225,u226,u227,u228,u229,u230,u231,u232,u233,u234,u235,u236,u237,u238,u239,u240,u241,u242,u243,u244,u245,u246,u247,u248,u249,u250,u251,u252,u253,u254,u255,u256,u257,u258,u259,u260,u261,u262,u263,u264,u265,u266,u267,u268,u269,u270,u271,undef,undef,undef,undef,undef,undef,undef,undef,undef,undef,undef,undef,undef,undef,undef,undef,undef,undef,undef,undef,undef],[]⟩ wr:=by
  obtain ⟨nb,nbc,hnv,_⟩:=World.ownsRow.form hlp.nums.1 (by decide)
  subst hnv
  conv => arg 2; whnf
  have HREL:=Lib.hid (show Rel2 n w0 B a d gb (.slice (some ⟨nb,0,none⟩) 3 nbc) (.slice (some ⟨og,0,none⟩) (ol + 1) oc) cs ol (.pointer (some ⟨c.t,0,none⟩)) lv (.int .i64 (i:Int)) wr from ⟨i,c,O,T,X,L,Q,S,ms,rfl,hi40,rfl,hlp,hrl,hpq⟩)
  have HEX:=Lib.hid hexit
  have HLP:=Lib.hid hlp
  have HRL:=Lib.hid hrl
  have HPQ:=Lib.hid hpq
  have HOPS:=Lib.hid hops
  clear hexit hlp hrl hpq hops
  by_cases hlen:i < ol + 1
  · have hl1 : (i:Int) < (ol:Int) + 1:=by omega
    by_cases h40:i < 40
    · have hl2 : (i:Int) < 40:=by omega
      have hop:=HLP.out.ops.1
      obtain ⟨p0,b0,B0⟩:=HOPS.out i hlen 0 (by omega)
      obtain ⟨p1,b1,B1⟩:=HOPS.out i hlen 1 (by omega)
      obtain ⟨p2,b2,B2⟩:=HOPS.out i hlen 2 (by omega)
      obtain ⟨p3,b3,B3⟩:=HOPS.out i hlen 3 (by omega)
      obtain ⟨p4,b4,B4⟩:=HOPS.out i hlen 4 (by omega)
      have o0:=(World.ownsRow.cellAt hop (i * 5) (by omega)).trans p0
      have o1:=(World.ownsRow.cellAt hop (i * 5 + 1) (by omega)).trans p1
      have o2:=(World.ownsRow.cellAt hop (i * 5 + 2) (by omega)).trans p2
      have o3:=(World.ownsRow.cellAt hop (i * 5 + 3) (by omega)).trans p3
      have o4:=(World.ownsRow.cellAt hop (i * 5 + 4) (by omega)).trans p4
      obtain ⟨z0,hz0⟩:∃ z,opAt cs i 0=z:=⟨_,rfl⟩
      obtain ⟨z1,hz1⟩:∃ z,opAt cs i 1=z:=⟨_,rfl⟩
      obtain ⟨z2,hz2⟩:∃ z,opAt cs i 2=z:=⟨_,rfl⟩
      obtain ⟨z3,hz3⟩:∃ z,opAt cs i 3=z:=⟨_,rfl⟩
      obtain ⟨z4,hz4⟩:∃ z,opAt cs i 4=z:=⟨_,rfl⟩
      rw [hz0] at o0 b0 B0
      rw [hz1] at o1 b1 B1
      rw [hz2] at o2 b2 B2
      rw [hz3] at o3 b3 B3
      rw [hz4] at o4 b4 B4
      have HZ0:=Lib.hid (And.intro b0 B0)
      have HZ2:=Lib.hid (And.intro b2 B2)
      have HZ3:=Lib.hid (And.intro b3 B3)
      have HZ4:=Lib.hid (And.intro b4 B4)
      obtain ⟨k,hk⟩:∃ k:Nat,z1 % 3=(k:Int):=⟨(z1 % 3).toNat,by omega⟩
      have hk3:k < 3:=by omega
      have HMOD:=Lib.hid (fun X => mod_any z1 3 X (by omega) (by omega) b1 B1)
      rw [hk] at HMOD
      clear hop p0 p1 p2 p3 p4 hz0 hz1 hz2 hz3 hz4 b0 B0 b1 B1 b2 B2 b3 B3 b4 B4 hk
      have hbx:=below_new wr (.cells #[.int .i64 z0,.int .i64 z1,.int .i64 z2,.int .i64 z3,.int .i64 z4] 49)
      have hix:=Is.new wr 49 #[.int .i64 z0,.int .i64 z1,.int .i64 z2,.int .i64 z3,.int .i64 z4]
      obtain ⟨W1,hW1⟩:∃ W1,wr.alloc (.cells #[.int .i64 z0,.int .i64 z1,.int .i64 z2,.int .i64 z3,.int .i64 z4] 49)=W1:=⟨_,rfl⟩
      rw [hW1] at hbx hix
      have HBX:=Lib.hid hbx
      have HIX:=Lib.hid hix
      have e1:W1.cell? ⟨wr.heap.size,1,none⟩=some (.int .i64 z1):=hix.cell 1
      clear hbx hix
      have HCNT:=Lib.hid (wcount_any (HLP.out.hold.env.later HBX.out).tx HLP.out.hold.cov (by have:=HLP.out.s90; omega))
      go_upto_if 112 with (first
        | (go_at_call 11
           refine (HMOD.out _).mono ?_
           rintro e w' ⟨rfl,rfl⟩)
        | (go_at_call 12
           refine HCNT.out.mono ?_
           rintro e w2 ⟨⟨SA,scap,many,S2,rfl,hcov2,hlen2,hc96⟩,hb2⟩
           have HCV:=Lib.hid (And.intro hcov2 hlen2)
           have HB2:=Lib.hid (HBX.out.trans (hb2.mono HBX.out.size))
           have HIX2:=Lib.hid (HIX.out.below hb2 HIX.out.lt)
           clear hcov2 hlen2 hb2))
      go_cut [] from 113 to 113 (fun wx => ∃ z:Int,Is wx wr.heap.size 49 #[.int .i64 z,.int .i64 z1,.int .i64 z2,.int .i64 z3,.int .i64 z4] ∧ (-9223372036854775808 ≤ z ∧ z ≤ 9223372036854775807) ∧ (z % 4=3 ∨ ∃ S2,T.Cov S2 ∧ S2.length ≤ 40) ∧ Below wr.heap.size wr wx)
      case first =>
        have c0:w2.cell? ⟨wr.heap.size,0,none⟩=some (.int .i64 z0):=HIX2.out.cell 0
        have f0:=HIX2.out.free 0
        by_cases hc:many ≤ 40
        · have hgt:¬ (40:Int) < (many:Int):=by omega
          go_wp2_with fail
          go_meet
          exact ⟨z0,HIX2.out,HZ0.out,.inr ⟨S2,HCV.out.1,by have:=HCV.out.2; omega⟩,HB2.out⟩
        · have hgt:(40:Int) < (many:Int):=by omega
          go_wp2_with fail
          go_meet
          exact ⟨3,HIX2.out.put 0 (.int .i64 3),by omega,.inl rfl,HB2.out.trans ((keeps_set w2 wr.heap.size 0 _).below (HB2.out.size) (fun j e => by have e:j=wr.heap.size:=e; omega))⟩
      case rest =>
        obtain ⟨z,hix,hzb,hkind,hbc⟩:=hcut
        have HKD:=Lib.hid hkind
        have HZB:=Lib.hid hzb
        have HLC:=Lib.hid (HLP.out.later hbc)
        have HRC:=Lib.hid (HRL.out.away (by decide) (Away.below hbc))
        have HPC:=Lib.hid (HPQ.out.later hbc)
        have HXC:=Lib.hid hix
        have hsc:=hbc.size
        have hxl:=hix.lt
        have HMD4:=Lib.hid (fun X => mod_any z 4 X (by omega) (by omega) hzb.1 hzb.2)
        obtain ⟨y,hy⟩:∃ y:Nat,z % 4=(y:Int):=⟨(z % 4).toNat,by omega⟩
        have hy4:y < 4:=by omega
        rw [hy] at HMD4
        have HY:=Lib.hid hy
        clear hix hzb hkind hbc HCNT HMOD HBX HIX HLP HRL HPQ e1 o0 o1 o2 o3 o4 hy
        obtain ⟨i0p,hip,hz0p,hz1p,hz2p⟩:=info_parts infoPl
        have HIP:=Lib.hid (And.intro hip (And.intro hz0p (And.intro hz1p hz2p)))
        clear hip hz0p hz1p hz2p
        obtain ⟨lg,lc,hlv,hlg1,hlg2⟩:=PRow.form (show PRow wc w0.heap.size lv ms Q from HRC.out.1)
        subst hlv
        have hbE:=below_new wc (.cells #[] 47)
        obtain ⟨WE,hWE⟩:∃ WE,wc.alloc (.cells #[] 47)=WE:=⟨_,rfl⟩
        have hzE:WE.heap.size=wc.heap.size + 1:=by rw [← hWE,World.size_alloc]
        have hoE:=emptyRow wc (base:=w0.heap.size) HLC.out.below.size
        rw [hWE] at hbE hoE
        have HOE:=Lib.hid hoE
        have HRE:=Lib.hid (HRC.out.away (by decide) (Away.below hbE))
        have HBE:=Lib.hid hbE
        clear hbE hoE
        go_upto_block 4 with (first
          | (go_at_call 11
             refine (HMD4.out _).mono ?_
             rintro e w' ⟨rfl,rfl⟩)
          | (at_builtin
             go_loud (
             refine wpList_append_own_at WE rfl (.tmp 114) (.tmp 115) 38 rfl w0.heap.size 47 i0p (.agg #[.map none,.int .i64 0]) 2 16 Tryz.underlying38 HIP.out.1 HIP.out.2.1 HIP.out.2.2.1 HIP.out.2.2.2 rfl (by decide) (.slice (some ⟨wc.heap.size,0,none⟩) 0 0) 0 [] rfl HOE.out ⟨lg,0,none⟩ 3 lc (plC ms Q) rfl rfl (World.ownsRow.cells HRE.out.1 rfl) (by intro u hu; simp [plC] at hu; rcases hu with rfl | rfl | rfl | rfl | rfl | rfl <;> rfl) (by decide) (by decide) (by have:=HLC.out.below.size; omega) ?_
             intro v' wd hod hgd _ hatd
             obtain ⟨ng,nc,rfl,hn1,hn2⟩:=PRow.form (show PRow wd w0.heap.size v' ms Q from hod)
             have hng:wc.heap.size ≤ ng:=by
               rcases hatd with q | q
               · injection q with q
                 have q:ng=wc.heap.size:=q
                 omega
               · injection q with q
                 have q:ng=WE.heap.size:=q
                 omega
             have hbd:Below wc.heap.size wc wd:=HBE.out.trans ⟨hgd.os,hgd.tape,hgd.output,hgd.size,fun j hj => hgd.block j (by omega) (fun e => by injection e with e; have e:j=wc.heap.size:=e; omega)⟩
             have HND:=Lib.hid (show RF wd O w0.heap.size 47 2 (.slice (some ⟨ng,0,none⟩) 3 nc) 3 (plC ms Q) from ⟨hod,fun g hg o => by
               injection hg with hg
               have hg:ng=g:=hg
               have:=HLC.out.hold.env.tx.lt _ o
               omega⟩)
             have HLD:=Lib.hid (HLC.out.later hbd)
             have HRD:=Lib.hid (HRC.out.away (by decide) (Away.below hbd))
             have HPD:=Lib.hid (HPC.out.later hbd)
             have HBD:=Lib.hid hbd
             have hxd:=HXC.out.below hbd hxl
             have HXD:=Lib.hid hxd
             have e0:wd.cell? ⟨wr.heap.size,0,none⟩=some (.int .i64 z):=hxd.cell 0
             have hsd:=hbd.size
             clear hod hgd hatd hbd hxd)))
        go_cut [11,21,22,23,24,25,26] from 120 to 233 (fun s11 s21 s22 _ _ _ _ wx => Switched n w0 B a d gb (.slice (some ⟨nb,0,none⟩) 3 nbc) (.slice (some ⟨og,0,none⟩) (ol + 1) oc) cs ol i (.slice (some ⟨lg,0,none⟩) 3 lc) (.slice (some ⟨ng,0,none⟩) 3 nc) s11 s21 s22 wx)
        case first =>
          rename_i J1 K1 hJ1 hM1
          obtain rfl | rfl | rfl | rfl:y=0 ∨ y=1 ∨ y=2 ∨ y=3:=by omega
          · refine kind0 n ol oc og d gb nb nbc lg lc ng nc wr.heap.size w0 B a cs i k c O T X L Q S ms z z1 z2 z3 z4 wc wd K1 _ _ _ _ _ _ _ _ _ _ _ _ _ _ _ _ _ _ _ _ _ _ _ _ _ _ _ _ _ _ _ _ _ _ _ _ _ _ _ _ _ _ _ _ _ _ _ _ _ _ _ _ _ _ _ _ _ _ _ _ _ _ _ _ _ _ _ _ _ _ _ _ _ _ _ _ _ _ _ _ _ _ _ _ _ _ _ _ _ _ _ _ _ _ _ _ _ _ _ _ _ _ _ _ _ _ _ _ _ _ _ _ _ _ _ _ _ _ _ _ _ _ _ _ _ _ _ _ _ _ _ _ _ _ _ _ _ _ _ _ _ _ _ _ _ _ _ _ _ _ _ _ _ _ _ _ _ _ _ _ _ _ _ _ _ _ _ _ _ _ _ _ _ _ _ _ _ _ _ _ _ _ _ _ _ _ _ _ _ _ _ _ _ _ _ _ _ _ _ _ _ _ _ _ _ _ _ _ _ _ _ _ _ _ _ _ _ _ _ _ _ _ _ _ _ _ _ _ _ _ _ _ _ _ _ _ _ _ _ _ _ _ _ _ _ _ _ _ _ _ _ _ _ _ _ _ _ _ _ _ _ _ _ _ _ _ _ _ _ _ _ _ _ _ _ _ _ _ _ hB h40 hk3 HLC.out HRC.out HPC.out HXC.out HBD.out HND.out hng (HKD.out.imp (fun e => by have:=HY.out; omega) id) HZ2.out HZ3.out HZ4.out ?_
            intro v11 v21 v22 v23 v24 v25 v26 v120 v121 v122 v123 v124 v125 v126 v127 v128 v129 v130 v131 v132 v133 v134 v135 v136 v137 v138 v139 v140 v141 v142 v143 v144 v145 v146 v147 v148 v149 v150 v151 v152 v153 v154 v155 v156 v157 v158 v159 v160 v161 v162 v163 v164 v165 v166 v167 v168 v169 v170 v171 v172 v173 v174 v175 v176 v177 v178 v179 v180 v181 v182 v183 v184 v185 v186 v187 v188 v189 v190 v191 v192 v193 v194 v195 v196 v197 v198 v199 v200 v201 v202 v203 v204 v205 v206 v207 v208 v209 v210 v211 v212 v213 v214 v215 v216 v217 v218 v219 v220 v221 v222 v223 v224 v225 v226 v227 v228 v229 v230 v231 v232 v233 w' hsw
            refine hM1 _ _ ?_
            go_meet
            exact hsw
          · refine kind1 n ol oc og d gb nb nbc lg lc ng nc wr.heap.size w0 B a cs i k c O T X L Q S ms z z1 z2 z3 z4 wc wd K1 _ _ _ _ _ _ _ _ _ _ _ _ _ _ _ _ _ _ _ _ _ _ _ _ _ _ _ _ _ _ _ _ _ _ _ _ _ _ _ _ _ _ _ _ _ _ _ _ _ _ _ _ _ _ _ _ _ _ _ _ _ _ _ _ _ _ _ _ _ _ _ _ _ _ _ _ _ _ _ _ _ _ _ _ _ _ _ _ _ _ _ _ _ _ _ _ _ _ _ _ _ _ _ _ _ _ _ _ _ _ _ _ _ _ _ _ _ _ _ _ _ _ _ _ _ _ _ _ _ _ _ _ _ _ _ _ _ _ _ _ _ _ _ _ _ _ _ _ _ _ _ _ _ _ _ _ _ _ _ _ _ _ _ _ _ _ _ _ _ _ _ _ _ _ _ _ _ _ _ _ _ _ _ _ _ _ _ _ _ _ _ _ _ _ _ _ _ _ _ _ _ _ _ _ _ _ _ _ _ _ _ _ _ _ _ _ _ _ _ _ _ _ _ _ _ _ _ _ _ _ _ _ _ _ _ _ _ _ _ _ _ _ _ _ _ _ _ _ _ _ _ _ _ _ _ _ _ _ _ _ _ _ _ _ _ _ _ _ _ _ _ _ _ _ _ _ _ _ _ hB h40 hk3 HLC.out HRC.out HPC.out HXC.out HBD.out HND.out hng (HKD.out.imp (fun e => by have:=HY.out; omega) id) HZ2.out HZ3.out HZ4.out ?_
            intro v11 v21 v22 v23 v24 v25 v26 v120 v121 v122 v123 v124 v125 v126 v127 v128 v129 v130 v131 v132 v133 v134 v135 v136 v137 v138 v139 v140 v141 v142 v143 v144 v145 v146 v147 v148 v149 v150 v151 v152 v153 v154 v155 v156 v157 v158 v159 v160 v161 v162 v163 v164 v165 v166 v167 v168 v169 v170 v171 v172 v173 v174 v175 v176 v177 v178 v179 v180 v181 v182 v183 v184 v185 v186 v187 v188 v189 v190 v191 v192 v193 v194 v195 v196 v197 v198 v199 v200 v201 v202 v203 v204 v205 v206 v207 v208 v209 v210 v211 v212 v213 v214 v215 v216 v217 v218 v219 v220 v221 v222 v223 v224 v225 v226 v227 v228 v229 v230 v231 v232 v233 w' hsw
            refine hM1 _ _ ?_
            go_meet
            exact hsw
          · refine kind2 n ol oc og d gb nb nbc lg lc ng nc wr.heap.size w0 B a cs i k c O T X L Q S ms z z1 z2 z3 z4 wc wd K1 _ _ _ _ _ _ _ _ _ _ _ _ _ _ _ _ _ _ _ _ _ _ _ _ _ _ _ _ _ _ _ _ _ _ _ _ _ _ _ _ _ _ _ _ _ _ _ _ _ _ _ _ _ _ _ _ _ _ _ _ _ _ _ _ _ _ _ _ _ _ _ _ _ _ _ _ _ _ _ _ _ _ _ _ _ _ _ _ _ _ _ _ _ _ _ _ _ _ _ _ _ _ _ _ _ _ _ _ _ _ _ _ _ _ _ _ _ _ _ _ _ _ _ _ _ _ _ _ _ _ _ _ _ _ _ _ _ _ _ _ _ _ _ _ _ _ _ _ _ _ _ _ _ _ _ _ _ _ _ _ _ _ _ _ _ _ _ _ _ _ _ _ _ _ _ _ _ _ _ _ _ _ _ _ _ _ _ _ _ _ _ _ _ _ _ _ _ _ _ _ _ _ _ _ _ _ _ _ _ _ _ _ _ _ _ _ _ _ _ _ _ _ _ _ _ _ _ _ _ _ _ _ _ _ _ _ _ _ _ _ _ _ _ _ _ _ _ _ _ _ _ _ _ _ _ _ _ _ _ _ _ _ _ _ _ _ _ _ _ _ _ _ _ _ _ _ _ _ _ hB h40 hk3 HLC.out HRC.out HPC.out HXC.out HBD.out HND.out hng (HKD.out.imp (fun e => by have:=HY.out; omega) id) HZ2.out HZ3.out HZ4.out ?_
            intro v11 v21 v22 v23 v24 v25 v26 v120 v121 v122 v123 v124 v125 v126 v127 v128 v129 v130 v131 v132 v133 v134 v135 v136 v137 v138 v139 v140 v141 v142 v143 v144 v145 v146 v147 v148 v149 v150 v151 v152 v153 v154 v155 v156 v157 v158 v159 v160 v161 v162 v163 v164 v165 v166 v167 v168 v169 v170 v171 v172 v173 v174 v175 v176 v177 v178 v179 v180 v181 v182 v183 v184 v185 v186 v187 v188 v189 v190 v191 v192 v193 v194 v195 v196 v197 v198 v199 v200 v201 v202 v203 v204 v205 v206 v207 v208 v209 v210 v211 v212 v213 v214 v215 v216 v217 v218 v219 v220 v221 v222 v223 v224 v225 v226 v227 v228 v229 v230 v231 v232 v233 w' hsw
            refine hM1 _ _ ?_
            go_meet
            exact hsw
          · refine kind3 n ol oc og d gb nb nbc lg lc ng nc wr.heap.size w0 B a cs i k c O T X L Q S ms z z1 z2 z3 z4 wc wd K1 _ _ _ _ _ _ _ _ _ _ _ _ _ _ _ _ _ _ _ _ _ _ _ _ _ _ _ _ _ _ _ _ _ _ _ _ _ _ _ _ _ _ _ _ _ _ _ _ _ _ _ _ _ _ _ _ _ _ _ _ _ _ _ _ _ _ _ _ _ _ _ _ _ _ _ _ _ _ _ _ _ _ _ _ _ _ _ _ _ _ _ _ _ _ _ _ _ _ _ _ _ _ _ _ _ _ _ _ _ _ _ _ _ _ _ _ _ _ _ _ _ _ _ _ _ _ _ _ _ _ _ _ _ _ _ _ _ _ _ _ _ _ _ _ _ _ _ _ _ _ _ _ _ _ _ _ _ _ _ _ _ _ _ _ _ _ _ _ _ _ _ _ _ _ _ _ _ _ _ _ _ _ _ _ _ _ _ _ _ _ _ _ _ _ _ _ _ _ _ _ _ _ _ _ _ _ _ _ _ _ _ _ _ _ _ _ _ _ _ _ _ _ _ _ _ _ _ _ _ _ _ _ _ _ _ _ _ _ _ _ _ _ _ _ _ _ _ _ _ _ _ _ _ _ _ _ _ _ _ _ _ _ _ _ _ _ _ _ _ _ _ _ _ _ _ _ _ _ _ hB h40 hk3 HLC.out HRC.out HPC.out HXC.out HBD.out HND.out hng (.inl rfl) HZ2.out HZ3.out HZ4.out ?_
            intro v11 v21 v22 v23 v24 v25 v26 v120 v121 v122 v123 v124 v125 v126 v127 v128 v129 v130 v131 v132 v133 v134 v135 v136 v137 v138 v139 v140 v141 v142 v143 v144 v145 v146 v147 v148 v149 v150 v151 v152 v153 v154 v155 v156 v157 v158 v159 v160 v161 v162 v163 v164 v165 v166 v167 v168 v169 v170 v171 v172 v173 v174 v175 v176 v177 v178 v179 v180 v181 v182 v183 v184 v185 v186 v187 v188 v189 v190 v191 v192 v193 v194 v195 v196 v197 v198 v199 v200 v201 v202 v203 v204 v205 v206 v207 v208 v209 v210 v211 v212 v213 v214 v215 v216 v217 v218 v219 v220 v221 v222 v223 v224 v225 v226 v227 v228 v229 v230 v231 v232 v233 w' hsw
            refine hM1 _ _ ?_
            go_meet
            exact hsw
        case rest =>
          obtain ⟨c2,O2,T2,X2,L2,Q2,S2',ms2,code,hs11,hs21,hs22,hlp2,hrow2,hpq2⟩:=hcut
          subst hs11 hs21 hs22
          obtain ⟨d10,d11,d12,d13,d14⟩:=geo5 hlp2.geo.1
          have hfree:=hlp2.hold.fs.free hlp2.hold.env.hn
          have HFR:=Lib.hid (sfree_any c2 wc O2 T2 hlp2.hold.env.tx n hlp2.hold.env.hn hlp2.hold.env.hN)
          obtain ⟨F,hF⟩:∃ F,freeIn (T2.view c2.D) n (ino n - 98)=F:=⟨_,rfl⟩
          obtain ⟨K3,hK3⟩:∃ K3,takes3 Q2=K3:=⟨_,rfl⟩
          obtain ⟨q,hq⟩:∃ q,k + 2=q:=⟨_,rfl⟩
          rw [hF] at HFR hfree
          rw [hK3] at hfree
          have hdn:=(geo_facts hlp2.hold.env.hn).2.1
          have v1:=i64_wr ((n:Int) - (dat n:Int)) (by omega)
          have v2:=i64_wr ((n:Int) - (dat n:Int) - (K3:Int)) (by omega)
          have v3:(n:Int) - (dat n:Int) - (K3:Int)=(F:Int):=by omega
          have v4:=i64_wr ((i:Int) + 1) (by omega)
          have v5:=i64_wr (F:Int) (by omega)
          have k0i:(0:Int) ≤ (k:Int):=by omega
          have k3i:(k:Int) < 3:=by omega
          have HLP2:=Lib.hid hlp2
          have HPQ2:=Lib.hid hpq2
          have HFS:=Lib.hid hfree
          have HK3:=Lib.hid hK3
          have HQQ:=Lib.hid hq
          clear hfree hlp2 hpq2 hF hdn hK3 hq
          by_cases e:code=0
          · rw [if_pos e] at hrow2
            subst e
            have HROW:=Lib.hid hrow2
            have c0c:=(PRow.cell hrow2.1 k hk3).1
            have c1c:=(PRow.cell hrow2.1 k hk3).2
            have cnb:wc.cell? ⟨nb,k,none⟩=some (.int .i64 (q:Int)):=by
              rw [World.ownsRow.cellAt HLP2.out.nums.1 k (by omega),← HQQ.out]
              obtain rfl | rfl | rfl:k=0 ∨ k=1 ∨ k=2:=by omega
              all_goals rfl
            clear hrow2
            go_upto_region 64 with (first
              | (go_at_call 22
                 refine HFR.out.mono ?_
                 rintro e w5 ⟨rfl,hb5⟩
                 have HB5:=Lib.hid hb5
                 have hlt5:=hb5.size
                 obtain ⟨d10,d11,d12,d13,d14⟩:=geo5 (HLP2.out.geo.1.below hb5 HLP2.out.geo.1.lt)
                 have c0d:=((hb5.cell (p:=⟨ng,k * 2,none⟩) (block_lt_of_cell c0c)).trans c0c)
                 have c1d:=((hb5.cell (p:=⟨ng,k * 2 + 1,none⟩) (block_lt_of_cell c1c)).trans c1c)
                 have cnd:=((hb5.cell (p:=⟨nb,k,none⟩) (block_lt_of_cell cnb)).trans cnb)
                 clear hb5))
            have HALL:=Lib.hid (fun X (b:Below wc.heap.size wc X) => all_any X O2 w0.heap.size ms2 Q2 (.slice (some ⟨ng,0,none⟩) 3 nc) (HROW.out.away (by decide) (Away.below b)).1 (HPQ2.out.later b))
            have HTOLD:=Lib.hid (fun X (b:Below wc.heap.size wc X) => told_at X (HLP2.out.later b) (HPQ2.out.later b) k hk3)
            have HGEO:=Lib.hid HLP2.out.geo.1
            rw [HK3.out] at HALL
            rw [HQQ.out] at HTOLD
            go_region_held3 (fun w' => w'.cell? ⟨gb,0,none⟩=some (.int .i64 (n:Int)) ∧ w'.cell? ⟨gb,1,none⟩=some (.int .i64 98) ∧ w'.cell? ⟨gb,2,none⟩=some (.int .i64 (ino n:Int)) ∧ w'.cell? ⟨gb,3,none⟩=some (.int .i64 (dat n:Int)) ∧ w'.cell? ⟨gb,4,none⟩=some (.int .i64 (cnt n:Int)) ∧ w'.cell? ⟨nb,k,none⟩=some (.int .i64 (q:Int)) ∧ w'.cell? ⟨ng,k * 2,none⟩=some (.map (some (ms2 k))) ∧ w'.cell? ⟨ng,k * 2 + 1,none⟩=some (.int .i64 ((Q2 k).size:Int))) (first | exact ⟨d10,d11,d12,d13,d14,cnd,c0d,c1d⟩ | exact HSK.out | exact HSL.out) (first
              | (go_at_call 15
                 refine (HALL.out _ HB5.out.drew).mono ?_
                 rintro e w6 ⟨rfl,hb6⟩
                 have HB6:=Lib.hid (HB5.out.drew.trans (hb6.mono hlt5))
                 have HSK:=Lib.hid (show (fun w':World => w'.cell? ⟨gb,0,none⟩=some (.int .i64 (n:Int)) ∧ w'.cell? ⟨gb,1,none⟩=some (.int .i64 98) ∧ w'.cell? ⟨gb,2,none⟩=some (.int .i64 (ino n:Int)) ∧ w'.cell? ⟨gb,3,none⟩=some (.int .i64 (dat n:Int)) ∧ w'.cell? ⟨gb,4,none⟩=some (.int .i64 (cnt n:Int)) ∧ w'.cell? ⟨nb,k,none⟩=some (.int .i64 (q:Int)) ∧ w'.cell? ⟨ng,k * 2,none⟩=some (.map (some (ms2 k))) ∧ w'.cell? ⟨ng,k * 2 + 1,none⟩=some (.int .i64 ((Q2 k).size:Int))) w6 from ⟨(hb6.cell (p:=⟨gb,0,none⟩) (block_lt_of_cell d10)).trans d10,(hb6.cell (p:=⟨gb,1,none⟩) (block_lt_of_cell d11)).trans d11,(hb6.cell (p:=⟨gb,2,none⟩) (block_lt_of_cell d12)).trans d12,(hb6.cell (p:=⟨gb,3,none⟩) (block_lt_of_cell d13)).trans d13,(hb6.cell (p:=⟨gb,4,none⟩) (block_lt_of_cell d14)).trans d14,(hb6.cell (p:=⟨nb,k,none⟩) (block_lt_of_cell cnd)).trans cnd,(hb6.cell (p:=⟨ng,k * 2,none⟩) (block_lt_of_cell c0d)).trans c0d,(hb6.cell (p:=⟨ng,k * 2 + 1,none⟩) (block_lt_of_cell c1d)).trans c1d⟩)
                 clear hb6)
              | (go_at_call 23
                 refine (HTOLD.out _ HB6.out).mono ?_
                 rintro e w7 ⟨rfl,hb7⟩
                 have HB7:=Lib.hid (HB6.out.trans (hb7.mono HB6.out.size))
                 have HSL:=Lib.hid (show (fun w':World => w'.cell? ⟨gb,0,none⟩=some (.int .i64 (n:Int)) ∧ w'.cell? ⟨gb,1,none⟩=some (.int .i64 98) ∧ w'.cell? ⟨gb,2,none⟩=some (.int .i64 (ino n:Int)) ∧ w'.cell? ⟨gb,3,none⟩=some (.int .i64 (dat n:Int)) ∧ w'.cell? ⟨gb,4,none⟩=some (.int .i64 (cnt n:Int)) ∧ w'.cell? ⟨nb,k,none⟩=some (.int .i64 (q:Int)) ∧ w'.cell? ⟨ng,k * 2,none⟩=some (.map (some (ms2 k))) ∧ w'.cell? ⟨ng,k * 2 + 1,none⟩=some (.int .i64 ((Q2 k).size:Int))) w7 from ⟨(hb7.cell (p:=⟨gb,0,none⟩) (block_lt_of_cell HSK.out.1)).trans HSK.out.1,(hb7.cell (p:=⟨gb,1,none⟩) (block_lt_of_cell HSK.out.2.1)).trans HSK.out.2.1,(hb7.cell (p:=⟨gb,2,none⟩) (block_lt_of_cell HSK.out.2.2.1)).trans HSK.out.2.2.1,(hb7.cell (p:=⟨gb,3,none⟩) (block_lt_of_cell HSK.out.2.2.2.1)).trans HSK.out.2.2.2.1,(hb7.cell (p:=⟨gb,4,none⟩) (block_lt_of_cell HSK.out.2.2.2.2.1)).trans HSK.out.2.2.2.2.1,(hb7.cell (p:=⟨nb,k,none⟩) (block_lt_of_cell HSK.out.2.2.2.2.2.1)).trans HSK.out.2.2.2.2.2.1,(hb7.cell (p:=⟨ng,k * 2,none⟩) (block_lt_of_cell HSK.out.2.2.2.2.2.2.1)).trans HSK.out.2.2.2.2.2.2.1,(hb7.cell (p:=⟨ng,k * 2 + 1,none⟩) (block_lt_of_cell HSK.out.2.2.2.2.2.2.2)).trans HSK.out.2.2.2.2.2.2.2⟩)
                 clear hb7))
            all_goals (
              have HREL2:=Lib.hid (show Rel2 n w0 B a d gb (.slice (some ⟨nb,0,none⟩) 3 nbc) (.slice (some ⟨og,0,none⟩) (ol + 1) oc) cs ol (.pointer (some ⟨c2.t,0,none⟩)) (.slice (some ⟨ng,0,none⟩) 3 nc) (.int .i64 ((i + 1:Nat):Int)) w7 from ⟨i + 1,c2,O2,T2,X2,L2,Q2,S2',ms2,rfl,by omega,rfl,HLP2.out.later HB7.out,HROW.out.away (by decide) (Away.below HB7.out),HPQ2.out.later HB7.out⟩)
              have HI1:=Lib.hid (show ((i:Int) + 1)=((i + 1:Nat):Int) by omega)
              go_wp2_with fail)
            all_goals (
              refine ⟨?_,?_⟩
              · unfold WI2
                repeat apply Exists.intro
                refine ⟨HREL2.out,?_⟩
                rw [HI1.out]
              · show 40 - ((i:Int) + 1).toNat < 40 - ((i:Int)).toNat
                omega)
          · rw [if_neg e] at hrow2
            have hne:¬ (code:Int)=0:=by omega
            have HROW:=Lib.hid hrow2
            have c0c:=(PRow.cell hrow2.1 k hk3).1
            have c1c:=(PRow.cell hrow2.1 k hk3).2
            have cnb:wc.cell? ⟨nb,k,none⟩=some (.int .i64 (q:Int)):=by
              rw [World.ownsRow.cellAt HLP2.out.nums.1 k (by omega),← HQQ.out]
              obtain rfl | rfl | rfl:k=0 ∨ k=1 ∨ k=2:=by omega
              all_goals rfl
            clear hrow2
            go_upto_region 64 with (first
              | (go_at_call 22
                 refine HFR.out.mono ?_
                 rintro e w5 ⟨rfl,hb5⟩
                 have HB5:=Lib.hid hb5
                 have hlt5:=hb5.size
                 obtain ⟨d10,d11,d12,d13,d14⟩:=geo5 (HLP2.out.geo.1.below hb5 HLP2.out.geo.1.lt)
                 have c0d:=((hb5.cell (p:=⟨lg,k * 2,none⟩) (block_lt_of_cell c0c)).trans c0c)
                 have c1d:=((hb5.cell (p:=⟨lg,k * 2 + 1,none⟩) (block_lt_of_cell c1c)).trans c1c)
                 have cnd:=((hb5.cell (p:=⟨nb,k,none⟩) (block_lt_of_cell cnb)).trans cnb)
                 clear hb5))
            have HALL:=Lib.hid (fun X (b:Below wc.heap.size wc X) => all_any X O2 w0.heap.size ms2 Q2 (.slice (some ⟨lg,0,none⟩) 3 lc) (HROW.out.away (by decide) (Away.below b)).1 (HPQ2.out.later b))
            have HTOLD:=Lib.hid (fun X (b:Below wc.heap.size wc X) => told_at X (HLP2.out.later b) (HPQ2.out.later b) k hk3)
            have HGEO:=Lib.hid HLP2.out.geo.1
            rw [HK3.out] at HALL
            rw [HQQ.out] at HTOLD
            go_region_held3 (fun w' => w'.cell? ⟨gb,0,none⟩=some (.int .i64 (n:Int)) ∧ w'.cell? ⟨gb,1,none⟩=some (.int .i64 98) ∧ w'.cell? ⟨gb,2,none⟩=some (.int .i64 (ino n:Int)) ∧ w'.cell? ⟨gb,3,none⟩=some (.int .i64 (dat n:Int)) ∧ w'.cell? ⟨gb,4,none⟩=some (.int .i64 (cnt n:Int)) ∧ w'.cell? ⟨nb,k,none⟩=some (.int .i64 (q:Int)) ∧ w'.cell? ⟨lg,k * 2,none⟩=some (.map (some (ms2 k))) ∧ w'.cell? ⟨lg,k * 2 + 1,none⟩=some (.int .i64 ((Q2 k).size:Int))) (first | exact ⟨d10,d11,d12,d13,d14,cnd,c0d,c1d⟩ | exact HSK.out | exact HSL.out) (first
              | (go_at_call 15
                 refine (HALL.out _ HB5.out.drew).mono ?_
                 rintro e w6 ⟨rfl,hb6⟩
                 have HB6:=Lib.hid (HB5.out.drew.trans (hb6.mono hlt5))
                 have HSK:=Lib.hid (show (fun w':World => w'.cell? ⟨gb,0,none⟩=some (.int .i64 (n:Int)) ∧ w'.cell? ⟨gb,1,none⟩=some (.int .i64 98) ∧ w'.cell? ⟨gb,2,none⟩=some (.int .i64 (ino n:Int)) ∧ w'.cell? ⟨gb,3,none⟩=some (.int .i64 (dat n:Int)) ∧ w'.cell? ⟨gb,4,none⟩=some (.int .i64 (cnt n:Int)) ∧ w'.cell? ⟨nb,k,none⟩=some (.int .i64 (q:Int)) ∧ w'.cell? ⟨lg,k * 2,none⟩=some (.map (some (ms2 k))) ∧ w'.cell? ⟨lg,k * 2 + 1,none⟩=some (.int .i64 ((Q2 k).size:Int))) w6 from ⟨(hb6.cell (p:=⟨gb,0,none⟩) (block_lt_of_cell d10)).trans d10,(hb6.cell (p:=⟨gb,1,none⟩) (block_lt_of_cell d11)).trans d11,(hb6.cell (p:=⟨gb,2,none⟩) (block_lt_of_cell d12)).trans d12,(hb6.cell (p:=⟨gb,3,none⟩) (block_lt_of_cell d13)).trans d13,(hb6.cell (p:=⟨gb,4,none⟩) (block_lt_of_cell d14)).trans d14,(hb6.cell (p:=⟨nb,k,none⟩) (block_lt_of_cell cnd)).trans cnd,(hb6.cell (p:=⟨lg,k * 2,none⟩) (block_lt_of_cell c0d)).trans c0d,(hb6.cell (p:=⟨lg,k * 2 + 1,none⟩) (block_lt_of_cell c1d)).trans c1d⟩)
                 clear hb6)
              | (go_at_call 23
                 refine (HTOLD.out _ HB6.out).mono ?_
                 rintro e w7 ⟨rfl,hb7⟩
                 have HB7:=Lib.hid (HB6.out.trans (hb7.mono HB6.out.size))
                 have HSL:=Lib.hid (show (fun w':World => w'.cell? ⟨gb,0,none⟩=some (.int .i64 (n:Int)) ∧ w'.cell? ⟨gb,1,none⟩=some (.int .i64 98) ∧ w'.cell? ⟨gb,2,none⟩=some (.int .i64 (ino n:Int)) ∧ w'.cell? ⟨gb,3,none⟩=some (.int .i64 (dat n:Int)) ∧ w'.cell? ⟨gb,4,none⟩=some (.int .i64 (cnt n:Int)) ∧ w'.cell? ⟨nb,k,none⟩=some (.int .i64 (q:Int)) ∧ w'.cell? ⟨lg,k * 2,none⟩=some (.map (some (ms2 k))) ∧ w'.cell? ⟨lg,k * 2 + 1,none⟩=some (.int .i64 ((Q2 k).size:Int))) w7 from ⟨(hb7.cell (p:=⟨gb,0,none⟩) (block_lt_of_cell HSK.out.1)).trans HSK.out.1,(hb7.cell (p:=⟨gb,1,none⟩) (block_lt_of_cell HSK.out.2.1)).trans HSK.out.2.1,(hb7.cell (p:=⟨gb,2,none⟩) (block_lt_of_cell HSK.out.2.2.1)).trans HSK.out.2.2.1,(hb7.cell (p:=⟨gb,3,none⟩) (block_lt_of_cell HSK.out.2.2.2.1)).trans HSK.out.2.2.2.1,(hb7.cell (p:=⟨gb,4,none⟩) (block_lt_of_cell HSK.out.2.2.2.2.1)).trans HSK.out.2.2.2.2.1,(hb7.cell (p:=⟨nb,k,none⟩) (block_lt_of_cell HSK.out.2.2.2.2.2.1)).trans HSK.out.2.2.2.2.2.1,(hb7.cell (p:=⟨lg,k * 2,none⟩) (block_lt_of_cell HSK.out.2.2.2.2.2.2.1)).trans HSK.out.2.2.2.2.2.2.1,(hb7.cell (p:=⟨lg,k * 2 + 1,none⟩) (block_lt_of_cell HSK.out.2.2.2.2.2.2.2)).trans HSK.out.2.2.2.2.2.2.2⟩)
                 clear hb7))
            all_goals (
              have HREL2:=Lib.hid (show Rel2 n w0 B a d gb (.slice (some ⟨nb,0,none⟩) 3 nbc) (.slice (some ⟨og,0,none⟩) (ol + 1) oc) cs ol (.pointer (some ⟨c2.t,0,none⟩)) (.slice (some ⟨lg,0,none⟩) 3 lc) (.int .i64 ((i + 1:Nat):Int)) w7 from ⟨i + 1,c2,O2,T2,X2,L2,Q2,S2',ms2,rfl,by omega,rfl,HLP2.out.later HB7.out,HROW.out.away (by decide) (Away.below HB7.out),HPQ2.out.later HB7.out⟩)
              have HI1:=Lib.hid (show ((i:Int) + 1)=((i + 1:Nat):Int) by omega)
              go_wp2_with fail)
            all_goals (
              refine ⟨?_,?_⟩
              · unfold WI2
                repeat apply Exists.intro
                refine ⟨HREL2.out,?_⟩
                rw [HI1.out]
              · show 40 - ((i:Int) + 1).toNat < 40 - ((i:Int)).toNat
                omega)
    · have hl2:¬ (i:Int) < 40:=by omega
      go_wp2_with fail
      refine HEX.out _ _ ?_
      unfold WI2
      repeat apply Exists.intro
      exact ⟨HREL.out,rfl⟩
  · have hl1:¬ (i:Int) < (ol:Int) + 1:=by omega
    go_wp2_with fail
    refine HEX.out _ _ ?_
    unfold WI2
    repeat apply Exists.intro
    exact ⟨HREL.out,rfl⟩
end Go.Proofs.YthkijogloebdoaaGreatDoor
end
