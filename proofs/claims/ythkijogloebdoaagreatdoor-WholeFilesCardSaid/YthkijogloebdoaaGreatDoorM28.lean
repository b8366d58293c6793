/-
  WholeFiles, the texts Wfe Wfc Frame Args Wfg Widths: lemmas for the proof that three files on one disk are plain rows of bytes. No conditions.
-/
import Derived.Test.YthkijogloebdoaaGreatDoorM27
import Derived.Test.YthkijogloebdoaaGreatDoorM01
import Derived.Test.YthkijogloebdoaaGreatDoorM25
import Derived.Test.YthkijogloebdoaaGreatDoorM02
import Derived.Deep.RegionHeld3
import Derived.Test.YthkijogloebdoaaGreatDoorRows
import Derived.WalkKit
import Derived.ProofKit
import Derived.OpenShut
import Derived.Deep.DeepHandedRow
import Derived.SizedLaws
import Derived.Deep.Slices
import Derived.Lib.SmallJoins
import Derived.Deep.Fields
import Derived.Lib.LaidTab
set_option linter.unusedVariables false
set_option linter.unusedSimpArgs false
section
set_option maxRecDepth 1000000
namespace Go.Proofs.YthkijogloebdoaaGreatDoor
open Go.RowKit Go.Maps Rec Gp Fs
set_option maxHeartbeats 6400000 in
theorem loop2 (n ol oc og d gb:Nat)(nv tv lv iv:Value)(w0:World)(B a:Nat)(cs:List Value)(wr:World)(Q0:Exit → Act → World → Prop)(c6 c8 c9 c14 c30 c31 c32 c33 c34 c35 c36 c37 c38 c39 c40 c41 c42 c43 c44 c45 c46 c47 c48 c49 c50 c51 c52 c53 c54 c55 c56 c57 c58 c59 c60 c61 c88 c89 c90 c91:Value)(u4 u15 u16 u18 u19 u20 u21 u22 u23 u24 u25 u26 u27 u28 u62 u63 u64 u65 u66 u67 u68 u69 u70 u71 u72 u73 u74 u75 u76 u77 u78 u79 u80 u81 u82 u83 u84 u85 u86 u87 u92 u93 u94 u95 u96 u97 u98 u99 u100 u101 u102 u103 u104 u105 u106 u107 u108 u109 u110 u111 u112 u113 u114 u115 u116 u117 u118 u119 u120 u121 u122 u123 u124 u125 u126 u127 u128 u129 u130 u131 u132 u133 u134 u135 u136 u137 u138 u139 u140 u141 u142 u143 u144 u145 u146 u147 u148 u149 u150 u151 u152 u153 u154 u155 u156 u157 u158 u159 u160 u161 u162 u163 u164 u165 u166 u167 u168 u169 u170 u171 u172 u173 u174 u175 u176 u177 u178 u179 u180 u181 u182 u183 u184 u185 u186 u187 u188 u189 u190 u191 u192 u193 u194 u195 u196 u197 u198 u199 u200 u201 u202 u203 u204 u205 u206 u207 u208 u209 u210 u211 u212 u213 u214 u215 u216 u217 u218 u219 u220 u221 u222 u223 u224 u225 u226 u227 u228 u229 u230 u231 u232 u233 u234 u235 u236 u237 u238 u239 u240 u241 u242 u243 u244 u245 u246 u247 u248 u249 u250 u251 u252 u253 u254 u255 u256 u257 u258 u259 u260 u261 u262 u263 u264 u265 u266 u267 u268 u269 u270 u271:Value)
    (hB:w0.heap.size ≤ B)
    (hops:∀ i,i < ol + 1 → ∀ j,j < 5 → (first5 ++ cs)[i * 5 + j]? = some (.int .i64 (opAt cs i j)) ∧ -9223372036854775808 ≤ opAt cs i j ∧ opAt cs i j ≤ 9223372036854775807)
    (hrel:Rel2 n w0 B a d gb nv (.slice (some ⟨og,0,none⟩) (ol + 1) oc) cs ol tv lv iv wr)
    (hexit:∀ (tv lv iv u4 u15 u16 u18 u19 u20 u21 u22 u23 u24 u25 u26 u27 u28 u62 u63 u64 u65 u66 u67 u68 u69 u70 u71 u72 u73 u74 u75 u76 u77 u78 u79 u80 u81 u82 u83 u84 u85 u86 u87 u92 u93 u94 u95 u96 u97 u98 u99 u100 u101 u102 u103 u104 u105 u106 u107 u108 u109 u110 u111 u112 u113 u114 u115 u116 u117 u118 u119 u120 u121 u122 u123 u124 u125 u126 u127 u128 u129 u130 u131 u132 u133 u134 u135 u136 u137 u138 u139 u140 u141 u142 u143 u144 u145 u146 u147 u148 u149 u150 u151 u152 u153 u154 u155 u156 u157 u158 u159 u160 u161 u162 u163 u164 u165 u166 u167 u168 u169 u170 u171 u172 u173 u174 u175 u176 u177 u178 u179 u180 u181 u182 u183 u184 u185 u186 u187 u188 u189 u190 u191 u192 u193 u194 u195 u196 u197 u198 u199 u200 u201 u202 u203 u204 u205 u206 u207 u208 u209 u210 u211 u212 u213 u214 u215 u216 u217 u218 u219 u220 u221 u222 u223 u224 u225 u226 u227 u228 u229 u230 u231 u232 u233 u234 u235 u236 u237 u238 u239 u240 u241 u242 u243 u244 u245 u246 u247 u248 u249 u250 u251 u252 u253 u254 u255 u256 u257 u258 u259 u260 u261 u262 u263 u264 u265 u266 u267 u268 u269 u270 u271:Value)(w':World),Rel2 n w0 B a d gb nv (.slice (some ⟨og,0,none⟩) (ol + 1) oc) cs ol tv lv iv w' → Q0 (.exit 2) ⟨#[.int .i64 (n:Int),.slice (some ⟨og,0,none⟩) (ol + 1) oc,undef,undef,u4,.pointer (some ⟨d,0,none⟩),c6,.pointer (some ⟨gb,0,none⟩),c8,c9,.int .i64 (dat n:Int),tv,lv,nv,c14,u15,u16,iv,u18,u19,u20,u21,u22,u23,u24,u25,u26,u27,u28,undef,c30,c31,c32,c33,c34,c35,c36,c37,c38,c39,c40,c41,c42,c43,c44,c45,c46,c47,c48,c49,c50,c51,c52,c53,c54,c55,c56,c57,c58,c59,c60,c61,u62,u63,u64,u65,u66,u67,u68,u69,u70,u71,u72,u73,u74,u75,u76,u77,u78,u79,u80,u81,u82,u83,u84,u85,u86,u87,c88,c89,c90,c91,u92,u93,u94,u95,u96,u97,u98,u99,u100,u101,u102,u103,u104,u105,u106,u107,u108,u109,u110,u111,u112,u113,u114,u115,u116,u117,u118,u119,u120,u121,u122,u123,u124,u125,u126,u127,u128,u129,u130,u131,u132,u133,u134,u135,u136,u137,u138,u139,u140,u141,u142,u143,u144,u145,u146,u147,u148,u149,u150,u151,u152,u153,u154,u155,u156,u157,u158,u159,u160,u161,u162,u163,u164,u165,u166,u167,u168,u169,u170,u171,u172,u173,u174,u175,u176,u177,u178,u179,u180,u181,u182,u183,u184,u185,u186,u187,u188,u189,u190,u191,u192,u193,u194,u195,u196,u197,u198,u199,u200,u201,u202,u203,u204,u205,u206,u207,u208,u209,u210,u211,u212,u213,u214,u215,u216,u217,u218,u219,u220,u221,u222,u223,u224,u225,u226,u227,u228,u229,u230,u231,u232,u233,u234,u235,u236,u237,u238,u239,u240,u241,u242,u243,u244,u245,u246,u247,u248,u249,u250,u251,u252,u253,u254,u255,u256,u257,u258,u259,u260,u261,u262,u263,u264,u265,u266,u267,u268,u269,u270,u271,undef,undef,undef,undef,undef,undef,undef,undef,undef,undef,undef,undef,undef,undef,undef,undef,undef,undef,undef,undef,undef],[]⟩ w') :
    Code.wp Tryz.prog (.loop body2) Q0 ⟨#[.int .i64 (n:Int),.slice (some ⟨og,0,none⟩) (ol + 1) oc,undef,undef,u4,.pointer (some ⟨d,0,none⟩),c6,.pointer (some ⟨gb,0,none⟩),c8,c9,.int .i64 (dat n:Int),tv,lv,nv,c14,u15,u16,iv,u18,u19,u20,u21,u22,u23,u24,u25,u26,u27,u28,undef,c30,c31,c32,c33,c34,c35,c36,c37,c38,c39,c40,c41,c42,c43,c44,c45,c46,c47,c48,c49,c50,c51,c52,c53,c54,c55,c56,c57,c58,c59,c60,c61,u62,u63,u64,u65,u66,u67,u68,u69,u70,u71,u72,u73,u74,u75,u76,u77,u78,u79,u80,u81,u82,u83,u84,u85,u86,u87,c88,c89,c90,c91,u92,u93,u94,u95,u96,u97,u98,u99,u100,u101,u102,u103,u104,u105,u106,u107,u108,u109,u110,u111,u112,u113,u114,u115,u116,u117,u118,u119,u120,u121,u122,u123,u124,u125,u126,u127,u128,u129,u130,u131,u132,u133,u134,u135,u136,u137,u138,u139,u140,u141,u142,u143,u144,u145,u146,u147,u148,u149,u150,u151,u152,u153,u154,u155,u156,u157,u158,u159,u160,u161,u162,u163,u164,u165,u166,u167,u168,u169,u170,u171,u172,u173,u174,u175,u176,u177,u178,u179,u180,u181,u182,u183,u184,u185,u186,u187,u188,u189,u190,u191,u192,u193,u194,u195,u196,u197,u198,u199,u200,u201,u202,u203,u204,u205,u206,u207,u208,u209,u210,u211,u212,u213,u214,u215,u216,u217,u218,u219,u220,u221,u222,u223,u224,u225,u226,u227,u228,u229,u230,u231,u232,u233,u234,u235,u236,u237,u238,u239,u240,u241,u242,u243,u244,u245,u246,u247,u248,u249,u250,u251,u252,u253,u254,u255,u256,u257,u258,u259,u260,u261,u262,u263,u264,u265,u266,u267,u268,u269,u270,u271,undef,undef,undef,undef,undef,undef,undef,undef,undef,undef,undef,undef,undef,undef,undef,undef,undef,undef,undef,undef,undef],[]⟩ wr:=by
  have hex:∀ a' w',WI2 (Rel2 n w0 B a d gb nv (.slice (some ⟨og,0,none⟩) (ol + 1) oc) cs ol) n ol oc og d gb nv c6 c8 c9 c14 c30 c31 c32 c33 c34 c35 c36 c37 c38 c39 c40 c41 c42 c43 c44 c45 c46 c47 c48 c49 c50 c51 c52 c53 c54 c55 c56 c57 c58 c59 c60 c61 c88 c89 c90 c91 a' w' → Q0 (.exit 2) a' w':=by
    intro a' w' hI
    unfold WI2 at hI
    obtain ⟨tv,hI⟩:=hI
    obtain ⟨lv,hI⟩:=hI
    obtain ⟨iv,hI⟩:=hI
    obtain ⟨u4,hI⟩:=hI
    obtain ⟨u15,hI⟩:=hI
    obtain ⟨u16,hI⟩:=hI
    obtain ⟨u18,hI⟩:=hI
    obtain ⟨u19,hI⟩:=hI
    obtain ⟨u20,hI⟩:=hI
    obtain ⟨u21,hI⟩:=hI
    obtain ⟨u22,hI⟩:=hI
    obtain ⟨u23,hI⟩:=hI
    obtain ⟨u24,hI⟩:=hI
    obtain ⟨u25,hI⟩:=hI
    obtain ⟨u26,hI⟩:=hI
    obtain ⟨u27,hI⟩:=hI
    obtain ⟨u28,hI⟩:=hI
    obtain ⟨u62,hI⟩:=hI
    obtain ⟨u63,hI⟩:=hI
    obtain ⟨u64,hI⟩:=hI
    obtain ⟨u65,hI⟩:=hI
    obtain ⟨u66,hI⟩:=hI
    obtain ⟨u67,hI⟩:=hI
    obtain ⟨u68,hI⟩:=hI
    obtain ⟨u69,hI⟩:=hI
    obtain ⟨u70,hI⟩:=hI
    obtain ⟨u71,hI⟩:=hI
    obtain ⟨u72,hI⟩:=hI
    obtain ⟨u73,hI⟩:=hI
    obtain ⟨u74,hI⟩:=hI
    obtain ⟨u75,hI⟩:=hI
    obtain ⟨u76,hI⟩:=hI
    obtain ⟨u77,hI⟩:=hI
    obtain ⟨u78,hI⟩:=hI
    obtain ⟨u79,hI⟩:=hI
    obtain ⟨u80,hI⟩:=hI
    obtain ⟨u81,hI⟩:=hI
    obtain ⟨u82,hI⟩:=hI
    obtain ⟨u83,hI⟩:=hI
    obtain ⟨u84,hI⟩:=hI
    obtain ⟨u85,hI⟩:=hI
    obtain ⟨u86,hI⟩:=hI
    obtain ⟨u87,hI⟩:=hI
    obtain ⟨u92,hI⟩:=hI
    obtain ⟨u93,hI⟩:=hI
    obtain ⟨u94,hI⟩:=hI
    obtain ⟨u95,hI⟩:=hI
    obtain ⟨u96,hI⟩:=hI
    obtain ⟨u97,hI⟩:=hI
    obtain ⟨u98,hI⟩:=hI
    obtain ⟨u99,hI⟩:=hI
    obtain ⟨u100,hI⟩:=hI
    obtain ⟨u101,hI⟩:=hI
    obtain ⟨u102,hI⟩:=hI
    obtain ⟨u103,hI⟩:=hI
    obtain ⟨u104,hI⟩:=hI
    obtain ⟨u105,hI⟩:=hI
    obtain ⟨u106,hI⟩:=hI
    obtain ⟨u107,hI⟩:=hI
    obtain ⟨u108,hI⟩:=hI
    obtain ⟨u109,hI⟩:=hI
    obtain ⟨u110,hI⟩:=hI
    obtain ⟨u111,hI⟩:=hI
    obtain ⟨u112,hI⟩:=hI
    obtain ⟨u113,hI⟩:=hI
    obtain ⟨u114,hI⟩:=hI
    obtain ⟨u115,hI⟩:=hI
    obtain ⟨u116,hI⟩:=hI
    obtain ⟨u117,hI⟩:=hI
    obtain ⟨u118,hI⟩:=hI
    obtain ⟨u119,hI⟩:=hI
    obtain ⟨u120,hI⟩:=hI
    obtain ⟨u121,hI⟩:=hI
    obtain ⟨u122,hI⟩:=hI
    obtain ⟨u123,hI⟩:=hI
    obtain ⟨u124,hI⟩:=hI
    obtain ⟨u125,hI⟩:=hI
    obtain ⟨u126,hI⟩:=hI
    obtain ⟨u127,hI⟩:=hI
    obtain ⟨u128,hI⟩:=hI
    obtain ⟨u129,hI⟩:=hI
    obtain ⟨u130,hI⟩:=hI
    obtain ⟨u131,hI⟩:=hI
    obtain ⟨u132,hI⟩:=hI
    obtain ⟨u133,hI⟩:=hI
    obtain ⟨u134,hI⟩:=hI
    obtain ⟨u135,hI⟩:=hI
    obtain ⟨u136,hI⟩:=hI
    obtain ⟨u137,hI⟩:=hI
    obtain ⟨u138,hI⟩:=hI
    obtain ⟨u139,hI⟩:=hI
    obtain ⟨u140,hI⟩:=hI
    obtain ⟨u141,hI⟩:=hI
    obtain ⟨u142,hI⟩:=hI
    obtain ⟨u143,hI⟩:=hI
    obtain ⟨u144,hI⟩:=hI
    obtain ⟨u145,hI⟩:=hI
    obtain ⟨u146,hI⟩:=hI
    obtain ⟨u147,hI⟩:=hI
    obtain ⟨u148,hI⟩:=hI
    obtain ⟨u149,hI⟩:=hI
    obtain ⟨u150,hI⟩:=hI
    obtain ⟨u151,hI⟩:=hI
    obtain ⟨u152,hI⟩:=hI
    obtain ⟨u153,hI⟩:=hI
    obtain ⟨u154,hI⟩:=hI
    obtain ⟨u155,hI⟩:=hI
    obtain ⟨u156,hI⟩:=hI
    obtain ⟨u157,hI⟩:=hI
    obtain ⟨u158,hI⟩:=hI
    obtain ⟨u159,hI⟩:=hI
    obtain ⟨u160,hI⟩:=hI
    obtain ⟨u161,hI⟩:=hI
    obtain ⟨u162,hI⟩:=hI
    obtain ⟨u163,hI⟩:=hI
    obtain ⟨u164,hI⟩:=hI
    obtain ⟨u165,hI⟩:=hI
    obtain ⟨u166,hI⟩:=hI
    obtain ⟨u167,hI⟩:=hI
    obtain ⟨u168,hI⟩:=hI
    obtain ⟨u169,hI⟩:=hI
    obtain ⟨u170,hI⟩:=hI
    obtain ⟨u171,hI⟩:=hI
    obtain ⟨u172,hI⟩:=hI
    obtain ⟨u173,hI⟩:=hI
    obtain ⟨u174,hI⟩:=hI
    obtain ⟨u175,hI⟩:=hI
    obtain ⟨u176,hI⟩:=hI
    obtain ⟨u177,hI⟩:=hI
    obtain ⟨u178,hI⟩:=hI
    obtain ⟨u179,hI⟩:=hI
    obtain ⟨u180,hI⟩:=hI
    obtain ⟨u181,hI⟩:=hI
    obtain ⟨u182,hI⟩:=hI
    obtain ⟨u183,hI⟩:=hI
    obtain ⟨u184,hI⟩:=hI
    obtain ⟨u185,hI⟩:=hI
    obtain ⟨u186,hI⟩:=hI
    obtain ⟨u187,hI⟩:=hI
    obtain ⟨u188,hI⟩:=hI
    obtain ⟨u189,hI⟩:=hI
    obtain ⟨u190,hI⟩:=hI
    obtain ⟨u191,hI⟩:=hI
    obtain ⟨u192,hI⟩:=hI
    obtain ⟨u193,hI⟩:=hI
    obtain ⟨u194,hI⟩:=hI
    obtain ⟨u195,hI⟩:=hI
    obtain ⟨u196,hI⟩:=hI
    obtain ⟨u197,hI⟩:=hI
    obtain ⟨u198,hI⟩:=hI
    obtain ⟨u199,hI⟩:=hI
    obtain ⟨u200,hI⟩:=hI
    obtain ⟨u201,hI⟩:=hI
    obtain ⟨u202,hI⟩:=hI
    obtain ⟨u203,hI⟩:=hI
    obtain ⟨u204,hI⟩:=hI
    obtain ⟨u205,hI⟩:=hI
    obtain ⟨u206,hI⟩:=hI
    obtain ⟨u207,hI⟩:=hI
    obtain ⟨u208,hI⟩:=hI
    obtain ⟨u209,hI⟩:=hI
    obtain ⟨u210,hI⟩:=hI
    obtain ⟨u211,hI⟩:=hI
    obtain ⟨u212,hI⟩:=hI
    obtain ⟨u213,hI⟩:=hI
    obtain ⟨u214,hI⟩:=hI
    obtain ⟨u215,hI⟩:=hI
    obtain ⟨u216,hI⟩:=hI
    obtain ⟨u217,hI⟩:=hI
    obtain ⟨u218,hI⟩:=hI
    obtain ⟨u219,hI⟩:=hI
    obtain ⟨u220,hI⟩:=hI
    obtain ⟨u221,hI⟩:=hI
    obtain ⟨u222,hI⟩:=hI
    obtain ⟨u223,hI⟩:=hI
    obtain ⟨u224,hI⟩:=hI
    obtain ⟨u225,hI⟩:=hI
    obtain ⟨u226,hI⟩:=hI
    obtain ⟨u227,hI⟩:=hI
    obtain ⟨u228,hI⟩:=hI
    obtain ⟨u229,hI⟩:=hI
    obtain ⟨u230,hI⟩:=hI
    obtain ⟨u231,hI⟩:=hI
    obtain ⟨u232,hI⟩:=hI
    obtain ⟨u233,hI⟩:=hI
    obtain ⟨u234,hI⟩:=hI
    obtain ⟨u235,hI⟩:=hI
    obtain ⟨u236,hI⟩:=hI
    obtain ⟨u237,hI⟩:=hI
    obtain ⟨u238,hI⟩:=hI
    obtain ⟨u239,hI⟩:=hI
    obtain ⟨u240,hI⟩:=hI
    obtain ⟨u241,hI⟩:=hI
    obtain ⟨u242,hI⟩:=hI
    obtain ⟨u243,hI⟩:=hI
    obtain ⟨u244,hI⟩:=hI
    obtain ⟨u245,hI⟩:=hI
    obtain ⟨u246,hI⟩:=hI
    obtain ⟨u247,hI⟩:=hI
    obtain ⟨u248,hI⟩:=hI
    obtain ⟨u249,hI⟩:=hI
    obtain ⟨u250,hI⟩:=hI
    obtain ⟨u251,hI⟩:=hI
    obtain ⟨u252,hI⟩:=hI
    obtain ⟨u253,hI⟩:=hI
    obtain ⟨u254,hI⟩:=hI
    obtain ⟨u255,hI⟩:=hI
    obtain ⟨u256,hI⟩:=hI
    obtain ⟨u257,hI⟩:=hI
    obtain ⟨u258,hI⟩:=hI
    obtain ⟨u259,hI⟩:=hI
    obtain ⟨u260,hI⟩:=hI
    obtain ⟨u261,hI⟩:=hI
    obtain ⟨u262,hI⟩:=hI
    obtain ⟨u263,hI⟩:=hI
    obtain ⟨u264,hI⟩:=hI
    obtain ⟨u265,hI⟩:=hI
    obtain ⟨u266,hI⟩:=hI
    obtain ⟨u267,hI⟩:=hI
    obtain ⟨u268,hI⟩:=hI
    obtain ⟨u269,hI⟩:=hI
    obtain ⟨u270,hI⟩:=hI
    obtain ⟨u271,hI⟩:=hI
    obtain ⟨hr,rfl⟩:=hI
    exact hexit tv lv iv u4 u15 u16 u18 u19 u20 u21 u22 u23 u24 u25 u26 u27 u28 u62 u63 u64 u65 u66 u67 u68 u69 u70 u71 u72 u73 u74 u75 u76 u77 u78 u79 u80 u81 u82 u83 u84 u85 u86 u87 u92 u93 u94 u95 u96 u97 u98 u99 u100 u101 u102 u103 u104 u105 u106 u107 u108 u109 u110 u111 u112 u113 u114 u115 u116 u117 u118 u119 u120 u121 u122 u123 u124 u125 u126 u127 u128 u129 u130 u131 u132 u133 u134 u135 u136 u137 u138 u139 u140 u141 u142 u143 u144 u145 u146 u147 u148 u149 u150 u151 u152 u153 u154 u155 u156 u157 u158 u159 u160 u161 u162 u163 u164 u165 u166 u167 u168 u169 u170 u171 u172 u173 u174 u175 u176 u177 u178 u179 u180 u181 u182 u183 u184 u185 u186 u187 u188 u189 u190 u191 u192 u193 u194 u195 u196 u197 u198 u199 u200 u201 u202 u203 u204 u205 u206 u207 u208 u209 u210 u211 u212 u213 u214 u215 u216 u217 u218 u219 u220 u221 u222 u223 u224 u225 u226 u227 u228 u229 u230 u231 u232 u233 u234 u235 u236 u237 u238 u239 u240 u241 u242 u243 u244 u245 u246 u247 u248 u249 u250 u251 u252 u253 u254 u255 u256 u257 u258 u259 u260 u261 u262 u263 u264 u265 u266 u267 u268 u269 u270 u271 w' hr
  refine wp_loop (WI2 (Rel2 n w0 B a d gb nv (.slice (some ⟨og,0,none⟩) (ol + 1) oc) cs ol) n ol oc og d gb nv c6 c8 c9 c14 c30 c31 c32 c33 c34 c35 c36 c37 c38 c39 c40 c41 c42 c43 c44 c45 c46 c47 c48 c49 c50 c51 c52 c53 c54 c55 c56 c57 c58 c59 c60 c61 c88 c89 c90 c91) Wmu2 ?_ (fun a' w' hI => ?_)
  · unfold WI2
    exact ⟨tv,lv,iv,u4,u15,u16,u18,u19,u20,u21,u22,u23,u24,u25,u26,u27,u28,u62,u63,u64,u65,u66,u67,u68,u69,u70,u71,u72,u73,u74,u75,u76,u77,u78,u79,u80,u81,u82,u83,u84,u85,u86,u87,u92,u93,u94,u95,u96,u97,u98,u99,u100,u101,u102,u103,u104,u105,u106,u107,u108,u109,u110,u111,u112,u113,u114,u115,u116,u117,u118,u119,u120,u121,u122,u123,u124,u125,u126,u127,u128,u129,u130,u131,u132,u133,u134,u135,u136,u137,u138,u139,u140,u141,u142,u143,u144,u145,u146,u147,u148,u149,u150,u151,u152,u153,u154,u155,u156,u157,u158,u159,u160,u161,u162,u163,u164,u165,u166,u167,u168,u169,u170,u171,u172,u173,u174,u175,u176,u177,u178,u179,u180,u181,u182,u183,u184,u185,u186,u187,u188,u189,u190,u191,u192,u193,u194,u195,u196,u197,u198,u199,u200,u201,u202,u203,u204,u205,u206,u207,u208,u209,u210,u211,u212,u213,u214,u215,u216,u217,u218,u219,u220,u221,u222,u223,u224,u225,u226,u227,u228,u229,u230,u231,u232,u233,u234,u235,u236,u237,u238,u239,u240,u241,u242,u243,u244,u245,u246,u247,u248,u249,u250,u251,u252,u253,u254,u255,u256,u257,u258,u259,u260,u261,u262,u263,u264,u265,u266,u267,u268,u269,u270,u271,hrel,rfl⟩
  · unfold WI2 at hI
    obtain ⟨tv,hI⟩:=hI
    obtain ⟨lv,hI⟩:=hI
    obtain ⟨iv,hI⟩:=hI
    obtain ⟨u4,hI⟩:=hI
    obtain ⟨u15,hI⟩:=hI
    obtain ⟨u16,hI⟩:=hI
    obtain ⟨u18,hI⟩:=hI
    obtain ⟨u19,hI⟩:=hI
    obtain ⟨u20,hI⟩:=hI
    obtain ⟨u21,hI⟩:=hI
    obtain ⟨u22,hI⟩:=hI
    obtain ⟨u23,hI⟩:=hI
    obtain ⟨u24,hI⟩:=hI
    obtain ⟨u25,hI⟩:=hI
    obtain ⟨u26,hI⟩:=hI
    obtain ⟨u27,hI⟩:=hI
    obtain ⟨u28,hI⟩:=hI
    obtain ⟨u62,hI⟩:=hI
    obtain ⟨u63,hI⟩:=hI
    obtain ⟨u64,hI⟩:=hI
    obtain ⟨u65,hI⟩:=hI
    obtain ⟨u66,hI⟩:=hI
    obtain ⟨u67,hI⟩:=hI
    obtain ⟨u68,hI⟩:=hI
    obtain ⟨u69,hI⟩:=hI
    obtain ⟨u70,hI⟩:=hI
    obtain ⟨u71,hI⟩:=hI
    obtain ⟨u72,hI⟩:=hI
    obtain ⟨u73,hI⟩:=hI
    obtain ⟨u74,hI⟩:=hI
    obtain ⟨u75,hI⟩:=hI
    obtain ⟨u76,hI⟩:=hI
    obtain ⟨u77,hI⟩:=hI
    obtain ⟨u78,hI⟩:=hI
    obtain ⟨u79,hI⟩:=hI
    obtain ⟨u80,hI⟩:=hI
    obtain ⟨u81,hI⟩:=hI
    obtain ⟨u82,hI⟩:=hI
    obtain ⟨u83,hI⟩:=hI
    obtain ⟨u84,hI⟩:=hI
    obtain ⟨u85,hI⟩:=hI
    obtain ⟨u86,hI⟩:=hI
    obtain ⟨u87,hI⟩:=hI
    obtain ⟨u92,hI⟩:=hI
    obtain ⟨u93,hI⟩:=hI
    obtain ⟨u94,hI⟩:=hI
    obtain ⟨u95,hI⟩:=hI
    obtain ⟨u96,hI⟩:=hI
    obtain ⟨u97,hI⟩:=hI
    obtain ⟨u98,hI⟩:=hI
    obtain ⟨u99,hI⟩:=hI
    obtain ⟨u100,hI⟩:=hI
    obtain ⟨u101,hI⟩:=hI
    obtain ⟨u102,hI⟩:=hI
    obtain ⟨u103,hI⟩:=hI
    obtain ⟨u104,hI⟩:=hI
    obtain ⟨u105,hI⟩:=hI
    obtain ⟨u106,hI⟩:=hI
    obtain ⟨u107,hI⟩:=hI
    obtain ⟨u108,hI⟩:=hI
    obtain ⟨u109,hI⟩:=hI
    obtain ⟨u110,hI⟩:=hI
    obtain ⟨u111,hI⟩:=hI
    obtain ⟨u112,hI⟩:=hI
    obtain ⟨u113,hI⟩:=hI
    obtain ⟨u114,hI⟩:=hI
    obtain ⟨u115,hI⟩:=hI
    obtain ⟨u116,hI⟩:=hI
    obtain ⟨u117,hI⟩:=hI
    obtain ⟨u118,hI⟩:=hI
    obtain ⟨u119,hI⟩:=hI
    obtain ⟨u120,hI⟩:=hI
    obtain ⟨u121,hI⟩:=hI
    obtain ⟨u122,hI⟩:=hI
    obtain ⟨u123,hI⟩:=hI
    obtain ⟨u124,hI⟩:=hI
    obtain ⟨u125,hI⟩:=hI
    obtain ⟨u126,hI⟩:=hI
    obtain ⟨u127,hI⟩:=hI
    obtain ⟨u128,hI⟩:=hI
    obtain ⟨u129,hI⟩:=hI
    obtain ⟨u130,hI⟩:=hI
    obtain ⟨u131,hI⟩:=hI
    obtain ⟨u132,hI⟩:=hI
    obtain ⟨u133,hI⟩:=hI
    obtain ⟨u134,hI⟩:=hI
    obtain ⟨u135,hI⟩:=hI
    obtain ⟨u136,hI⟩:=hI
    obtain ⟨u137,hI⟩:=hI
    obtain ⟨u138,hI⟩:=hI
    obtain ⟨u139,hI⟩:=hI
    obtain ⟨u140,hI⟩:=hI
    obtain ⟨u141,hI⟩:=hI
    obtain ⟨u142,hI⟩:=hI
    obtain ⟨u143,hI⟩:=hI
    obtain ⟨u144,hI⟩:=hI
    obtain ⟨u145,hI⟩:=hI
    obtain ⟨u146,hI⟩:=hI
    obtain ⟨u147,hI⟩:=hI
    obtain ⟨u148,hI⟩:=hI
    obtain ⟨u149,hI⟩:=hI
    obtain ⟨u150,hI⟩:=hI
    obtain ⟨u151,hI⟩:=hI
    obtain ⟨u152,hI⟩:=hI
    obtain ⟨u153,hI⟩:=hI
    obtain ⟨u154,hI⟩:=hI
    obtain ⟨u155,hI⟩:=hI
    obtain ⟨u156,hI⟩:=hI
    obtain ⟨u157,hI⟩:=hI
    obtain ⟨u158,hI⟩:=hI
    obtain ⟨u159,hI⟩:=hI
    obtain ⟨u160,hI⟩:=hI
    obtain ⟨u161,hI⟩:=hI
    obtain ⟨u162,hI⟩:=hI
    obtain ⟨u163,hI⟩:=hI
    obtain ⟨u164,hI⟩:=hI
    obtain ⟨u165,hI⟩:=hI
    obtain ⟨u166,hI⟩:=hI
    obtain ⟨u167,hI⟩:=hI
    obtain ⟨u168,hI⟩:=hI
    obtain ⟨u169,hI⟩:=hI
    obtain ⟨u170,hI⟩:=hI
    obtain ⟨u171,hI⟩:=hI
    obtain ⟨u172,hI⟩:=hI
    obtain ⟨u173,hI⟩:=hI
    obtain ⟨u174,hI⟩:=hI
    obtain ⟨u175,hI⟩:=hI
    obtain ⟨u176,hI⟩:=hI
    obtain ⟨u177,hI⟩:=hI
    obtain ⟨u178,hI⟩:=hI
    obtain ⟨u179,hI⟩:=hI
    obtain ⟨u180,hI⟩:=hI
    obtain ⟨u181,hI⟩:=hI
    obtain ⟨u182,hI⟩:=hI
    obtain ⟨u183,hI⟩:=hI
    obtain ⟨u184,hI⟩:=hI
    obtain ⟨u185,hI⟩:=hI
    obtain ⟨u186,hI⟩:=hI
    obtain ⟨u187,hI⟩:=hI
    obtain ⟨u188,hI⟩:=hI
    obtain ⟨u189,hI⟩:=hI
    obtain ⟨u190,hI⟩:=hI
    obtain ⟨u191,hI⟩:=hI
    obtain ⟨u192,hI⟩:=hI
    obtain ⟨u193,hI⟩:=hI
    obtain ⟨u194,hI⟩:=hI
    obtain ⟨u195,hI⟩:=hI
    obtain ⟨u196,hI⟩:=hI
    obtain ⟨u197,hI⟩:=hI
    obtain ⟨u198,hI⟩:=hI
    obtain ⟨u199,hI⟩:=hI
    obtain ⟨u200,hI⟩:=hI
    obtain ⟨u201,hI⟩:=hI
    obtain ⟨u202,hI⟩:=hI
    obtain ⟨u203,hI⟩:=hI
    obtain ⟨u204,hI⟩:=hI
    obtain ⟨u205,hI⟩:=hI
    obtain ⟨u206,hI⟩:=hI
    obtain ⟨u207,hI⟩:=hI
    obtain ⟨u208,hI⟩:=hI
    obtain ⟨u209,hI⟩:=hI
    obtain ⟨u210,hI⟩:=hI
    obtain ⟨u211,hI⟩:=hI
    obtain ⟨u212,hI⟩:=hI
    obtain ⟨u213,hI⟩:=hI
    obtain ⟨u214,hI⟩:=hI
    obtain ⟨u215,hI⟩:=hI
    obtain ⟨u216,hI⟩:=hI
    obtain ⟨u217,hI⟩:=hI
    obtain ⟨u218,hI⟩:=hI
    obtain ⟨u219,hI⟩:=hI
    obtain ⟨u220,hI⟩:=hI
    obtain ⟨u221,hI⟩:=hI
    obtain ⟨u222,hI⟩:=hI
    obtain ⟨u223,hI⟩:=hI
    obtain ⟨u224,hI⟩:=hI
    obtain ⟨u225,hI⟩:=hI
    obtain ⟨u226,hI⟩:=hI
    obtain ⟨u227,hI⟩:=hI
    obtain ⟨u228,hI⟩:=hI
    obtain ⟨u229,hI⟩:=hI
    obtain ⟨u230,hI⟩:=hI
    obtain ⟨u231,hI⟩:=hI
    obtain ⟨u232,hI⟩:=hI
    obtain ⟨u233,hI⟩:=hI
    obtain ⟨u234,hI⟩:=hI
    obtain ⟨u235,hI⟩:=hI
    obtain ⟨u236,hI⟩:=hI
    obtain ⟨u237,hI⟩:=hI
    obtain ⟨u238,hI⟩:=hI
    obtain ⟨u239,hI⟩:=hI
    obtain ⟨u240,hI⟩:=hI
    obtain ⟨u241,hI⟩:=hI
    obtain ⟨u242,hI⟩:=hI
    obtain ⟨u243,hI⟩:=hI
    obtain ⟨u244,hI⟩:=hI
    obtain ⟨u245,hI⟩:=hI
    obtain ⟨u246,hI⟩:=hI
    obtain ⟨u247,hI⟩:=hI
    obtain ⟨u248,hI⟩:=hI
    obtain ⟨u249,hI⟩:=hI
    obtain ⟨u250,hI⟩:=hI
    obtain ⟨u251,hI⟩:=hI
    obtain ⟨u252,hI⟩:=hI
    obtain ⟨u253,hI⟩:=hI
    obtain ⟨u254,hI⟩:=hI
    obtain ⟨u255,hI⟩:=hI
    obtain ⟨u256,hI⟩:=hI
    obtain ⟨u257,hI⟩:=hI
    obtain ⟨u258,hI⟩:=hI
    obtain ⟨u259,hI⟩:=hI
    obtain ⟨u260,hI⟩:=hI
    obtain ⟨u261,hI⟩:=hI
    obtain ⟨u262,hI⟩:=hI
    obtain ⟨u263,hI⟩:=hI
    obtain ⟨u264,hI⟩:=hI
    obtain ⟨u265,hI⟩:=hI
    obtain ⟨u266,hI⟩:=hI
    obtain ⟨u267,hI⟩:=hI
    obtain ⟨u268,hI⟩:=hI
    obtain ⟨u269,hI⟩:=hI
    obtain ⟨u270,hI⟩:=hI
    obtain ⟨u271,hI⟩:=hI
    obtain ⟨hr,rfl⟩:=hI
    obtain ⟨i,c,O,T,X,L,Q,S,ms,rfl,hi40,rfl,hlp,hrl,hpq⟩:=hr
    exact round2 n ol oc og d gb nv lv w0 B a cs i c O T X L Q S ms w' Q0 c6 c8 c9 c14 c30 c31 c32 c33 c34 c35 c36 c37 c38 c39 c40 c41 c42 c43 c44 c45 c46 c47 c48 c49 c50 c51 c52 c53 c54 c55 c56 c57 c58 c59 c60 c61 c88 c89 c90 c91 u4 u15 u16 u18 u19 u20 u21 u22 u23 u24 u25 u26 u27 u28 u62 u63 u64 u65 u66 u67 u68 u69 u70 u71 u72 u73 u74 u75 u76 u77 u78 u79 u80 u81 u82 u83 u84 u85 u86 u87 u92 u93 u94 u95 u96 u97 u98 u99 u100 u101 u102 u103 u104 u105 u106 u107 u108 u109 u110 u111 u112 u113 u114 u115 u116 u117 u118 u119 u120 u121 u122 u123 u124 u125 u126 u127 u128 u129 u130 u131 u132 u133 u134 u135 u136 u137 u138 u139 u140 u141 u142 u143 u144 u145 u146 u147 u148 u149 u150 u151 u152 u153 u154 u155 u156 u157 u158 u159 u160 u161 u162 u163 u164 u165 u166 u167 u168 u169 u170 u171 u172 u173 u174 u175 u176 u177 u178 u179 u180 u181 u182 u183 u184 u185 u186 u187 u188 u189 u190 u191 u192 u193 u194 u195 u196 u197 u198 u199 u200 u201 u202 u203 u204 u205 u206 u207 u208 u209 u210 u211 u212 u213 u214 u215 u216 u217 u218 u219 u220 u221 u222 u223 u224 u225 u226 u227 u228 u229 u230 u231 u232 u233 u234 u235 u236 u237 u238 u239 u240 u241 u242 u243 u244 u245 u246 u247 u248 u249 u250 u251 u252 u253 u254 u255 u256 u257 u258 u259 u260 u261 u262 u263 u264 u265 u266 u267 u268 u269 u270 u271 hB hops hi40 hlp hrl hpq hex
end Go.Proofs.YthkijogloebdoaaGreatDoor
end
section
set_option maxRecDepth 1000000
namespace Go.Proofs.YthkijogloebdoaaGreatDoor
open Go.RowKit Go.Maps Rec Gp Fs
set_option maxHeartbeats 6400000 in
theorem wholefiles_any (v:Int)(A:Option Addr)(ol oc:Nat)(cs:List Value)(w:World)(h0 : -9223372036854775808 ≤ v)(h1:v ≤ 9223372036854775807)(hA:OpsArg w A cs)(hAn:A=none → ol=0 ∧ oc=0)(hcl:cs.length=ol * 5)
    (hint:∀ u ∈ cs,∃ z:Int,u=.int .i64 z ∧ -9223372036854775808 ≤ z ∧ z ≤ 9223372036854775807)(hb:(ol + 1) * 40 ≤ 140737488355328)(hw:WidthsAt w)(hh:HalfAt w) :
    Calls Tryz.prog 3 #[.int .i64 v,.slice A ol oc] w fun e w' => e=.returned (.bool true) ∧ Below w.heap.size w w':=by
  have HSZ:=Lib.hid (fun X => size_any v X h0 h1)
  have hd:=sizeN_disk v
  obtain ⟨n,hn⟩:∃ n,sizeN v=n:=⟨_,rfl⟩
  rw [hn] at HSZ hd
  obtain ⟨g1,g2,g3,g4⟩:=geo_facts hd
  have HD:=Lib.hid hd
  have HG:=Lib.hid (And.intro g3 g4)
  have HAR:=Lib.hid (And.intro hA (And.intro hAn (And.intro hcl (And.intro hint hb))))
  have HW:=Lib.hid hw
  have HH:=Lib.hid hh
  have hwl:=hw.lt
  have hhl:=hh.lt
  clear hn hd hA hAn hcl hint hb hw hh g3 g4
  go_enter Tryz.func3,Tryz.ntmps3
  go_upto_region 8 with (first
    | (go_at_call 4
       refine (HSZ.out _).mono ?_
       rintro e w1 ⟨rfl,rfl⟩)
    | (go_at_call 6
       refine (fresh_any _ n HD.out).mono ?_
       rintro e w1 ⟨img,hf,rfl,hm,hb1⟩
       have HF:=Lib.hid hf
       have HM:=Lib.hid hm
       have HB1:=Lib.hid hb1
       have hs1:=hb1.size
       clear hf hm hb1)
    | (go_at_call 5
       refine (dopen_any (blocksOf img n) n (blocksOf_len img n) (blocksOf_each HF.out.len) (by omega) g2 (some ⟨w.heap.size,0,none⟩) (n * 512) (Nat.le_refl _) w1 (by
         rw [blocksOf_flat n (by rw [HF.out.len]; exact Nat.le_refl _),← HF.out.len,List.take_length]; exact HM.out.bytes)).mono ?_
       rintro e w2 ⟨⟨a,d,rfl,hda⟩,hb2⟩
       have HDA:=Lib.hid hda
       have HB2:=Lib.hid (HB1.out.trans (hb2.mono hs1))
       have hs2:=HB2.out.size
       have hs12:=hb2.size
       clear hda hb2)
    | (go_at_call 7
       refine (geo_of_ok n _ HD.out).mono ?_
       rintro e w3 ⟨rfl,hb3⟩
       unfold geoCells
       have HB3:=Lib.hid (HB2.out.trans (hb3.mono hs2))
       have HB23:=Lib.hid hb3
       have hs3:=HB3.out.size
       have hb4:=below_new w3 (.cells #[.int .i64 (n:Int),.int .i64 98,.int .i64 (ino n:Int),.int .i64 (dat n:Int),.int .i64 (cnt n:Int)] 31)
       have hgb:=Is.new w3 31 #[.int .i64 (n:Int),.int .i64 98,.int .i64 (ino n:Int),.int .i64 (dat n:Int),.int .i64 (cnt n:Int)]
       obtain ⟨w4,hw4⟩:∃ w4,w3.alloc (.cells #[.int .i64 (n:Int),.int .i64 98,.int .i64 (ino n:Int),.int .i64 (dat n:Int),.int .i64 (cnt n:Int)] 31)=w4:=⟨_,rfl⟩
       have hz4:w4.heap.size=w3.heap.size + 1:=by rw [← hw4,World.size_alloc]
       rw [hw4] at hb4 hgb
       have HGB:=Lib.hid hgb
       have HB4:=Lib.hid (HB3.out.trans (hb4.mono hs3))
       have HB24:=Lib.hid (HB23.out.trans (hb4.mono HB23.out.size))
       clear hb3 hb4 hgb)
    | (go_at_call 8
       refine (regions_any n HD.out _).mono ?_
       rintro e w5 ⟨rfl,rfl⟩)
    | (go_at_call 9
       go_loud (
       have q23:=HB23.out.size
       have q24:=HB24.out.size
       obtain ⟨F,f1,f2,f3⟩:=HDA.out.foot2 rfl
       refine (tbegin_any w1.heap.size a d n (openDk (blocksOf img n)) F w4 (fun k hk => by
         obtain ⟨q1,q2⟩:=f1 k hk
         exact ⟨Nat.lt_of_lt_of_le q1 HB24.out.size,q2.same (HB24.out.block k q1)⟩) (fun x hx => f3 x (fun k hk => (hx k hk).trans (HB24.out.block k (f1 k hk).1))) rfl (blocksOf_len img n)).mono ?_
       rintro e w5 ⟨t,b,rfl,htx,ht1,ht2,hb5⟩
       have hnot:∀ k,k < w1.heap.size → ¬ (F k ∨ k=t ∨ k=b):=fun k hk o => by
         rcases o with o | o | o
         · have:=f2 k o; omega
         · omega
         · omega
       have HB5:=Lib.hid (HB4.out.trans (hb5.mono (by omega)))
       have HGB5:=Lib.hid (show BF w5 (fun k => F k ∨ k=t ∨ k=b) w3.heap.size 31 (geoL n) from ⟨HGB.out.below hb5 HGB.out.lt,fun o => by
         rcases o with o | o | o
         · have:=(f1 _ o).1; have:=HB23.out.size; omega
         · omega
         · omega⟩)
       have HST:=Lib.hid (show Start n 0 w5 ⟨w1.heap.size,a,d,t,b,n,openDk (blocksOf img n)⟩ (fun k => F k ∨ k=t ∨ k=b) ⟨fun _ => none,[]⟩ from
         ⟨⟨htx,HD.out,rfl,HW.out.below HB5.out hwl,hnot _ (by omega)⟩,HH.out.below HB5.out hhl,hnot _ (by omega),by show w1.heap.size ≤ t; omega,fun j hj => by
           rcases hj with o | o | o
           · exact f2 j o
           · show w1.heap.size ≤ j; omega
           · show w1.heap.size ≤ j; omega,first_view HD.out HF.out (fun i hi => view_open img i hi),fun i hi => absurd rfl hi,rfl⟩)
       clear htx hb5 f1 f2 f3 hnot)))
  have q23:=HB23.out.size
  have q24:=HB24.out.size
  have q45:=HB5.out.size
  obtain ⟨c,hc⟩:∃ c:Cx,(⟨w1.heap.size,a,d,t,b,n,openDk (blocksOf img n)⟩:Cx)=c:=⟨_,rfl⟩
  rw [hc] at HST
  have hct:c.t=t:=by rw [← hc]
  have hcb:c.base=w1.heap.size:=by rw [← hc]
  have hca:c.a=a ∧ c.d=d ∧ RestD n 0 c.D:=by rw [← hc]; exact ⟨rfl,rfl,rest_open HD.out HF.out⟩
  obtain ⟨gb,hgb⟩:∃ gb,w3.heap.size=gb:=⟨_,rfl⟩
  rw [hgb] at HGB5
  have HCA:=Lib.hid hca
  have HCT:=Lib.hid (And.intro hct hcb)
  clear HSZ HDA HB2 HB3 HB23 HB24 HGB HB4 HM hc hca hct hcb
  go_upto_region 11 with fail
  rw [hgb]
  go_loopw [12,13,14] (fun lv nv iv wr => ∃ (k:Nat) (O:Nat → Prop) (T:Tn) (ms:Nat → Nat),iv=.int .i64 (k:Int) ∧ k ≤ 3 ∧ Start n k wr c O T ∧ RF wr O w.heap.size 47 2 lv k (plK ms k) ∧ RF wr O w.heap.size 3 1 nv k (fnums k) ∧ (∀ j,j < k → PF wr O (ms j) nilP) ∧ BF wr O gb 31 (geoL n) ∧ Below w.heap.size w wr)
    (fun _ _ iv _ => 3 - (intOf iv).toNat)
  case atStart => exact ⟨0,_,_,fun _ => 0,rfl,by omega,HST.out,⟨World.ownsRow_nil _ _ _ _,fun g hg => by cases hg⟩,⟨World.ownsRow_nil _ _ _ _,fun g hg => by cases hg⟩,fun j hj => by omega,HGB5.out,HB5.out⟩
  case round =>
    obtain ⟨k,O,T,ms,rfl,hk,hst,hrl,hrn,hpf,hbf,hbw⟩:=hrel
    have HST:=Lib.hid hst
    have HRL:=Lib.hid hrl
    have HRN:=Lib.hid hrn
    have HPF:=Lib.hid hpf
    have HBF:=Lib.hid hbf
    have HBW:=Lib.hid hbw
    obtain ⟨d10,d11,d12,d13,d14⟩:=geo5 hbf.1
    clear hst hrl hrn hpf hbf hbw
    by_cases hk3:k < 3
    · have hlt:(k:Int) < 3:=by omega
      obtain ⟨q,hq⟩:∃ q,2 + k=q:=⟨_,rfl⟩
      have u1:=i64_wr ((k:Int) + 2) (by omega)
      have u2:(k:Int) + 2=(q:Int):=by omega
      have u3:=i64_wr ((k:Int) + 1) (by omega)
      obtain ⟨m1,m2,m3⟩:=HST.out.tk.met hk3
      have HTAKE:=Lib.hid (itake_any c wr O T n HST.out.env (metI k) (2 + k) (by omega) (by unfold cnt; omega) m1 m2 m3 fileI fileI_ok (by show (1:Nat) ≠ 0; omega) [ino n] HST.out.cov (by rw [show ino n + (2 + k) / 8=ino n by omega]; exact .head _) (by show 1 ≤ 96; omega) (by rw [HST.out.hist]; omega))
      rw [fileI_C,hq,HCT.out.1] at HTAKE
      obtain ⟨i0,hi,hz0,hz1,hz2⟩:=info_parts infoI64
      obtain ⟨i0p,hip,hz0p,hz1p,hz2p⟩:=info_parts infoPl
      have HI:=Lib.hid (And.intro hi (And.intro hz0 (And.intro hz1 hz2)))
      have HIP:=Lib.hid (And.intro hip (And.intro hz0p (And.intro hz1p hz2p)))
      have HQ:=Lib.hid hq
      have hmm:=@run_makeMap Tryz.prog
      clear m1 m2 m3 hi hz0 hz1 hz2 hip hz0p hz1p hz2p hq
      go_upto_region 16 with (first
        | (go_at_call 10
           refine HTAKE.out.mono ?_
           rintro e w6 ⟨rfl,O6,ht6,hf6⟩
           rw [← HQ.out] at ht6
           have hst6:=HST.out.fr hk3 ht6 hf6
           have HST6:=Lib.hid hst6
           have HF6:=Lib.hid hf6
           have HRL6:=Lib.hid (HRL.out.away (by decide) (Away.fr hf6))
           have HRN6:=Lib.hid (HRN.out.away (by decide) (Away.fr hf6))
           have HPF6:=Lib.hid (fun j hj => (HPF.out j hj).fr hf6)
           have HBF6:=Lib.hid (HBF.out.away (by decide) (Away.fr hf6))
           have hs6:=hf6.1.size
           have HBW6:=Lib.hid (HBW.out.trans (hf6.1.below HBW.out.size (fun i hi => by have:=HST.out.low i hi; have:=HCT.out.2; omega)))
           clear ht6 hf6 hst6))
      have hoo6:∀ j,O6 j → j < w6.heap.size:=HST6.out.env.tx.lt
      have hb7:=below_new w6 (.cells #[.int .i64 (q:Int)] 3)
      have hi7:=Is.new w6 3 #[.int .i64 (q:Int)]
      obtain ⟨W7,hW7⟩:∃ W7,w6.alloc (.cells #[.int .i64 (q:Int)] 3)=W7:=⟨_,rfl⟩
      have hz7:W7.heap.size=w6.heap.size + 1:=by rw [← hW7,World.size_alloc]
      rw [hW7] at hb7 hi7
      have HRN7:=Lib.hid (HRN6.out.away (by decide) (Away.below hb7))
      have HRL7:=Lib.hid (HRL6.out.away (by decide) (Away.below hb7))
      have HPF7:=Lib.hid (fun j hj => (HPF6.out j hj).later hb7)
      have HBF7:=Lib.hid (HBF6.out.away (by decide) (Away.below hb7))
      have HST7:=Lib.hid (HST6.out.later hb7)
      have HBW7:=Lib.hid (HBW6.out.trans (hb7.mono HBW6.out.size))
      have HI7:=Lib.hid hi7
      clear hb7 hi7
      go_upto_region 17 with (
        at_builtin
        refine wpList_append_own_at W7 rfl (.tmp 79) (.tmp 81) 39 rfl w.heap.size 3 i0 (.int .i64 0) 1 8 Tryz.underlying39 HI.out.1 HI.out.2.1 HI.out.2.2.1 HI.out.2.2.2 rfl (by decide) u13 k (fnums k) rfl HRN7.out.1 ⟨w6.heap.size,0,none⟩ 1 1 [.int .i64 (q:Int)] rfl rfl (World.news_of_block HI7.out) (by intro u hu; simp at hu; subst hu; rfl) (by simp only [maxLen]; omega) (by omega) (by have:=HBW7.out.size; omega) ?_
        intro v8 w8 ho8 hg8 _ hat8
        have kk:=grow_keeps hg8
        have ht8:∀ g,u13.ownBlock=some g → Tk W7 g [3]:=fun g hg => (HRN7.out.typed hg).1
        have hlo8:∀ g,u13.ownBlock=some g → w.heap.size ≤ g ∧ ¬ O6 g:=fun g hg => ⟨(HRN7.out.typed hg).2.1,(HRN7.out.typed hg).2.2.2⟩
        have HRN8:=Lib.hid (show RF w8 O6 w.heap.size 3 1 v8 (k + 1) (fnums (k + 1)) from HRN7.out.push (by rw [fnums_succ,show ((k + 2:Nat):Int)=(q:Int) by omega]; exact ho8) hat8 (fun j hj => by have:=hoo6 j hj; omega))
        have HRL8:=Lib.hid (HRL7.out.apart kk ht8 (by decide))
        have HPF8:=Lib.hid (fun j hj => (HPF7.out j hj).apart kk ht8 (by decide))
        have HBF8:=Lib.hid (HBF7.out.apart kk ht8 (by decide))
        have HST8:=Lib.hid (HST7.out.apart kk (fun i hi => (hlo8 i hi).2) (fun e => by have:=(hlo8 _ e).1; omega) (fun e => by have:=(hlo8 _ e).1; omega))
        have HBW8:=Lib.hid (HBW7.out.trans (kk.below (by have:=HBW7.out.size; omega) (fun i hi => (hlo8 i hi).1)))
        have hs8:=kk.size
        clear ho8 hg8 hat8 kk ht8 hlo8)
      have hb9:=(below_new w8 (.map #[] 0)).trans ((below_new (w8.alloc (.map #[] 0)) (.cells #[.map (some w8.heap.size),.int .i64 0] 47)).mono (by rw [World.size_alloc]; omega))
      have hi9:=Is.new (w8.alloc (.map #[] 0)) 47 #[.map (some w8.heap.size),.int .i64 0]
      have hpm9:=(PM.new w8 (fun _ => 0) (fun _ => 0)).below (below_new (w8.alloc (.map #[] 0)) (.cells #[.map (some w8.heap.size),.int .i64 0] 47)) (by rw [World.size_alloc]; omega)
      obtain ⟨W9,hW9⟩:∃ W9,(w8.alloc (.map #[] 0)).alloc (.cells #[.map (some w8.heap.size),.int .i64 0] 47)=W9:=⟨_,rfl⟩
      have hz9:W9.heap.size=w8.heap.size + 2:=by rw [← hW9,World.size_alloc,World.size_alloc]
      rw [hW9] at hb9 hi9 hpm9
      rw [World.size_alloc] at hi9
      have HRN9:=Lib.hid (HRN8.out.away (by decide) (Away.below hb9))
      have HRL9:=Lib.hid (HRL8.out.away (by decide) (Away.below hb9))
      have HPF9:=Lib.hid (fun j hj => (HPF8.out j hj).later hb9)
      have HBF9:=Lib.hid (HBF8.out.away (by decide) (Away.below hb9))
      have HST9:=Lib.hid (HST8.out.later hb9)
      have HBW9:=Lib.hid (HBW8.out.trans (hb9.mono HBW8.out.size))
      have HI9:=Lib.hid hi9
      have HPN9:=Lib.hid (show PF W9 O6 w8.heap.size nilP from PF.new (w:=w8) (B:=w8.heap.size) nilP_ok (hpm9.wide (Nat.le_refl _) (by omega)) (fun j hj => by have:=hoo6 j hj; omega))
      clear hb9 hi9 hpm9
      go_wp2_with (
        at_builtin
        refine wpList_append_own_at W9 rfl (.tmp 83) (.tmp 86) 38 rfl w.heap.size 47 i0p (.agg #[.map none,.int .i64 0]) 2 16 Tryz.underlying38 HIP.out.1 HIP.out.2.1 HIP.out.2.2.1 HIP.out.2.2.2 rfl (by decide) u12 k (plK ms k) rfl HRL9.out.1 ⟨w8.heap.size + 1,0,none⟩ 1 1 [.map (some w8.heap.size),.int .i64 0] rfl rfl (World.news_of_block HI9.out) (by intro u hu; simp at hu; rcases hu with hu | hu <;> subst hu <;> rfl) (by simp only [maxLen]; omega) (by omega) (by have:=HBW9.out.size; omega) ?_
        intro va wa hoa hga _ hata
        have kk:=grow_keeps hga
        have hta:∀ g,u12.ownBlock=some g → Tk W9 g [47]:=fun g hg => (HRL9.out.typed hg).1
        have hloa:∀ g,u12.ownBlock=some g → w.heap.size ≤ g ∧ ¬ O6 g:=fun g hg => ⟨(HRL9.out.typed hg).2.1,(HRL9.out.typed hg).2.2.2⟩
        have HRLa:=Lib.hid (show RF wa O6 w.heap.size 47 2 va (k + 1) (plK (upd1 ms k w8.heap.size) (k + 1)) from HRL9.out.push (by
          show wa.ownsRow _ _ _ _ _ (plK (upd1 ms k w8.heap.size) k ++ [.map (some (upd1 ms k w8.heap.size k)),.int .i64 0])
          rw [plK_congr k (fun j hj => upd1_other ms k _ (by omega)),upd1_same]
          exact hoa) hata (fun j hj => by have:=hoo6 j hj; omega))
        have HRNa:=Lib.hid (HRN9.out.apart kk hta (by decide))
        have HPFa:=Lib.hid (fun j hj => (HPF9.out j hj).apart kk hta (by decide))
        have HPNa:=Lib.hid (HPN9.out.apart kk hta (by decide))
        have HBFa:=Lib.hid (HBF9.out.apart kk hta (by decide))
        have HSTa:=Lib.hid (HST9.out.apart kk (fun i hi => (hloa i hi).2) (fun e => by have:=(hloa _ e).1; omega) (fun e => by have:=(hloa _ e).1; omega))
        have HBWa:=Lib.hid (HBW9.out.trans (kk.below (by have:=HBW9.out.size; omega) (fun i hi => (hloa i hi).1)))
        clear hoa hga hata kk hta hloa)
      refine ⟨⟨k + 1,O6,_,upd1 ms k w8.heap.size,by rw [show ((k:Int) + 1)=((k + 1:Nat):Int) by omega],by omega,HSTa.out,HRLa.out,HRNa.out,fun j hj => ?_,HBFa.out,HBWa.out⟩,?_⟩
      · by_cases e:j=k
        · rw [e,upd1_same]; exact HPNa.out
        · rw [upd1_other _ _ _ e]; exact HPFa.out j (by omega)
      · show 3 - ((k:Int) + 1).toNat < 3 - ((k:Int)).toNat
        omega
    · have hk4 : k=3:=by omega
      subst hk4
      have hnlt:¬ ((3:Nat):Int) < 3:=by omega
      have hw1:=HB1.out.size
      have HHO:=Lib.hid (HST.out.hold HCA.out.2.2 ⟨by rw [HCT.out.2]; exact Nat.lt_of_lt_of_le hhl hw1,by rw [HCT.out.2]; exact Nat.lt_of_lt_of_le hwl hw1⟩)
      have HLO:=Lib.hid HST.out.low
      have hoo:∀ j,O j → j < wr.heap.size:=HST.out.env.tx.lt
      have hbA:=below_new wr (.cells #[.int .i64 0,.int .i64 0,.int .i64 0,.int .i64 5,.int .i64 7] 49)
      have hiA:=Is.new wr 49 #[.int .i64 0,.int .i64 0,.int .i64 0,.int .i64 5,.int .i64 7]
      have hoA:=World.ownsRow_lit (base:=w.heap.size) (e:=49) (size:=5) wr #[.int .i64 0,.int .i64 0,.int .i64 0,.int .i64 5,.int .i64 7] 1 HBW.out.size (by decide) rfl
      obtain ⟨WA,hWA⟩:∃ WA,wr.alloc (.cells #[.int .i64 0,.int .i64 0,.int .i64 0,.int .i64 5,.int .i64 7] 49)=WA:=⟨_,rfl⟩
      have hzA:WA.heap.size=wr.heap.size + 1:=by rw [← hWA,World.size_alloc]
      rw [hWA] at hbA hiA hoA
      have HOA:=Lib.hid hoA
      have HIA:=Lib.hid hiA
      have HBA:=Lib.hid (HBW.out.trans (hbA.mono HBW.out.size))
      have HRNA:=Lib.hid (HRN.out.away (by decide) (Away.below hbA))
      have HRLA:=Lib.hid (HRL.out.away (by decide) (Away.below hbA))
      have HPFA:=Lib.hid (fun j hj => (HPF.out j hj).later hbA)
      have HBFA:=Lib.hid (HBF.out.away (by decide) (Away.below hbA))
      have HHOA:=Lib.hid (HHO.out.later hbA)
      clear hbA hiA hoA HST
      go_upto_region 20 with (
        refine wpList_append_ops rfl (.tmp 89) (.tmp 90) rfl w.heap.size wr.heap.size rfl HOA.out A ol oc cs rfl (HAR.out.1.below HBA.out) HAR.out.2.1 HAR.out.2.2.1 (by intro u hu; obtain ⟨z,rfl,_⟩:=HAR.out.2.2.2.1 u hu; rfl) HAR.out.2.2.2.2 (by have:=HBA.out.size; omega) ?_
        intro og ocap wB hoB hgB hatB
        have kk:=grow_keeps (v:=.slice (some ⟨wr.heap.size,0,none⟩) 1 1) hgB
        have htB:∀ g,(Value.slice (some ⟨wr.heap.size,0,none⟩) 1 1).ownBlock=some g → Tk WA g [49]:=fun g hg => by injection hg with hg; subst hg; exact tk_of HIA.out (by simp)
        have hnB:∀ g,(Value.slice (some ⟨wr.heap.size,0,none⟩) 1 1).ownBlock=some g → g=wr.heap.size:=fun g hg => by injection hg with hg; exact hg.symm
        have HRNB:=Lib.hid (HRNA.out.apart kk htB (by decide))
        have HRLB:=Lib.hid (HRLA.out.apart kk htB (by decide))
        have HPFB:=Lib.hid (fun j hj => (HPFA.out j hj).apart kk htB (by decide))
        have HBFB:=Lib.hid (HBFA.out.apart kk htB (by decide))
        have HHOB:=Lib.hid (HHOA.out.apart kk (fun i hi o => by have:=hnB i hi; have:=hoo i o; omega) (fun e => by have:=hnB _ e; have:=HBW.out.size; omega) (fun e => by have:=hnB _ e; have:=HBW.out.size; omega))
        have HBB:=Lib.hid (HBA.out.trans (kk.below HBA.out.size (fun i hi => by have:=hnB i hi; have:=HBW.out.size; omega)))
        have HOB:=Lib.hid (show RF wB O w.heap.size 49 5 (.slice (some ⟨og,0,none⟩) (ol + 1) ocap) (ol + 1) (first5 ++ cs) from ⟨hoB,fun g' hg' o => by
          injection hg' with hg'
          have hg':og=g':=hg'
          have:=hoo _ o
          rcases hatB with q | q <;> omega⟩)
        clear hoB hgB hatB kk htB hnB)
      have HPQ:=Lib.hid (show PQ wB O ms (fun _ => nilP) from fun j hj => HPFB.out j hj)
      have HRLB:=Lib.hid (show RF wB O w.heap.size 47 2 u12 3 (plC ms (fun _ => nilP)) from by rw [← plK3]; exact HRLB.out)
      have HLP:=Lib.hid (show Loop n w w1.heap.size a d gb u13 (.slice (some ⟨og,0,none⟩) (ol + 1) ocap) cs ol 0 wB c O T (fun _ => fileI) (fun _ _ => 0) (fun _ => nilP) [ino n] from
        ⟨HHOB.out,by show 1 ≤ 90; omega,⟨HCT.out.2,HCA.out.1,HCA.out.2.1⟩,fun j hj => by rw [← HCT.out.2]; exact HLO.out j hj,HRNB.out,HBFB.out,HOB.out,HBB.out⟩)
      obtain ⟨hcl,hint,hb40⟩:=HAR.out.2.2
      have HOPS:=Lib.hid (fun i (hi:i < ol + 1) j (hj:j < 5) => opAt_cell hcl hint hi hj)
      have hct:=HCT.out.1
      clear HHO HLO hoo HOA HIA HBA HRNA HRLA HPFA HBFA HHOA HRNB HPFB HBFB HHOB HBB HOB HRL HRN HPF HBF HBW hcl hint d10 d11 d12 d13 d14 HB1 HF HB5 HGB5 HAR
      rw [show (Value.pointer (some ⟨t,0,none⟩))=.pointer (some ⟨c.t,0,none⟩) by rw [hct]]
      generalize hnv:u13=nv
      generalize hlv:u12=lv
      rw [hnv] at HLP
      rw [hlv] at HRLB
      have hBw:w.heap.size ≤ w1.heap.size:=hw1
      have HREL:=Lib.hid (show Rel2 n w w1.heap.size a d gb nv (.slice (some ⟨og,0,none⟩) (ol + 1) ocap) cs ol (.pointer (some ⟨c.t,0,none⟩)) lv (.int .i64 0) wB from ⟨0,c,O,T,_,_,_,_,ms,rfl,by omega,rfl,HLP.out,HRLB.out,HPQ.out⟩)
      refine loop2 n ol ocap og d gb nv _ lv _ w w1.heap.size a cs wB _ _ _ _ _ _ _ _ _ _ _ _ _ _ _ _ _ _ _ _ _ _ _ _ _ _ _ _ _ _ _ _ _ _ _ _ _ _ _ _ _ _ _ _ _ _ _ _ _ _ _ _ _ _ _ _ _ _ _ _ _ _ _ _ _ _ _ _ _ _ _ _ _ _ _ _ _ _ _ _ _ _ _ _ _ _ _ _ _ _ _ _ _ _ _ _ _ _ _ _ _ _ _ _ _ _ _ _ _ _ _ _ _ _ _ _ _ _ _ _ _ _ _ _ _ _ _ _ _ _ _ _ _ _ _ _ _ _ _ _ _ _ _ _ _ _ _ _ _ _ _ _ _ _ _ _ _ _ _ _ _ _ _ _ _ _ _ _ _ _ _ _ _ _ _ _ _ _ _ _ _ _ _ _ _ _ _ _ _ _ _ _ _ _ _ _ _ _ _ _ _ _ _ _ _ _ _ _ _ _ _ _ _ _ _ _ _ _ _ _ _ _ _ _ _ _ _ _ _ _ _ _ _ _ _ _ _ _ _ _ _ _ _ _ _ _ _ _ _ _ _ _ _ _ _ _ _ _ _ _ _ hBw HOPS.out HREL.out ?_
      clear HREL HOPS HLP HRLB HPQ
      intro tv lv3 iv y4 y15 y16 y18 y19 y20 y21 y22 y23 y24 y25 y26 y27 y28 y62 y63 y64 y65 y66 y67 y68 y69 y70 y71 y72 y73 y74 y75 y76 y77 y78 y79 y80 y81 y82 y83 y84 y85 y86 y87 y92 y93 y94 y95 y96 y97 y98 y99 y100 y101 y102 y103 y104 y105 y106 y107 y108 y109 y110 y111 y112 y113 y114 y115 y116 y117 y118 y119 y120 y121 y122 y123 y124 y125 y126 y127 y128 y129 y130 y131 y132 y133 y134 y135 y136 y137 y138 y139 y140 y141 y142 y143 y144 y145 y146 y147 y148 y149 y150 y151 y152 y153 y154 y155 y156 y157 y158 y159 y160 y161 y162 y163 y164 y165 y166 y167 y168 y169 y170 y171 y172 y173 y174 y175 y176 y177 y178 y179 y180 y181 y182 y183 y184 y185 y186 y187 y188 y189 y190 y191 y192 y193 y194 y195 y196 y197 y198 y199 y200 y201 y202 y203 y204 y205 y206 y207 y208 y209 y210 y211 y212 y213 y214 y215 y216 y217 y218 y219 y220 y221 y222 y223 y224 y225 y226 y227 y228 y229 y230 y231 y232 y233 y234 y235 y236 y237 y238 y239 y240 y241 y242 y243 y244 y245 y246 y247 y248 y249 y250 y251 y252 y253 y254 y255 y256 y257 y258 y259 y260 y261 y262 y263 y264 y265 y266 y267 y268 y269 y270 y271 w3 hr
      obtain ⟨i,c3,O3,T3,X3,L3,Q3,S3,ms3,rfl,hi40,rfl,hlp,hrl,hpq⟩:=hr
      have HCM:=Lib.hid (lcommit_any hlp hBw hi40)
      have HL3:=Lib.hid hlp
      have HR3:=Lib.hid hrl
      have HP3:=Lib.hid hpq
      clear hlp hrl hpq
      go_upto_region 69 with (first
        | (go_at_call 21
           refine HCM.out.mono ?_
           rintro e w4 ⟨rfl,F,D,hla,haw,hbw⟩
           have HLA:=Lib.hid hla
           have HAW:=Lib.hid haw
           have HBW:=Lib.hid hbw
           clear hla haw hbw)
        | (go_at_call 9
           refine (lbegin_any HLA.out).mono ?_
           rintro e w5 ⟨c5,O5,T5,rfl,hho,hcx,hlo,haw5,hbw5⟩
           have HHO:=Lib.hid hho
           have HAW5:=Lib.hid (HAW.out.trans haw5)
           have HBW5:=Lib.hid (HBW.out.trans (hbw5.mono HBW.out.size))
           clear hho hcx hlo haw5 hbw5))
      obtain ⟨lg,lc,hlv,hlg1,hlg2⟩:=PRow.form (show PRow w3 w.heap.size lv3 ms3 Q3 from HR3.out.1)
      obtain ⟨nb,nbc,hnv,_⟩:=World.ownsRow.form HL3.out.nums.1 (by decide)
      subst hlv
      subst hnv
      have HR5:=Lib.hid (HR3.out.away (by decide) HAW5.out)
      have HN5:=Lib.hid (HL3.out.nums.away (by decide) HAW5.out)
      have HG5:=Lib.hid (HL3.out.geo.away (by decide) HAW5.out)
      have HP5:=Lib.hid (HP3.out.away HAW5.out)
      clear HL3 HR3 HP3 HAW5
      go_wp2_with fail
      go_loopw [29] (fun kv wr => ∃ k:Nat,kv=.int .i64 (k:Int) ∧ k ≤ 3 ∧ Below w5.heap.size w5 wr) (fun kv _ => 3 - (intOf kv).toNat)
      case atStart => exact ⟨0,rfl,by omega,Below.refl _ _⟩
      case round =>
        obtain ⟨k,rfl,hk,hb⟩:=hrel
        have HB:=Lib.hid hb
        by_cases hk3:k < 3
        · have hlt:(k:Int) < 3:=by omega
          have k0i:(0:Int) ≤ (k:Int):=by omega
          obtain ⟨q,hq⟩:∃ q,k + 2=q:=⟨_,rfl⟩
          obtain ⟨d10,d11,d12,d13,d14⟩:=geo5 (HG5.out.1.below hb HG5.out.1.lt)
          have c0c:=(hb.cell (p:=⟨lg,k * 2,none⟩) (block_lt_of_cell (PRow.cell HR5.out.1 k hk3).1)).trans (PRow.cell HR5.out.1 k hk3).1
          have c1c:=(hb.cell (p:=⟨lg,k * 2 + 1,none⟩) (block_lt_of_cell (PRow.cell HR5.out.1 k hk3).2)).trans (PRow.cell HR5.out.1 k hk3).2
          have cn0:w5.cell? ⟨nb,k,none⟩=some (.int .i64 (q:Int)):=by
            rw [World.ownsRow.cellAt HN5.out.1 k (by omega),← hq]
            obtain rfl | rfl | rfl:k=0 ∨ k=1 ∨ k=2:=by omega
            all_goals rfl
          have cnb:=(hb.cell (p:=⟨nb,k,none⟩) (block_lt_of_cell cn0)).trans cn0
          have v4:=i64_wr ((k:Int) + 1) (by omega)
          have HTO:=Lib.hid (fun X (b:Below w5.heap.size w5 X) => told_hold X (HHO.out.later b) (HP5.out.later b) k hk3)
          rw [hq] at HTO
          clear hb cn0 hq
          go_upto_region 72 with fail
          go_region_held3 (fun w' => w'.cell? ⟨gb,0,none⟩=some (.int .i64 (n:Int)) ∧ w'.cell? ⟨gb,1,none⟩=some (.int .i64 98) ∧ w'.cell? ⟨gb,2,none⟩=some (.int .i64 (ino n:Int)) ∧ w'.cell? ⟨gb,3,none⟩=some (.int .i64 (dat n:Int)) ∧ w'.cell? ⟨gb,4,none⟩=some (.int .i64 (cnt n:Int)) ∧ w'.cell? ⟨nb,k,none⟩=some (.int .i64 (q:Int)) ∧ w'.cell? ⟨lg,k * 2,none⟩=some (.map (some (ms3 k))) ∧ w'.cell? ⟨lg,k * 2 + 1,none⟩=some (.int .i64 ((Q3 k).size:Int))) (first | exact ⟨d10,d11,d12,d13,d14,cnb,c0c,c1c⟩ | exact HSL.out) (first
            | (go_at_call 23
               refine (HTO.out _ HB.out.drew).mono ?_
               rintro e w6 ⟨rfl,hb6⟩
               have HB6:=Lib.hid (HB.out.drew.trans (hb6.mono HB.out.size))
               have HSL:=Lib.hid (show (fun w':World => w'.cell? ⟨gb,0,none⟩=some (.int .i64 (n:Int)) ∧ w'.cell? ⟨gb,1,none⟩=some (.int .i64 98) ∧ w'.cell? ⟨gb,2,none⟩=some (.int .i64 (ino n:Int)) ∧ w'.cell? ⟨gb,3,none⟩=some (.int .i64 (dat n:Int)) ∧ w'.cell? ⟨gb,4,none⟩=some (.int .i64 (cnt n:Int)) ∧ w'.cell? ⟨nb,k,none⟩=some (.int .i64 (q:Int)) ∧ w'.cell? ⟨lg,k * 2,none⟩=some (.map (some (ms3 k))) ∧ w'.cell? ⟨lg,k * 2 + 1,none⟩=some (.int .i64 ((Q3 k).size:Int))) w6 from ⟨(hb6.cell (p:=⟨gb,0,none⟩) (block_lt_of_cell d10)).trans d10,(hb6.cell (p:=⟨gb,1,none⟩) (block_lt_of_cell d11)).trans d11,(hb6.cell (p:=⟨gb,2,none⟩) (block_lt_of_cell d12)).trans d12,(hb6.cell (p:=⟨gb,3,none⟩) (block_lt_of_cell d13)).trans d13,(hb6.cell (p:=⟨gb,4,none⟩) (block_lt_of_cell d14)).trans d14,(hb6.cell (p:=⟨nb,k,none⟩) (block_lt_of_cell cnb)).trans cnb,(hb6.cell (p:=⟨lg,k * 2,none⟩) (block_lt_of_cell c0c)).trans c0c,(hb6.cell (p:=⟨lg,k * 2 + 1,none⟩) (block_lt_of_cell c1c)).trans c1c⟩)
               clear hb6))
          all_goals (
            go_wp2_with fail
            go_roundw
            case rel => exact ⟨k + 1,by rw [show ((k + 1:Nat):Int)=(k:Int) + 1 by omega],by omega,HB6.out⟩
            case measure => show 3 - ((k:Int) + 1).toNat < 3 - ((k:Int)).toNat; omega)
        · have hlt:¬ (k:Int) < 3:=by omega
          go_wp2_with fail
          refine ⟨rfl,.bool true,by simp [results,Tryz.results3,go_sem],rfl,HBW5.out.trans (HB.out.mono HBW5.out.size)⟩
end Go.Proofs.YthkijogloebdoaaGreatDoor
end
section
namespace Go.Proofs.YthkijogloebdoaaGreatDoor
open Go.ChangeShapes Go.WideShapes Go.ChangeAt Go.RowKit
theorem laidOut:laidOutB Tryz.prog=true:=by kernel_rfl
theorem own:ownKnob Tryz.prog.godebug=none:=by kernel_rfl
theorem trodAll_below {H:Type}{enc:TypeId × Value → H}{ts:List TypeId}(hr:∀ t ∈ ts,Tryz.prog.readableRec t=true ∧ t < Tryz.prog.types.size){W W':World}(hb:Below W.heap.size W W') :
    ∀ {vs:List Value} {ds:List (DataW H)} {ps:List MemPlace},DataW.TrodAll enc Tryz.prog W 0 (fun _ => true) true ts vs ds ps → (∀ x ∈ ps,x.block < W.heap.size) →
      DataW.TrodAll enc Tryz.prog W' 0 (fun b => decide (b < W.heap.size)) true ts vs ds ps:=by
  induction ts with
  | nil => intro vs ds ps h _; cases vs <;> cases ds <;> simp [DataW.TrodAll] at h ⊢; exact h
  | cons t ts ih =>
    intro vs ds ps h hlt
    obtain ⟨v,vs',d,ds',p,q,rfl,rfl,rfl,h1,h2⟩:=trodAll_cons h
    have ht:=hr t (by simp)
    exact trodAll_cons_mk (Below.trod laidOut ht.1 ht.2 h1 hb (fun x hx => hlt x (by simp [hx]))) (ih (fun t ht => hr t (by simp [ht])) h2 (fun x hx => hlt x (by simp [hx])))
theorem post_true {H:Type}{enc:TypeId × Value → H}{f:Func}{s:ChangeSpec}{W W':World}{args:Array Value}{ds gs:List (DataW H)}{before:List MemPlace}
    (hW:DataW.Whole enc Tryz.prog f.params.toList s.vars false W args.toList ds gs before)(hvars:s.vars=[])(hres:f.resultTypes=#[4])
    (hr:∀ t ∈ f.params.toList,Tryz.prog.readableRec t=true ∧ t < Tryz.prog.types.size)
    (hfn:s.fn H (ds ++ gs) = { results := [.lit (.bool true)],args:=ds })(hb:Below W.heap.size W W') :
    s.post enc Tryz.prog f false true false false W args (.bool true) W':=by
  have hlt:∀ x ∈ before,x.block < W.heap.size:=fun x hx => hW.lt x hx
  have hW0:=hW
  obtain ⟨p,q,hA,hV,hpq,_,_⟩:=hW
  refine ⟨ds,gs,before,[],p,[],hW0,?_,?_,?_,hb.frame _,fun h => by cases h⟩
  · rw [hfn,hres]; exact trodAll_cons_mk (shut_bool Tryz.underlying4 _) trodAll_mk0
  · rw [hfn]; exact trodAll_below hr hb hA (fun x hx => hlt x (by rw [hpq]; simp [hx]))
  · rw [hfn,hvars]; exact rfl
end Go.Proofs.YthkijogloebdoaaGreatDoor
end
section
set_option maxRecDepth 100000
namespace Go.Proofs.YthkijogloebdoaaGreatDoor
open Go.ChangeShapes Go.WideShapes Go.ChangeAt Go.RowKit
theorem reach_of {H:Type}{ts:List TypeId}{ds:List (DataW H)}(h:(DataW.weightsEach Tryz.prog ts ds).all (· ≤ reachBytes)=true){j:Nat}{t:TypeId}{d:DataW H}(ht:ts[j]? = some t)(hd:ds[j]? = some d) :
    ∀ n ∈ d.weights Tryz.prog t,n ≤ 140737488351232:=by
  intro n hn
  have:=(List.all_eq_true.1 h) n (DataW.weights_mem_each ht hd n hn)
  exact of_decide_eq_true this
theorem addr_of_cell {w:World}{a:Addr}{v:Value}(h:w.cell? a=some v):a=⟨a.block,a.off,none⟩:=by
  cases a with
  | mk b o s =>
    cases s with
    | none => rfl
    | some s =>
      simp only [World.cell?] at h
      split at h
      · simp at h
      · cases h
theorem add_of_cell {w:World}{a:Addr}{v:Value}(h:w.cell? a=some v)(k:Nat):a.add k=⟨a.block,a.off + k,none⟩:=by
  have:=addr_of_cell h
  unfold Addr.add
  split
  · rename_i hk; subst hk; rw [this]; rfl
  · rw [this]
end Go.Proofs.YthkijogloebdoaaGreatDoor
end
section
set_option maxRecDepth 100000
namespace Go.Proofs.YthkijogloebdoaaGreatDoor
open Go.ChangeShapes Go.WideShapes Go.ChangeAt Go.RowKit
theorem wfInt:Tryz.prog.cellsOf 3=1:=by kernel_rfl
theorem wfOp:Tryz.prog.cellsOf 49=5:=by kernel_rfl
theorem wfOpB:Tryz.prog.bytesOf 49=40:=by kernel_rfl
section
variable {H:Type}{enc:TypeId × Value → H}{W:World}
def Num64 (u:Value):Prop := ∃ z:Int,u=.int .i64 z ∧ -9223372036854775808 ≤ z ∧ z ≤ 9223372036854775807
theorem num64_of {n:Nat}{c:Value}{x:DataW H × List MemPlace}(h:DataW.trod enc Tryz.prog W 0 (fun _ => true) true n 3 [c]=some x):Num64 c:=by
  obtain ⟨z,e,_,hw⟩:=DataW.trod_int Tryz.underlying3 h
  injection e with e
  have b:=bounds_i64 hw
  exact ⟨z,e,b.1,b.2⟩
theorem open_op {fuel:Nat}{cs:List Value}{x:DataW H × List MemPlace}(hf:DataW.trod enc Tryz.prog W 0 (fun _ => true) true fuel 49 cs=some x):cs.length=5 ∧ ∀ u ∈ cs,Num64 u:=by
  obtain ⟨xs,n,_,rfl,hlen,hxl,hg⟩:=DataW.trod_struct Tryz.underlying49 hf
  rw [wfOp] at hlen
  match cs,hlen,xs,hxl with
  | [c0,c1,c2,c3,c4],_,[y0,y1,y2,y3,y4],_ =>
    have g0:DataW.trod enc Tryz.prog W 0 (fun _ => true) true n 3 [c0]=some y0:=by
      have:=hg 0 _ rfl
      simp [wfInt] at this
      exact this
    have g1:DataW.trod enc Tryz.prog W 0 (fun _ => true) true n 3 [c1]=some y1:=by
      have:=hg 1 _ rfl
      simp [wfInt] at this
      exact this
    have g2:DataW.trod enc Tryz.prog W 0 (fun _ => true) true n 3 [c2]=some y2:=by
      have:=hg 2 _ rfl
      simp [wfInt] at this
      exact this
    have g3:DataW.trod enc Tryz.prog W 0 (fun _ => true) true n 3 [c3]=some y3:=by
      have:=hg 3 _ rfl
      simp [wfInt] at this
      exact this
    have g4:DataW.trod enc Tryz.prog W 0 (fun _ => true) true n 3 [c4]=some y4:=by
      have:=hg 4 _ rfl
      simp [wfInt] at this
      exact this
    clear hg
    refine ⟨rfl,fun u hu => ?_⟩
    simp only [List.mem_cons,List.not_mem_nil,or_false] at hu
    rcases hu with rfl | rfl | rfl | rfl | rfl
    · exact num64_of g0
    · exact num64_of g1
    · exact num64_of g2
    · exact num64_of g3
    · exact num64_of g4
theorem open_ops {base:Nat}{v:Value}{d:DataW H}{p:List MemPlace}(hv:Value.okWide Tryz.prog W .any base 22 v)
    (h:DataW.Trod enc Tryz.prog W 0 (fun _ => true) true 22 v d p)(hr:∀ n ∈ d.weights Tryz.prog 22,n ≤ 140737488351232) :
    ∃ A ol oc cs,v=.slice A ol oc ∧ OpsArg W A cs ∧ (A=none → ol=0 ∧ oc=0) ∧ cs.length=ol * 5 ∧ (∀ u ∈ cs,Num64 u) ∧ (ol + 1) * 40 ≤ 140737488355328:=by
  obtain ⟨a0,len,cap,rfl⟩:=okWide_slice Tryz.underlying22 hv
  obtain ⟨fuel,hf⟩:=h
  rcases Go.Deep.open_slice Tryz.underlying22 hf with ⟨hcs,hx⟩ | ⟨a,len',cap',m,n,D,Pl,hcs,_,hl,hmax,hm,hx,hi⟩
  · simp [Value.cells] at hcs
    obtain ⟨rfl,rfl,rfl⟩:=hcs
    exact ⟨none,0,0,[],rfl,.inl rfl,fun _ => ⟨rfl,rfl⟩,rfl,fun v hv => (by cases hv),by omega⟩
  · simp [Value.cells] at hcs
    obtain ⟨rfl,rfl,rfl⟩:=hcs
    simp only [if_true] at hm
    subst hm
    simp only [Prod.mk.injEq] at hx
    obtain ⟨rfl,rfl⟩:=hx
    have hw:=hr (((List.range len).map D).length + ((List.range (m - len)).map fun j => D (len + j)).length |>.mul 40) (by simp [DataW.weights,Tryz.underlying22,wfOpB])
    obtain ⟨cs,hcs⟩:∃ cs,(List.range (len * 5)).map (fun q => (W.cell? (a.add q)).getD (.bool false))=cs:=⟨_,rfl⟩
    have hcl:cs.length=len * 5:=by rw [← hcs]; simp
    have hat5:∀ q,q < len * 5 → ∃ u,W.cell? (a.add q)=some u ∧ cs[q]? = some u ∧ Num64 u:=fun q hq => by
      obtain ⟨cs',hc,ht⟩:=hi (q / 5) (by omega)
      rw [wfOp] at hc
      obtain ⟨_,hcl',hat⟩:=World.cells?_some hc
      obtain ⟨h5,hnum⟩:=open_op ht
      have h1:=hat (q % 5) (by omega)
      have hget:cs'[q % 5]? = some cs'[q % 5]:=List.getElem?_eq_getElem (by omega)
      rw [hget,Go.Deep.add_add,show q / 5 * 5 + q % 5=q by omega] at h1
      refine ⟨_,h1,?_,hnum _ (List.getElem_mem (by omega))⟩
      rw [← hcs,List.getElem?_map,List.getElem?_range (by omega)]
      simp [h1]
    refine ⟨some a,len,m,cs,rfl,?_,fun e => (by cases e),hcl,fun u hu => ?_,by simp at hw; omega⟩
    · by_cases h0:len=0
      · exact .inl (List.eq_nil_of_length_eq_zero (by omega))
      · obtain ⟨u0,hc0,_⟩:=hat5 0 (by omega)
        have hc0:W.cell? a=some _:=hc0
        have ha:=addr_of_cell hc0
        refine .inr ⟨a.block,a.off,by rw [← ha],fun j hj => ?_⟩
        obtain ⟨u,h1,h2,_⟩:=hat5 j (by omega)
        rw [← add_of_cell hc0 j,h1,← h2,List.getElem?_eq_getElem hj]
    · obtain ⟨q,hq,rfl⟩:=List.mem_iff_getElem.1 hu
      obtain ⟨u,e1,e2,e3⟩:=hat5 q (by omega)
      rw [List.getElem?_eq_getElem hq] at e2
      injection e2 with e2
      rw [e2]
      exact e3
end
end Go.Proofs.YthkijogloebdoaaGreatDoor
end
section
namespace Go.Proofs.YthkijogloebdoaaGreatDoor
open Go.ChangeShapes Go.WideShapes Go.ChangeAt Go.RowKit
def widthBits:List Bool := [false,true,true,false,true,false,false,false,true]
theorem width_is:∀ i:Fin 9,widthBits[i.val]? = some (Rec.isW (i.val:Int)):=by decide +kernel
theorem gWidths : Tryz.prog.globalNamed "bole/rec.widths" = some 0 := by kernel_rfl
theorem gWidthsType:(Tryz.prog.globals[0]?).map (·.type)=some 227:=by kernel_rfl
theorem cellsWidths:Tryz.prog.cellsOf 227=9:=by kernel_rfl
theorem cellsBool:Tryz.prog.cellsOf 4=1:=by kernel_rfl
def boolData {H:Type}(bs:List Bool):DataW H:=.agg (bs.map fun b => .lit (.bool b))
theorem cells_of_bools {H:Type}{enc:TypeId × Value → H}{P:Program}{w:World}{base:Nat}{sp:Nat → Bool}{held:Bool}{fuel:Nat}{t e:TypeId}{n:Nat}{cs:List Value}{bs:List Bool}{p:List MemPlace}
    (ht:P.underlying t=some (.array n e))(he:P.underlying e=some .bool)(hce:P.cellsOf e=1)(hct:P.cellsOf t=n)
    (h:DataW.trod enc P w base sp held fuel t cs=some (boolData bs,p)):cs=bs.map Value.bool:=by
  cases fuel with
  | zero => simp [DataW.trod] at h
  | succ fuel =>
    simp only [DataW.trod,ht,hce,hct,Nat.mul_one] at h
    split at h
    · rename_i hl
      obtain ⟨xs,hm,hx⟩:=Option.map_eq_some_iff.1 h
      have hxs:xs.map (·.1)=bs.map fun b => (DataW.lit (.bool b):DataW H):=by
        have:=congrArg Prod.fst hx
        simpa [boolData] using this
      have hxl:xs.length=n:=by simpa using Lib.mapM_length hm
      have hzl:bs.length=n:=by
        have:=congrArg List.length hxs
        simp at this
        omega
      apply List.ext_getElem?
      intro i
      by_cases hi:i < n
      · obtain ⟨b,hb,hf⟩:=Lib.mapM_at hm i i (by simp [hi])
        obtain ⟨z,hc,rfl⟩:=DataW.trod_bool he hf
        have h1:cs[i]? = some (.bool z):=by
          have:=congrArg (·[0]?) hc
          simpa [List.getElem?_take,List.getElem?_drop] using this
        have h2:(xs.map (·.1))[i]? = some (DataW.lit (.bool z):DataW H):=by simp [hb]
        rw [hxs] at h2
        simp only [List.getElem?_map,Option.map_eq_some_iff,DataW.lit.injEq,Lit.bool.injEq] at h2
        obtain ⟨z',hz',rfl⟩:=h2
        simp [h1,hz']
      · rw [List.getElem?_eq_none (by omega),List.getElem?_eq_none (by simp; omega)]
    · cases h
theorem widthsAt_of {W : World} {rest : List (String × DataW Unit)} (h : laidMet Tryz.prog (("bole/rec.widths", boolData widthBits) :: rest) W) : WidthsAt W := by
  obtain ⟨ps,⟨g',t',cs,fuel,p,q,hg',ht',hvar,hd,_,_⟩,_⟩:=h
  obtain rfl:=Option.some.inj (gWidths.symm.trans hg')
  obtain rfl:=Option.some.inj (gWidthsType.symm.trans ht')
  have hc:=cells_of_bools Tryz.underlying227 Tryz.underlying4 cellsBool cellsWidths hd
  intro i hi
  have h1:=World.var?_cell gWidths hvar i
  rw [h1]
  have h2:cs[i]? = cs.toList[i]?:=by simp
  rw [h2,hc,List.getElem?_map,width_is ⟨i,hi⟩]
  rfl
end Go.Proofs.YthkijogloebdoaaGreatDoor
end
