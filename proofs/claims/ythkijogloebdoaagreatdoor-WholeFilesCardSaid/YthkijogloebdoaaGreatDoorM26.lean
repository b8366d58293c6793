/-
  WholeFiles, the texts Wk0 Wk1 Wk2 Wk3: lemmas for the proof that three files on one disk are plain rows of bytes. No conditions.
-/
import Derived.Test.YthkijogloebdoaaGreatDoorM25
import Derived.Deep.CutBlock
import Derived.Deep.RegionHeld3
import Derived.StillTailTactics
set_option linter.unusedVariables false
set_option linter.unusedSimpArgs false
section
set_option maxRecDepth 1000000
namespace Go.Proofs.YthkijogloebdoaaGreatDoor
open Go.RowKit Go.Maps Rec Gp Fs
set_option maxHeartbeats 6400000 in
theorem kind0 (n ol oc og d gb nb nbc lg lc ng nc bx:Nat)(w0:World)(B a:Nat)(cs:List Value)(i k:Nat)(c:Cx)(O:Nat → Prop)(T:Tn)(X:Nat → Ino)(L:Nat → Nat → Nat)(Q:Nat → Pl)(S:List Nat)(ms:Nat → Nat)(z z1 z2 z3 z4:Int)(wc wd:World)(K':Act → World → Prop)(Q':Exit → Act → World → Prop)
    (e2 e3 e4 e6 e8 e9 e14 e15 e16 e23 e24 e25 e26 e27 e28 e29 e30 e31 e32 e33 e34 e35 e36 e37 e38 e39 e40 e41 e42 e43 e44 e45 e46 e47 e48 e49 e50 e51 e52 e53 e54 e55 e56 e57 e58 e59 e60 e61 e62 e63 e64 e65 e66 e67 e68 e69 e70 e71 e72 e73 e74 e75 e76 e77 e78 e79 e80 e81 e82 e83 e84 e85 e86 e87 e88 e89 e90 e91 e92 e93 e94 e95 e96 e97 e98 e99 e100 e101 e102 e103 e104 e105 e106 e107 e108 e109 e110 e111 e112 e113 e114 e115 e116 e117 e118 e120 e121 e122 e123 e124 e125 e126 e127 e128 e129 e130 e131 e132 e133 e134 e135 e136 e137 e138 e139 e140 e141 e142 e143 e144 e145 e146 e147 e148 e149 e150 e151 e152 e153 e154 e155 e156 e157 e158 e159 e160 e161 e162 e163 e164 e165 e166 e167 e168 e169 e170 e171 e172 e173 e174 e175 e176 e177 e178 e179 e180 e181 e182 e183 e184 e185 e186 e187 e188 e189 e190 e191 e192 e193 e194 e195 e196 e197 e198 e199 e200 e201 e202 e203 e204 e205 e206 e207 e208 e209 e210 e211 e212 e213 e214 e215 e216 e217 e218 e219 e220 e221 e222 e223 e224 e225 e226 e227 e228 e229 e230 e231 e232 e233 e234 e235 e236 e237 e238 e239 e240 e241 e242 e243 e244 e245 e246 e247 e248 e249 e250 e251 e252 e253 e254 e255 e256 e257 e258 e259 e260 e261 e262 e263 e264 e265 e266 e267 e268 e269 e270 e271 e272 e273 e274 e275 e276 e277 e278 e279 e280 e281 e282 e283 e284 e285 e286 e287 e288 e289 e290 e291 e292:Value)
    (hB:w0.heap.size ≤ B)(hi40:i < 40)(hk3:k < 3)
    (hl:Loop n w0 B a d gb (.slice (some ⟨nb,0,none⟩) 3 nbc) (.slice (some ⟨og,0,none⟩) (ol + 1) oc) cs ol i wc c O T X L Q S)
    (hr:RF wc O w0.heap.size 47 2 (.slice (some ⟨lg,0,none⟩) 3 lc) 3 (plC ms Q))(hp:PQ wc O ms Q)
    (hx:Is wc bx 49 #[.int .i64 z,.int .i64 z1,.int .i64 z2,.int .i64 z3,.int .i64 z4])
    (hb:Below wc.heap.size wc wd)(hn:RF wd O w0.heap.size 47 2 (.slice (some ⟨ng,0,none⟩) 3 nc) 3 (plC ms Q))(hng:wc.heap.size ≤ ng)
    (hkd:0=3 ∨ ∃ S2,T.Cov S2 ∧ S2.length ≤ 40)
    (hz2 : -9223372036854775808 ≤ z2 ∧ z2 ≤ 9223372036854775807)(hz3 : -9223372036854775808 ≤ z3 ∧ z3 ≤ 9223372036854775807)(hz4 : -9223372036854775808 ≤ z4 ∧ z4 ≤ 9223372036854775807)
    (hK:∀ (v11 v21 v22 v23 v24 v25 v26 v120 v121 v122 v123 v124 v125 v126 v127 v128 v129 v130 v131 v132 v133 v134 v135 v136 v137 v138 v139 v140 v141 v142 v143 v144 v145 v146 v147 v148 v149 v150 v151 v152 v153 v154 v155 v156 v157 v158 v159 v160 v161 v162 v163 v164 v165 v166 v167 v168 v169 v170 v171 v172 v173 v174 v175 v176 v177 v178 v179 v180 v181 v182 v183 v184 v185 v186 v187 v188 v189 v190 v191 v192 v193 v194 v195 v196 v197 v198 v199 v200 v201 v202 v203 v204 v205 v206 v207 v208 v209 v210 v211 v212 v213 v214 v215 v216 v217 v218 v219 v220 v221 v222 v223 v224 v225 v226 v227 v228 v229 v230 v231 v232 v233:Value)(w':World),Switched n w0 B a d gb (.slice (some ⟨nb,0,none⟩) 3 nbc) (.slice (some ⟨og,0,none⟩) (ol + 1) oc) cs ol i (.slice (some ⟨lg,0,none⟩) 3 lc) (.slice (some ⟨ng,0,none⟩) 3 nc) v11 v21 v22 w' → K' ⟨#[.int .i64 (n:Int),.slice (some ⟨og,0,none⟩) (ol + 1) oc,e2,e3,e4,.pointer (some ⟨d,0,none⟩),e6,.pointer (some ⟨gb,0,none⟩),e8,e9,.int .i64 (dat n:Int),v11,.slice (some ⟨lg,0,none⟩) 3 lc,.slice (some ⟨nb,0,none⟩) 3 nbc,e14,e15,e16,.int .i64 (i:Int),.pointer (some ⟨bx,0,none⟩),.int .i64 (k:Int),.slice (some ⟨ng,0,none⟩) 3 nc,v21,v22,v23,v24,v25,v26,e27,e28,e29,e30,e31,e32,e33,e34,e35,e36,e37,e38,e39,e40,e41,e42,e43,e44,e45,e46,e47,e48,e49,e50,e51,e52,e53,e54,e55,e56,e57,e58,e59,e60,e61,e62,e63,e64,e65,e66,e67,e68,e69,e70,e71,e72,e73,e74,e75,e76,e77,e78,e79,e80,e81,e82,e83,e84,e85,e86,e87,e88,e89,e90,e91,e92,e93,e94,e95,e96,e97,e98,e99,e100,e101,e102,e103,e104,e105,e106,e107,e108,e109,e110,e111,e112,e113,e114,e115,e116,e117,e118,.int .i64 ((0:Nat):Int),v120,v121,v122,v123,v124,v125,v126,v127,v128,v129,v130,v131,v132,v133,v134,v135,v136,v137,v138,v139,v140,v141,v142,v143,v144,v145,v146,v147,v148,v149,v150,v151,v152,v153,v154,v155,v156,v157,v158,v159,v160,v161,v162,v163,v164,v165,v166,v167,v168,v169,v170,v171,v172,v173,v174,v175,v176,v177,v178,v179,v180,v181,v182,v183,v184,v185,v186,v187,v188,v189,v190,v191,v192,v193,v194,v195,v196,v197,v198,v199,v200,v201,v202,v203,v204,v205,v206,v207,v208,v209,v210,v211,v212,v213,v214,v215,v216,v217,v218,v219,v220,v221,v222,v223,v224,v225,v226,v227,v228,v229,v230,v231,v232,v233,e234,e235,e236,e237,e238,e239,e240,e241,e242,e243,e244,e245,e246,e247,e248,e249,e250,e251,e252,e253,e254,e255,e256,e257,e258,e259,e260,e261,e262,e263,e264,e265,e266,e267,e268,e269,e270,e271,e272,e273,e274,e275,e276,e277,e278,e279,e280,e281,e282,e283,e284,e285,e286,e287,e288,e289,e290,e291,e292],[]⟩ w') :
    Code.wp Tryz.prog switch4 (Exit.then K' Q') ⟨#[.int .i64 (n:Int),.slice (some ⟨og,0,none⟩) (ol + 1) oc,e2,e3,e4,.pointer (some ⟨d,0,none⟩),e6,.pointer (some ⟨gb,0,none⟩),e8,e9,.int .i64 (dat n:Int),.pointer (some ⟨c.t,0,none⟩),.slice (some ⟨lg,0,none⟩) 3 lc,.slice (some ⟨nb,0,none⟩) 3 nbc,e14,e15,e16,.int .i64 (i:Int),.pointer (some ⟨bx,0,none⟩),.int .i64 (k:Int),.slice (some ⟨ng,0,none⟩) 3 nc,.int .i64 0,.int .i64 0,e23,e24,e25,e26,e27,e28,e29,e30,e31,e32,e33,e34,e35,e36,e37,e38,e39,e40,e41,e42,e43,e44,e45,e46,e47,e48,e49,e50,e51,e52,e53,e54,e55,e56,e57,e58,e59,e60,e61,e62,e63,e64,e65,e66,e67,e68,e69,e70,e71,e72,e73,e74,e75,e76,e77,e78,e79,e80,e81,e82,e83,e84,e85,e86,e87,e88,e89,e90,e91,e92,e93,e94,e95,e96,e97,e98,e99,e100,e101,e102,e103,e104,e105,e106,e107,e108,e109,e110,e111,e112,e113,e114,e115,e116,e117,e118,.int .i64 ((0:Nat):Int),e120,e121,e122,e123,e124,e125,e126,e127,e128,e129,e130,e131,e132,e133,e134,e135,e136,e137,e138,e139,e140,e141,e142,e143,e144,e145,e146,e147,e148,e149,e150,e151,e152,e153,e154,e155,e156,e157,e158,e159,e160,e161,e162,e163,e164,e165,e166,e167,e168,e169,e170,e171,e172,e173,e174,e175,e176,e177,e178,e179,e180,e181,e182,e183,e184,e185,e186,e187,e188,e189,e190,e191,e192,e193,e194,e195,e196,e197,e198,e199,e200,e201,e202,e203,e204,e205,e206,e207,e208,e209,e210,e211,e212,e213,e214,e215,e216,e217,e218,e219,e220,e221,e222,e223,e224,e225,e226,e227,e228,e229,e230,e231,e232,e233,e234,e235,e236,e237,e238,e239,e240,e241,e242,e243,e244,e245,e246,e247,e248,e249,e250,e251,e252,e253,e254,e255,e256,e257,e258,e259,e260,e261,e262,e263,e264,e265,e266,e267,e268,e269,e270,e271,e272,e273,e274,e275,e276,e277,e278,e279,e280,e281,e282,e283,e284,e285,e286,e287,e288,e289,e290,e291,e292],[]⟩ wd:=by
  conv => arg 2; whnf
  have HK:=Lib.hid hK
  have HN:=Lib.hid hn
  have HB:=Lib.hid hB
  have HBD:=Lib.hid hb
  have HLC:=Lib.hid hl
  have HRC:=Lib.hid hr
  have HPC:=Lib.hid hp
  have HCE:=Lib.hid (fun w' (b:Below wc.heap.size wc w') => (sw_cells hl hr hx k hk3).below b)
  have hsd:=hb.size
  obtain ⟨S2,hS2,h40⟩:=hkd.resolve_left (by decide)
  obtain ⟨q,hq⟩:∃ q,k + 2=q:=⟨_,rfl⟩
  rw [hq] at HCE
  have HWC:=Lib.hid (fun w' (b:Below wd.heap.size wd w') => hb.trans (b.mono hsd))
  have k0i:(0:Int) ≤ (k:Int):=by omega
  have k3i:(k:Int) < 3:=by omega
  have hhist:=hl.hold.hist
  have hs90:=hl.s90
  obtain ⟨m,hm⟩:∃ m:Nat,z3 % 5000=(m:Int):=⟨(z3 % 5000).toNat,by omega⟩
  have hm5:m < 5000:=by omega
  have HMOD:=Lib.hid (fun X => mod_any z3 5000 X (by omega) (by omega) hz3.1 hz3.2)
  rw [hm] at HMOD
  have HMADE:=Lib.hid (fun X => made_any X z4 m hz4.1 hz4.2 (by omega))
  obtain ⟨⟨d10,d11,d12,d13,d14⟩,dnb,⟨x0,x1,x2,x3,x4⟩,r0,r1⟩:=HCE.out wd HBD.out
  obtain ⟨_,hlg1,hlg2,_⟩:=hr.typed (g:=lg) rfl
  have hlgn:lg ≠ ng:=by omega
  have hbxn:bx ≠ ng:=by have:=hx.lt; omega
  have HL:=Lib.hid hl
  have HR:=Lib.hid hr
  have HP:=Lib.hid hp
  have HB0:=Lib.hid hB
  have HHN:=Lib.hid hl.hold.env.hn
  have HS2:=Lib.hid hS2
  have HQ:=Lib.hid hq
  have hCB:=Nat.lt_of_lt_of_le hl.hold.cb hsd
  obtain ⟨u1,u2,u3,u4⟩:=geo_facts hl.hold.env.hn
  clear hK hn hB hb hl hr hp hx hkd hq hm hS2 x0 x1
  go_upto_region 31 with fail
  go_region_held3 (fun w' => w'.cell? ⟨bx,3,none⟩=some (.int .i64 z3) ∧ w'.cell? ⟨bx,4,none⟩=some (.int .i64 z4)) (first | exact ⟨x3,x4⟩ | exact HSK.out) (first
    | (go_at_call 11
       refine (HMOD.out _).mono ?_
       rintro e w' ⟨rfl,rfl⟩)
    | (go_at_call 13
       refine (HMADE.out _).mono ?_
       rintro e w1 ⟨l,hlen,rfl,hb1⟩
       have HB1:=Lib.hid ((Below.refl wd.heap.size wd).drew.trans (hb1.mono (Nat.le_refl _)))
       have HLEN:=Lib.hid hlen
       have HSK:=Lib.hid (show w1.cell? ⟨bx,3,none⟩=some (.int .i64 z3) ∧ w1.cell? ⟨bx,4,none⟩=some (.int .i64 z4) from by
         obtain ⟨_,_,⟨_,_,_,q3,q4⟩,_⟩:=HCE.out w1 (HWC.out w1 HB1.out)
         exact ⟨q3,q4⟩)
       clear hlen hb1))
  clear d10 d11 d12 d13 d14 dnb x2 x3 x4 r0 r1 HMOD HMADE HSK hlg1 hlg2
  have HW1:=Lib.hid (HWC.out w1 HB1.out)
  obtain ⟨⟨d10,d11,d12,d13,d14⟩,dnb,⟨_,_,x2,_,_⟩,r0,r1⟩:=HCE.out w1 HW1.out
  have hl5:l.length ≤ 5000:=by have:=HLEN.out; omega
  have HN1:=Lib.hid (HN.out.away (by decide) (Away.below HB1.out))
  have hs1:=HW1.out.size
  have v1:=i64_wr ((8459264:Int) - (l.length:Int)) (by omega)
  have v2:=i64_wr ((n:Int) - (dat n:Int)) (by omega)
  clear HLEN HN hm5
  by_cases hneg:z2 < 0
  · have HWR:=Lib.hid (fun X (b:Below wc.heap.size wc X) => fwrite_neg c X O T n (HL.out.hold.later b).env _ _ Q HL.out.hold.fs k S HL.out.hold.cov 0 z2 hneg ⟨l.toArray⟩)
    rw [HQ.out] at HWR
    have HSW:=Lib.hid (fun w1 (b:Below wc.heap.size wc w1) e w2 (hd:FDone c w1 O T n Q S 0 k (Q k) 1 e w2) => sw_done (lv:=.slice (some ⟨lg,0,none⟩) 3 lc) (nxt:=.slice (some ⟨ng,0,none⟩) 3 nc) (code:=1) (ms2:=ms) (HL.out.later b) HB0.out (by omega) hd (by rw [setQ_self,if_neg (by decide)]; exact HR.out.away (by decide) (Away.below b)) (by rw [setQ_self]; exact HP.out.later b))
    clear HCE HL HR HP HB0 r0 r1 HN1 v1 v2
    go_upto_region 39 with fail
    go_still_tail 9,(by kernel_rfl)
    go_wp2_with (
      (go_at_call 16
       refine (HWR.out _ HW1.out.drew).mono ?_
       intro e w2 hd
       obtain ⟨rfl,hsw⟩:=HSW.out _ HW1.out.drew e w2 hd
       have HS:=Lib.hid hsw
       clear hd hsw))
    exact HK.out _ _ _ _ _ _ _ _ _ _ _ _ _ _ _ _ _ _ _ _ _ _ _ _ _ _ _ _ _ _ _ _ _ _ _ _ _ _ _ _ _ _ _ _ _ _ _ _ _ _ _ _ _ _ _ _ _ _ _ _ _ _ _ _ _ _ _ _ _ _ _ _ _ _ _ _ _ _ _ _ _ _ _ _ _ _ _ _ _ _ _ _ _ _ _ _ _ _ _ _ _ _ _ _ _ _ _ _ _ _ _ _ _ _ _ _ _ _ _ _ _ w2 HS.out
  · obtain ⟨off,rfl⟩:∃ off:Nat,z2=(off:Int):=⟨z2.toNat,by omega⟩
    have HWR:=Lib.hid (fun X (b:Below wc.heap.size wc X) => fwrite_any c X O T n (HL.out.hold.later b).env _ _ Q HL.out.hold.fs k hk3 S2 HS2.out (by omega) (by omega) (Nat.lt_of_lt_of_le HL.out.hold.cb b.size) off l.length l rfl hl5 (by omega) ⟨l.toArray⟩ rfl)
    rw [HQ.out] at HWR
    by_cases hbig:8459264 < off + l.length
    · have hbi:(8459264:Int) - (l.length:Int) < (off:Int):=by omega
      have HSW:=Lib.hid (fun w1 (b:Below wc.heap.size wc w1) e w2 (hd:FDone c w1 O T n Q S2 40 k (Q k) 120 e w2) => sw_done (lv:=.slice (some ⟨lg,0,none⟩) 3 lc) (nxt:=.slice (some ⟨ng,0,none⟩) 3 nc) (code:=120) (ms2:=ms) (HL.out.later b) HB0.out (by omega) hd (by rw [setQ_self,if_neg (by decide)]; exact HR.out.away (by decide) (Away.below b)) (by rw [setQ_self]; exact HP.out.later b))
      simp only [if_pos hbig] at HWR
      clear HCE HL HR HP HB0 r0 r1 HN1 v2
      go_upto_region 39 with fail
      go_still_tail 9,(by kernel_rfl)
      go_wp2_with (
        (go_at_call 16
         refine (HWR.out _ HW1.out.drew).mono ?_
         intro e w2 hd
         obtain ⟨rfl,hsw⟩:=HSW.out _ HW1.out.drew e w2 hd
         have HS:=Lib.hid hsw
         clear hd hsw))
      exact HK.out _ _ _ _ _ _ _ _ _ _ _ _ _ _ _ _ _ _ _ _ _ _ _ _ _ _ _ _ _ _ _ _ _ _ _ _ _ _ _ _ _ _ _ _ _ _ _ _ _ _ _ _ _ _ _ _ _ _ _ _ _ _ _ _ _ _ _ _ _ _ _ _ _ _ _ _ _ _ _ _ _ _ _ _ _ _ _ _ _ _ _ _ _ _ _ _ _ _ _ _ _ _ _ _ _ _ _ _ _ _ _ _ _ _ _ _ _ _ _ _ _ w2 HS.out
    · have hbi:¬ (8459264:Int) - (l.length:Int) < (off:Int):=by omega
      simp only [if_neg hbig] at HWR
      obtain ⟨P2,hP2⟩:∃ P2,(Q k).wr off l=P2:=⟨_,rfl⟩
      have HPW:=Lib.hid (fun X (b:Below wc.heap.size wc X) => pwrite_at (HP.out.later b) (HL.out.later b).hold.env.tx.lt k hk3 off l.length l rfl (by omega) hl5)
      rw [hP2] at HPW
      simp only [hP2] at HWR
      have HSW:=Lib.hid (fun w1 (b:Below wc.heap.size wc w1) e w2 m2 (hn2:RF w1 O w0.heap.size 47 2 (.slice (some ⟨ng,0,none⟩) 3 nc) 3 (plC (setM k m2 ms) (setQ k P2 Q))) (hp2:PF w1 O m2 P2) (hd:FDone c w1 O T n Q S2 40 k P2 0 e w2) => sw_done (lv:=.slice (some ⟨lg,0,none⟩) 3 lc) (nxt:=.slice (some ⟨ng,0,none⟩) 3 nc) (code:=0) (HL.out.later b) HB0.out (by omega) hd (by rw [if_pos rfl]; exact hn2) ((HP.out.later b).set k hp2))
      have HSF:=Lib.hid (fun w1 (b:Below wc.heap.size wc w1) w2 O' (ht:TxnAt c w2 O' T) (hf:Fr w1 O w2 O') => sw_full (lv:=.slice (some ⟨lg,0,none⟩) 3 lc) (nxt:=.slice (some ⟨ng,0,none⟩) 3 nc) (ms:=ms) (code:=90) (HL.out.later b) HB0.out ht hf (by decide) (HR.out.away (by decide) (Away.below b)) (HP.out.later b))
      clear d10 d11 d12 d13 d14 dnb hP2
      go_upto_region 32 with fail
      go_region_held3 (fun w' => w'.cell? ⟨lg,k * 2,none⟩=some (.map (some (ms k))) ∧ w'.cell? ⟨lg,k * 2 + 1,none⟩=some (.int .i64 ((Q k).size:Int)) ∧ w'.cell? ⟨bx,2,none⟩=some (.int .i64 (off:Int))) (first | exact ⟨r0,r1,x2⟩ | exact HSL.out | exact ⟨row_keep hlgn HSL.out.1,row_keep hlgn HSL.out.2.1,row_keep hbxn HSL.out.2.2⟩) (first
        | (go_at_call 14
           refine (HPW.out _ HW1.out.drew).mono ?_
           rintro e w2 ⟨m2,rfl,hpf,hb2⟩
           have HB2:=Lib.hid ((Below.refl w1.heap.size w1).drew.trans (hb2.mono (Nat.le_refl _)))
           have HPF:=Lib.hid hpf
           have HN2:=Lib.hid (HN1.out.away (by decide) (Away.below HB2.out))
           obtain ⟨f0,f1⟩:=PRow.cell HN2.out.1 k hk3
           have g0:=World.ownsRow.frozenAt HN2.out.1 (k * 2)
           have g1:=World.ownsRow.frozenAt HN2.out.1 (k * 2 + 1)
           have HSL:=Lib.hid (HCE.out w2 (HW1.out.trans (HB2.out.mono hs1))).row
           clear hpf hb2))
      obtain ⟨hn3,kk⟩:=row_set HN2.out k hk3 m2 P2
      obtain ⟨w3,hw3⟩:∃ w3,(w2.setCell ⟨ng,k * 2,none⟩ (.map (some m2))).setCell ⟨ng,k * 2 + 1,none⟩ (.int .i64 (P2.size:Int))=w3:=⟨_,rfl⟩
      rw [hw3] at hn3 kk ⊢
      have hbw2:=HW1.out.trans (HB2.out.mono hs1)
      have hb3:=hbw2.trans (kk.below hbw2.size (fun j e => by injection e with e; have e:ng=j:=e; omega))
      have HB3:=Lib.hid hb3
      have HPF3:=Lib.hid (HPF.out.apart kk (fun g hg => (HN2.out.typed hg).1) (by decide))
      have HN3:=Lib.hid hn3
      have hs3:=hb3.size
      have HALL:=Lib.hid (all_any w3 O w0.heap.size (setM k m2 ms) (setQ k P2 Q) (.slice (some ⟨ng,0,none⟩) 3 nc) hn3.1 ((HP.out.later hb3).set k HPF3.out))
      obtain ⟨K3,hK3⟩:∃ K3,takes3 (setQ k P2 Q)=K3:=⟨_,rfl⟩
      rw [hK3] at HALL
      have HFIT:=Lib.hid (fun w1 e w2 (hd:FWrote c w1 O T n Q S2 k P2 e w2) (h:¬ n < K3 + dat n) => wrote_fit hd (by rw [hK3]; exact h))
      have HFULL:=Lib.hid (fun w1 e w2 (hd:FWrote c w1 O T n Q S2 k P2 e w2) (h:n < K3 + dat n) => wrote_full hd HHN.out (by rw [hK3]; exact h))
      clear hn3 kk hbw2 hb3 f0 f1 g0 g1 r0 r1 x2 hw3 HB2 HN2 HN1 HL HR HP HB0 hK3
      by_cases hfull:n < K3 + dat n
      · have hfi:(n:Int) - (dat n:Int) < (K3:Int):=by omega
        go_upto_region 39 with (
          (go_at_call 15
           refine HALL.out.mono ?_
           rintro e w4 ⟨rfl,hb4⟩
           have HB4:=Lib.hid (HB3.out.trans (hb4.mono hs3))
           clear hb4))
        obtain ⟨d10,d11,d12,d13,d14,dnb,x2⟩:=(HCE.out w4 HB4.out).call
        go_still_tail 9,(by kernel_rfl)
        go_wp2_with (
          (go_at_call 16
           refine (HWR.out _ HB4.out.drew).mono ?_
           intro e w5 hd
           obtain ⟨rfl,O',ht,hf⟩:=HFULL.out _ e w5 hd hfull
           have HS:=Lib.hid (HSF.out _ HB4.out.drew w5 O' ht hf)
           clear hd ht hf))
        exact HK.out _ _ _ _ _ _ _ _ _ _ _ _ _ _ _ _ _ _ _ _ _ _ _ _ _ _ _ _ _ _ _ _ _ _ _ _ _ _ _ _ _ _ _ _ _ _ _ _ _ _ _ _ _ _ _ _ _ _ _ _ _ _ _ _ _ _ _ _ _ _ _ _ _ _ _ _ _ _ _ _ _ _ _ _ _ _ _ _ _ _ _ _ _ _ _ _ _ _ _ _ _ _ _ _ _ _ _ _ _ _ _ _ _ _ _ _ _ _ _ _ _ w5 HS.out
      · have hfi:¬ (n:Int) - (dat n:Int) < (K3:Int):=by omega
        go_upto_region 39 with (
          (go_at_call 15
           refine HALL.out.mono ?_
           rintro e w4 ⟨rfl,hb4⟩
           have HB4:=Lib.hid (HB3.out.trans (hb4.mono hs3))
           have HN4:=Lib.hid (HN3.out.away (by decide) ((Away.below hb4).trans (Away.below (Below.refl w4.heap.size w4).drew)))
           have HPF4:=Lib.hid ((HPF3.out.later hb4).later (Below.refl w4.heap.size w4).drew)
           clear hb4))
        obtain ⟨d10,d11,d12,d13,d14,dnb,x2⟩:=(HCE.out w4 HB4.out).call
        go_still_tail 9,(by kernel_rfl)
        go_wp2_with (
          (go_at_call 16
           refine (HWR.out _ HB4.out.drew).mono ?_
           intro e w5 hd
           obtain ⟨rfl,hsw⟩:=HSW.out _ HB4.out.drew e w5 m2 HN4.out HPF4.out (HFIT.out _ e w5 hd hfull)
           have HS:=Lib.hid hsw
           clear hd hsw))
        exact HK.out _ _ _ _ _ _ _ _ _ _ _ _ _ _ _ _ _ _ _ _ _ _ _ _ _ _ _ _ _ _ _ _ _ _ _ _ _ _ _ _ _ _ _ _ _ _ _ _ _ _ _ _ _ _ _ _ _ _ _ _ _ _ _ _ _ _ _ _ _ _ _ _ _ _ _ _ _ _ _ _ _ _ _ _ _ _ _ _ _ _ _ _ _ _ _ _ _ _ _ _ _ _ _ _ _ _ _ _ _ _ _ _ _ _ _ _ _ _ _ _ _ w5 HS.out
end Go.Proofs.YthkijogloebdoaaGreatDoor
end
section
set_option maxRecDepth 1000000
namespace Go.Proofs.YthkijogloebdoaaGreatDoor
open Go.RowKit Go.Maps Rec Gp Fs
set_option maxHeartbeats 6400000 in
theorem kind1 (n ol oc og d gb nb nbc lg lc ng nc bx:Nat)(w0:World)(B a:Nat)(cs:List Value)(i k:Nat)(c:Cx)(O:Nat → Prop)(T:Tn)(X:Nat → Ino)(L:Nat → Nat → Nat)(Q:Nat → Pl)(S:List Nat)(ms:Nat → Nat)(z z1 z2 z3 z4:Int)(wc wd:World)(K':Act → World → Prop)(Q':Exit → Act → World → Prop)
    (e2 e3 e4 e6 e8 e9 e14 e15 e16 e23 e24 e25 e26 e27 e28 e29 e30 e31 e32 e33 e34 e35 e36 e37 e38 e39 e40 e41 e42 e43 e44 e45 e46 e47 e48 e49 e50 e51 e52 e53 e54 e55 e56 e57 e58 e59 e60 e61 e62 e63 e64 e65 e66 e67 e68 e69 e70 e71 e72 e73 e74 e75 e76 e77 e78 e79 e80 e81 e82 e83 e84 e85 e86 e87 e88 e89 e90 e91 e92 e93 e94 e95 e96 e97 e98 e99 e100 e101 e102 e103 e104 e105 e106 e107 e108 e109 e110 e111 e112 e113 e114 e115 e116 e117 e118 e120 e121 e122 e123 e124 e125 e126 e127 e128 e129 e130 e131 e132 e133 e134 e135 e136 e137 e138 e139 e140 e141 e142 e143 e144 e145 e146 e147 e148 e149 e150 e151 e152 e153 e154 e155 e156 e157 e158 e159 e160 e161 e162 e163 e164 e165 e166 e167 e168 e169 e170 e171 e172 e173 e174 e175 e176 e177 e178 e179 e180 e181 e182 e183 e184 e185 e186 e187 e188 e189 e190 e191 e192 e193 e194 e195 e196 e197 e198 e199 e200 e201 e202 e203 e204 e205 e206 e207 e208 e209 e210 e211 e212 e213 e214 e215 e216 e217 e218 e219 e220 e221 e222 e223 e224 e225 e226 e227 e228 e229 e230 e231 e232 e233 e234 e235 e236 e237 e238 e239 e240 e241 e242 e243 e244 e245 e246 e247 e248 e249 e250 e251 e252 e253 e254 e255 e256 e257 e258 e259 e260 e261 e262 e263 e264 e265 e266 e267 e268 e269 e270 e271 e272 e273 e274 e275 e276 e277 e278 e279 e280 e281 e282 e283 e284 e285 e286 e287 e288 e289 e290 e291 e292:Value)
    (hB:w0.heap.size ≤ B)(hi40:i < 40)(hk3:k < 3)
    (hl:Loop n w0 B a d gb (.slice (some ⟨nb,0,none⟩) 3 nbc) (.slice (some ⟨og,0,none⟩) (ol + 1) oc) cs ol i wc c O T X L Q S)
    (hr:RF wc O w0.heap.size 47 2 (.slice (some ⟨lg,0,none⟩) 3 lc) 3 (plC ms Q))(hp:PQ wc O ms Q)
    (hx:Is wc bx 49 #[.int .i64 z,.int .i64 z1,.int .i64 z2,.int .i64 z3,.int .i64 z4])
    (hb:Below wc.heap.size wc wd)(hn:RF wd O w0.heap.size 47 2 (.slice (some ⟨ng,0,none⟩) 3 nc) 3 (plC ms Q))(hng:wc.heap.size ≤ ng)
    (hkd:1=3 ∨ ∃ S2,T.Cov S2 ∧ S2.length ≤ 40)
    (hz2 : -9223372036854775808 ≤ z2 ∧ z2 ≤ 9223372036854775807)(hz3 : -9223372036854775808 ≤ z3 ∧ z3 ≤ 9223372036854775807)(hz4 : -9223372036854775808 ≤ z4 ∧ z4 ≤ 9223372036854775807)
    (hK:∀ (v11 v21 v22 v23 v24 v25 v26 v120 v121 v122 v123 v124 v125 v126 v127 v128 v129 v130 v131 v132 v133 v134 v135 v136 v137 v138 v139 v140 v141 v142 v143 v144 v145 v146 v147 v148 v149 v150 v151 v152 v153 v154 v155 v156 v157 v158 v159 v160 v161 v162 v163 v164 v165 v166 v167 v168 v169 v170 v171 v172 v173 v174 v175 v176 v177 v178 v179 v180 v181 v182 v183 v184 v185 v186 v187 v188 v189 v190 v191 v192 v193 v194 v195 v196 v197 v198 v199 v200 v201 v202 v203 v204 v205 v206 v207 v208 v209 v210 v211 v212 v213 v214 v215 v216 v217 v218 v219 v220 v221 v222 v223 v224 v225 v226 v227 v228 v229 v230 v231 v232 v233:Value)(w':World),Switched n w0 B a d gb (.slice (some ⟨nb,0,none⟩) 3 nbc) (.slice (some ⟨og,0,none⟩) (ol + 1) oc) cs ol i (.slice (some ⟨lg,0,none⟩) 3 lc) (.slice (some ⟨ng,0,none⟩) 3 nc) v11 v21 v22 w' → K' ⟨#[.int .i64 (n:Int),.slice (some ⟨og,0,none⟩) (ol + 1) oc,e2,e3,e4,.pointer (some ⟨d,0,none⟩),e6,.pointer (some ⟨gb,0,none⟩),e8,e9,.int .i64 (dat n:Int),v11,.slice (some ⟨lg,0,none⟩) 3 lc,.slice (some ⟨nb,0,none⟩) 3 nbc,e14,e15,e16,.int .i64 (i:Int),.pointer (some ⟨bx,0,none⟩),.int .i64 (k:Int),.slice (some ⟨ng,0,none⟩) 3 nc,v21,v22,v23,v24,v25,v26,e27,e28,e29,e30,e31,e32,e33,e34,e35,e36,e37,e38,e39,e40,e41,e42,e43,e44,e45,e46,e47,e48,e49,e50,e51,e52,e53,e54,e55,e56,e57,e58,e59,e60,e61,e62,e63,e64,e65,e66,e67,e68,e69,e70,e71,e72,e73,e74,e75,e76,e77,e78,e79,e80,e81,e82,e83,e84,e85,e86,e87,e88,e89,e90,e91,e92,e93,e94,e95,e96,e97,e98,e99,e100,e101,e102,e103,e104,e105,e106,e107,e108,e109,e110,e111,e112,e113,e114,e115,e116,e117,e118,.int .i64 ((1:Nat):Int),v120,v121,v122,v123,v124,v125,v126,v127,v128,v129,v130,v131,v132,v133,v134,v135,v136,v137,v138,v139,v140,v141,v142,v143,v144,v145,v146,v147,v148,v149,v150,v151,v152,v153,v154,v155,v156,v157,v158,v159,v160,v161,v162,v163,v164,v165,v166,v167,v168,v169,v170,v171,v172,v173,v174,v175,v176,v177,v178,v179,v180,v181,v182,v183,v184,v185,v186,v187,v188,v189,v190,v191,v192,v193,v194,v195,v196,v197,v198,v199,v200,v201,v202,v203,v204,v205,v206,v207,v208,v209,v210,v211,v212,v213,v214,v215,v216,v217,v218,v219,v220,v221,v222,v223,v224,v225,v226,v227,v228,v229,v230,v231,v232,v233,e234,e235,e236,e237,e238,e239,e240,e241,e242,e243,e244,e245,e246,e247,e248,e249,e250,e251,e252,e253,e254,e255,e256,e257,e258,e259,e260,e261,e262,e263,e264,e265,e266,e267,e268,e269,e270,e271,e272,e273,e274,e275,e276,e277,e278,e279,e280,e281,e282,e283,e284,e285,e286,e287,e288,e289,e290,e291,e292],[]⟩ w') :
    Code.wp Tryz.prog switch4 (Exit.then K' Q') ⟨#[.int .i64 (n:Int),.slice (some ⟨og,0,none⟩) (ol + 1) oc,e2,e3,e4,.pointer (some ⟨d,0,none⟩),e6,.pointer (some ⟨gb,0,none⟩),e8,e9,.int .i64 (dat n:Int),.pointer (some ⟨c.t,0,none⟩),.slice (some ⟨lg,0,none⟩) 3 lc,.slice (some ⟨nb,0,none⟩) 3 nbc,e14,e15,e16,.int .i64 (i:Int),.pointer (some ⟨bx,0,none⟩),.int .i64 (k:Int),.slice (some ⟨ng,0,none⟩) 3 nc,.int .i64 0,.int .i64 0,e23,e24,e25,e26,e27,e28,e29,e30,e31,e32,e33,e34,e35,e36,e37,e38,e39,e40,e41,e42,e43,e44,e45,e46,e47,e48,e49,e50,e51,e52,e53,e54,e55,e56,e57,e58,e59,e60,e61,e62,e63,e64,e65,e66,e67,e68,e69,e70,e71,e72,e73,e74,e75,e76,e77,e78,e79,e80,e81,e82,e83,e84,e85,e86,e87,e88,e89,e90,e91,e92,e93,e94,e95,e96,e97,e98,e99,e100,e101,e102,e103,e104,e105,e106,e107,e108,e109,e110,e111,e112,e113,e114,e115,e116,e117,e118,.int .i64 ((1:Nat):Int),e120,e121,e122,e123,e124,e125,e126,e127,e128,e129,e130,e131,e132,e133,e134,e135,e136,e137,e138,e139,e140,e141,e142,e143,e144,e145,e146,e147,e148,e149,e150,e151,e152,e153,e154,e155,e156,e157,e158,e159,e160,e161,e162,e163,e164,e165,e166,e167,e168,e169,e170,e171,e172,e173,e174,e175,e176,e177,e178,e179,e180,e181,e182,e183,e184,e185,e186,e187,e188,e189,e190,e191,e192,e193,e194,e195,e196,e197,e198,e199,e200,e201,e202,e203,e204,e205,e206,e207,e208,e209,e210,e211,e212,e213,e214,e215,e216,e217,e218,e219,e220,e221,e222,e223,e224,e225,e226,e227,e228,e229,e230,e231,e232,e233,e234,e235,e236,e237,e238,e239,e240,e241,e242,e243,e244,e245,e246,e247,e248,e249,e250,e251,e252,e253,e254,e255,e256,e257,e258,e259,e260,e261,e262,e263,e264,e265,e266,e267,e268,e269,e270,e271,e272,e273,e274,e275,e276,e277,e278,e279,e280,e281,e282,e283,e284,e285,e286,e287,e288,e289,e290,e291,e292],[]⟩ wd:=by
  conv => arg 2; whnf
  have HK:=Lib.hid hK
  have HN:=Lib.hid hn
  have HB:=Lib.hid hB
  have HBD:=Lib.hid hb
  have HLC:=Lib.hid hl
  have HRC:=Lib.hid hr
  have HPC:=Lib.hid hp
  have HCE:=Lib.hid (fun w' (b:Below wc.heap.size wc w') => (sw_cells hl hr hx k hk3).below b)
  have hsd:=hb.size
  obtain ⟨S2,hS2,h40⟩:=hkd.resolve_left (by decide)
  obtain ⟨q,hq⟩:∃ q,k + 2=q:=⟨_,rfl⟩
  rw [hq] at HCE
  have HWC:=Lib.hid (fun w' (b:Below wd.heap.size wd w') => hb.trans (b.mono hsd))
  have k0i:(0:Int) ≤ (k:Int):=by omega
  have k3i:(k:Int) < 3:=by omega
  have hhist:=hl.hold.hist
  have hs90:=hl.s90
  obtain ⟨⟨d10,d11,d12,d13,d14⟩,dnb,⟨x0,x1,x2,x3,x4⟩,r0,r1⟩:=HCE.out wd HBD.out
  by_cases hneg:z2 < 0
  · have HCU:=Lib.hid (fun X (b:Below wd.heap.size wd X) => fcut_neg c X O T n (hl.hold.later (HWC.out X b)).env _ _ Q hl.hold.fs k S hl.hold.cov 0 z2 hneg)
    rw [hq] at HCU
    have HSW:=Lib.hid (fun w1 (b:Below wd.heap.size wd w1) e w2 (hd:FDone c w1 O T n Q S 0 k (Q k) 1 e w2) => sw_done (lv:=.slice (some ⟨lg,0,none⟩) 3 lc) (nxt:=.slice (some ⟨ng,0,none⟩) 3 nc) (code:=1) (ms2:=ms) (hl.later (HWC.out w1 b)) hB (by omega) hd (by rw [setQ_self,if_neg (by decide)]; exact hr.away (by decide) (Away.below (HWC.out w1 b))) (by rw [setQ_self]; exact hp.later (HWC.out w1 b)))
    clear hK hn hB hb hl hr hp hx hkd hq x0 x1 x3 x4 r0 r1 hS2
    go_upto_region 46 with fail
    go_still_tail 8,(by kernel_rfl)
    go_wp2_with (
      (go_at_call 18
       refine (HCU.out _ (Below.refl wd.heap.size wd).drew).mono ?_
       intro e w2 hd
       obtain ⟨rfl,hsw⟩:=HSW.out _ (Below.refl wd.heap.size wd).drew e w2 hd
       have HS:=Lib.hid hsw
       clear hd hsw))
    exact HK.out _ _ _ _ _ _ _ _ _ _ _ _ _ _ _ _ _ _ _ _ _ _ _ _ _ _ _ _ _ _ _ _ _ _ _ _ _ _ _ _ _ _ _ _ _ _ _ _ _ _ _ _ _ _ _ _ _ _ _ _ _ _ _ _ _ _ _ _ _ _ _ _ _ _ _ _ _ _ _ _ _ _ _ _ _ _ _ _ _ _ _ _ _ _ _ _ _ _ _ _ _ _ _ _ _ _ _ _ _ _ _ _ _ _ _ _ _ _ _ _ _ w2 HS.out
  · obtain ⟨off,rfl⟩:∃ off:Nat,z2=(off:Int):=⟨z2.toNat,by omega⟩
    have HCU:=Lib.hid (fun X (b:Below wc.heap.size wc X) => fcut_any c X O T n (hl.hold.later b).env _ _ Q hl.hold.fs k hk3 S2 hS2 (by omega) (by omega) off)
    rw [hq] at HCU
    by_cases hbig:8459264 < off
    · have hbi:(8459264:Int) < (off:Int):=by omega
      have HSW:=Lib.hid (fun w1 (b:Below wc.heap.size wc w1) e w2 (hd:FDone c w1 O T n Q S2 9 k (Q k) 120 e w2) => sw_done (lv:=.slice (some ⟨lg,0,none⟩) 3 lc) (nxt:=.slice (some ⟨ng,0,none⟩) 3 nc) (code:=120) (ms2:=ms) (hl.later b) hB (by omega) hd (by rw [setQ_self,if_neg (by decide)]; exact hr.away (by decide) (Away.below b)) (by rw [setQ_self]; exact hp.later b))
      rw [if_pos hbig,if_pos hbig] at HCU
      clear hK hn hB hb hl hr hp hx hkd hq x0 x1 x3 x4 r0 r1 hS2
      go_upto_region 46 with fail
      go_still_tail 8,(by kernel_rfl)
      go_wp2_with (
        (go_at_call 18
         refine (HCU.out _ HBD.out.drew).mono ?_
         intro e w2 hd
         obtain ⟨rfl,hsw⟩:=HSW.out _ HBD.out.drew e w2 hd
         have HS:=Lib.hid hsw
         clear hd hsw))
      exact HK.out _ _ _ _ _ _ _ _ _ _ _ _ _ _ _ _ _ _ _ _ _ _ _ _ _ _ _ _ _ _ _ _ _ _ _ _ _ _ _ _ _ _ _ _ _ _ _ _ _ _ _ _ _ _ _ _ _ _ _ _ _ _ _ _ _ _ _ _ _ _ _ _ _ _ _ _ _ _ _ _ _ _ _ _ _ _ _ _ _ _ _ _ _ _ _ _ _ _ _ _ _ _ _ _ _ _ _ _ _ _ _ _ _ _ _ _ _ _ _ _ _ w2 HS.out
    · have hbi:¬ (8459264:Int) < (off:Int):=by omega
      rw [if_neg hbig,if_neg hbig] at HCU
      obtain ⟨_,hlg1,hlg2,_⟩:=hr.typed (g:=lg) rfl
      have hlgn:lg ≠ ng:=by omega
      have hbxn:bx ≠ ng:=by have:=hx.lt; omega
      obtain ⟨P2,hP2⟩:∃ P2,(Q k).cut off=P2:=⟨_,rfl⟩
      have HPW:=Lib.hid (fun X (b:Below wc.heap.size wc X) => pcut_at (hp.later b) (hl.later b).hold.env.tx.lt k hk3 off (by omega))
      rw [hP2] at HCU HPW
      have HSW:=Lib.hid (fun w1 (b:Below wc.heap.size wc w1) e w2 m2 (hn2:RF w1 O w0.heap.size 47 2 (.slice (some ⟨ng,0,none⟩) 3 nc) 3 (plC (setM k m2 ms) (setQ k P2 Q))) (hp2:PF w1 O m2 P2) (hd:FDone c w1 O T n Q S2 9 k P2 0 e w2) => sw_done (lv:=.slice (some ⟨lg,0,none⟩) 3 lc) (nxt:=.slice (some ⟨ng,0,none⟩) 3 nc) (code:=0) (hl.later b) hB (by omega) hd (by rw [if_pos rfl]; exact hn2) ((hp.later b).set k hp2))
      clear hK hn hB hb hl hr hp hx hkd hq x0 x1 x3 x4 hS2 hP2
      go_upto_region 41 with fail
      go_region_held3 (fun w' => w'.cell? ⟨lg,k * 2,none⟩=some (.map (some (ms k))) ∧ w'.cell? ⟨lg,k * 2 + 1,none⟩=some (.int .i64 ((Q k).size:Int)) ∧ w'.cell? ⟨bx,2,none⟩=some (.int .i64 (off:Int))) (first | exact ⟨r0,r1,x2⟩ | exact HSL.out | exact ⟨row_keep hlgn HSL.out.1,row_keep hlgn HSL.out.2.1,row_keep hbxn HSL.out.2.2⟩) (first
        | (go_at_call 17
           refine (HPW.out _ HBD.out.drew).mono ?_
           rintro e w1 ⟨m2,rfl,hpf,hb1⟩
           have HB1:=Lib.hid ((Below.refl wd.heap.size wd).drew.trans (hb1.mono (Nat.le_refl _)))
           have HPF:=Lib.hid hpf
           have HN1:=Lib.hid (HN.out.away (by decide) (Away.below HB1.out))
           obtain ⟨f0,f1⟩:=PRow.cell HN1.out.1 k hk3
           have g0:=World.ownsRow.frozenAt HN1.out.1 (k * 2)
           have g1:=World.ownsRow.frozenAt HN1.out.1 (k * 2 + 1)
           have HSL:=Lib.hid (HCE.out w1 (HWC.out w1 HB1.out)).row
           clear hpf hb1))
      obtain ⟨hn2,kk⟩:=row_set HN1.out k hk3 m2 P2
      obtain ⟨w2,hw2⟩:∃ w2,(w1.setCell ⟨ng,k * 2,none⟩ (.map (some m2))).setCell ⟨ng,k * 2 + 1,none⟩ (.int .i64 (P2.size:Int))=w2:=⟨_,rfl⟩
      rw [hw2] at hn2 kk ⊢
      have hb2:=(HWC.out w1 HB1.out).trans (kk.below (HWC.out w1 HB1.out).size (fun j e => by injection e with e; have e:ng=j:=e; omega))
      have HB2:=Lib.hid hb2
      have HPF2:=Lib.hid ((HPF.out.apart kk (fun g hg => (HN1.out.typed hg).1) (by decide)).later (Below.refl w2.heap.size w2).drew)
      have HN2:=Lib.hid (hn2.away (by decide) (Away.below (Below.refl w2.heap.size w2).drew))
      obtain ⟨d10,d11,d12,d13,d14,dnb,x2⟩:=(HCE.out w2 hb2).call
      clear hn2 kk hb2 f0 f1 g0 g1 r0 r1 hw2
      go_upto_region 46 with fail
      go_still_tail 8,(by kernel_rfl)
      go_wp2_with (
        (go_at_call 18
         refine (HCU.out _ HB2.out.drew).mono ?_
         intro e w3 hd
         obtain ⟨rfl,hsw⟩:=HSW.out _ HB2.out.drew e w3 m2 HN2.out HPF2.out hd
         have HS:=Lib.hid hsw
         clear hd hsw))
      exact HK.out _ _ _ _ _ _ _ _ _ _ _ _ _ _ _ _ _ _ _ _ _ _ _ _ _ _ _ _ _ _ _ _ _ _ _ _ _ _ _ _ _ _ _ _ _ _ _ _ _ _ _ _ _ _ _ _ _ _ _ _ _ _ _ _ _ _ _ _ _ _ _ _ _ _ _ _ _ _ _ _ _ _ _ _ _ _ _ _ _ _ _ _ _ _ _ _ _ _ _ _ _ _ _ _ _ _ _ _ _ _ _ _ _ _ _ _ _ _ _ _ _ w3 HS.out
end Go.Proofs.YthkijogloebdoaaGreatDoor
end
section
set_option maxRecDepth 1000000
namespace Go.Proofs.YthkijogloebdoaaGreatDoor
open Go.RowKit Go.Maps Rec Gp Fs
set_option maxHeartbeats 6400000 in
theorem kind2 (n ol oc og d gb nb nbc lg lc ng nc bx:Nat)(w0:World)(B a:Nat)(cs:List Value)(i k:Nat)(c:Cx)(O:Nat → Prop)(T:Tn)(X:Nat → Ino)(L:Nat → Nat → Nat)(Q:Nat → Pl)(S:List Nat)(ms:Nat → Nat)(z z1 z2 z3 z4:Int)(wc wd:World)(K':Act → World → Prop)(Q':Exit → Act → World → Prop)
    (e2 e3 e4 e6 e8 e9 e14 e15 e16 e23 e24 e25 e26 e27 e28 e29 e30 e31 e32 e33 e34 e35 e36 e37 e38 e39 e40 e41 e42 e43 e44 e45 e46 e47 e48 e49 e50 e51 e52 e53 e54 e55 e56 e57 e58 e59 e60 e61 e62 e63 e64 e65 e66 e67 e68 e69 e70 e71 e72 e73 e74 e75 e76 e77 e78 e79 e80 e81 e82 e83 e84 e85 e86 e87 e88 e89 e90 e91 e92 e93 e94 e95 e96 e97 e98 e99 e100 e101 e102 e103 e104 e105 e106 e107 e108 e109 e110 e111 e112 e113 e114 e115 e116 e117 e118 e120 e121 e122 e123 e124 e125 e126 e127 e128 e129 e130 e131 e132 e133 e134 e135 e136 e137 e138 e139 e140 e141 e142 e143 e144 e145 e146 e147 e148 e149 e150 e151 e152 e153 e154 e155 e156 e157 e158 e159 e160 e161 e162 e163 e164 e165 e166 e167 e168 e169 e170 e171 e172 e173 e174 e175 e176 e177 e178 e179 e180 e181 e182 e183 e184 e185 e186 e187 e188 e189 e190 e191 e192 e193 e194 e195 e196 e197 e198 e199 e200 e201 e202 e203 e204 e205 e206 e207 e208 e209 e210 e211 e212 e213 e214 e215 e216 e217 e218 e219 e220 e221 e222 e223 e224 e225 e226 e227 e228 e229 e230 e231 e232 e233 e234 e235 e236 e237 e238 e239 e240 e241 e242 e243 e244 e245 e246 e247 e248 e249 e250 e251 e252 e253 e254 e255 e256 e257 e258 e259 e260 e261 e262 e263 e264 e265 e266 e267 e268 e269 e270 e271 e272 e273 e274 e275 e276 e277 e278 e279 e280 e281 e282 e283 e284 e285 e286 e287 e288 e289 e290 e291 e292:Value)
    (hB:w0.heap.size ≤ B)(hi40:i < 40)(hk3:k < 3)
    (hl:Loop n w0 B a d gb (.slice (some ⟨nb,0,none⟩) 3 nbc) (.slice (some ⟨og,0,none⟩) (ol + 1) oc) cs ol i wc c O T X L Q S)
    (hr:RF wc O w0.heap.size 47 2 (.slice (some ⟨lg,0,none⟩) 3 lc) 3 (plC ms Q))(hp:PQ wc O ms Q)
    (hx:Is wc bx 49 #[.int .i64 z,.int .i64 z1,.int .i64 z2,.int .i64 z3,.int .i64 z4])
    (hb:Below wc.heap.size wc wd)(hn:RF wd O w0.heap.size 47 2 (.slice (some ⟨ng,0,none⟩) 3 nc) 3 (plC ms Q))(hng:wc.heap.size ≤ ng)
    (hkd:2=3 ∨ ∃ S2,T.Cov S2 ∧ S2.length ≤ 40)
    (hz2 : -9223372036854775808 ≤ z2 ∧ z2 ≤ 9223372036854775807)(hz3 : -9223372036854775808 ≤ z3 ∧ z3 ≤ 9223372036854775807)(hz4 : -9223372036854775808 ≤ z4 ∧ z4 ≤ 9223372036854775807)
    (hK:∀ (v11 v21 v22 v23 v24 v25 v26 v120 v121 v122 v123 v124 v125 v126 v127 v128 v129 v130 v131 v132 v133 v134 v135 v136 v137 v138 v139 v140 v141 v142 v143 v144 v145 v146 v147 v148 v149 v150 v151 v152 v153 v154 v155 v156 v157 v158 v159 v160 v161 v162 v163 v164 v165 v166 v167 v168 v169 v170 v171 v172 v173 v174 v175 v176 v177 v178 v179 v180 v181 v182 v183 v184 v185 v186 v187 v188 v189 v190 v191 v192 v193 v194 v195 v196 v197 v198 v199 v200 v201 v202 v203 v204 v205 v206 v207 v208 v209 v210 v211 v212 v213 v214 v215 v216 v217 v218 v219 v220 v221 v222 v223 v224 v225 v226 v227 v228 v229 v230 v231 v232 v233:Value)(w':World),Switched n w0 B a d gb (.slice (some ⟨nb,0,none⟩) 3 nbc) (.slice (some ⟨og,0,none⟩) (ol + 1) oc) cs ol i (.slice (some ⟨lg,0,none⟩) 3 lc) (.slice (some ⟨ng,0,none⟩) 3 nc) v11 v21 v22 w' → K' ⟨#[.int .i64 (n:Int),.slice (some ⟨og,0,none⟩) (ol + 1) oc,e2,e3,e4,.pointer (some ⟨d,0,none⟩),e6,.pointer (some ⟨gb,0,none⟩),e8,e9,.int .i64 (dat n:Int),v11,.slice (some ⟨lg,0,none⟩) 3 lc,.slice (some ⟨nb,0,none⟩) 3 nbc,e14,e15,e16,.int .i64 (i:Int),.pointer (some ⟨bx,0,none⟩),.int .i64 (k:Int),.slice (some ⟨ng,0,none⟩) 3 nc,v21,v22,v23,v24,v25,v26,e27,e28,e29,e30,e31,e32,e33,e34,e35,e36,e37,e38,e39,e40,e41,e42,e43,e44,e45,e46,e47,e48,e49,e50,e51,e52,e53,e54,e55,e56,e57,e58,e59,e60,e61,e62,e63,e64,e65,e66,e67,e68,e69,e70,e71,e72,e73,e74,e75,e76,e77,e78,e79,e80,e81,e82,e83,e84,e85,e86,e87,e88,e89,e90,e91,e92,e93,e94,e95,e96,e97,e98,e99,e100,e101,e102,e103,e104,e105,e106,e107,e108,e109,e110,e111,e112,e113,e114,e115,e116,e117,e118,.int .i64 ((2:Nat):Int),v120,v121,v122,v123,v124,v125,v126,v127,v128,v129,v130,v131,v132,v133,v134,v135,v136,v137,v138,v139,v140,v141,v142,v143,v144,v145,v146,v147,v148,v149,v150,v151,v152,v153,v154,v155,v156,v157,v158,v159,v160,v161,v162,v163,v164,v165,v166,v167,v168,v169,v170,v171,v172,v173,v174,v175,v176,v177,v178,v179,v180,v181,v182,v183,v184,v185,v186,v187,v188,v189,v190,v191,v192,v193,v194,v195,v196,v197,v198,v199,v200,v201,v202,v203,v204,v205,v206,v207,v208,v209,v210,v211,v212,v213,v214,v215,v216,v217,v218,v219,v220,v221,v222,v223,v224,v225,v226,v227,v228,v229,v230,v231,v232,v233,e234,e235,e236,e237,e238,e239,e240,e241,e242,e243,e244,e245,e246,e247,e248,e249,e250,e251,e252,e253,e254,e255,e256,e257,e258,e259,e260,e261,e262,e263,e264,e265,e266,e267,e268,e269,e270,e271,e272,e273,e274,e275,e276,e277,e278,e279,e280,e281,e282,e283,e284,e285,e286,e287,e288,e289,e290,e291,e292],[]⟩ w') :
    Code.wp Tryz.prog switch4 (Exit.then K' Q') ⟨#[.int .i64 (n:Int),.slice (some ⟨og,0,none⟩) (ol + 1) oc,e2,e3,e4,.pointer (some ⟨d,0,none⟩),e6,.pointer (some ⟨gb,0,none⟩),e8,e9,.int .i64 (dat n:Int),.pointer (some ⟨c.t,0,none⟩),.slice (some ⟨lg,0,none⟩) 3 lc,.slice (some ⟨nb,0,none⟩) 3 nbc,e14,e15,e16,.int .i64 (i:Int),.pointer (some ⟨bx,0,none⟩),.int .i64 (k:Int),.slice (some ⟨ng,0,none⟩) 3 nc,.int .i64 0,.int .i64 0,e23,e24,e25,e26,e27,e28,e29,e30,e31,e32,e33,e34,e35,e36,e37,e38,e39,e40,e41,e42,e43,e44,e45,e46,e47,e48,e49,e50,e51,e52,e53,e54,e55,e56,e57,e58,e59,e60,e61,e62,e63,e64,e65,e66,e67,e68,e69,e70,e71,e72,e73,e74,e75,e76,e77,e78,e79,e80,e81,e82,e83,e84,e85,e86,e87,e88,e89,e90,e91,e92,e93,e94,e95,e96,e97,e98,e99,e100,e101,e102,e103,e104,e105,e106,e107,e108,e109,e110,e111,e112,e113,e114,e115,e116,e117,e118,.int .i64 ((2:Nat):Int),e120,e121,e122,e123,e124,e125,e126,e127,e128,e129,e130,e131,e132,e133,e134,e135,e136,e137,e138,e139,e140,e141,e142,e143,e144,e145,e146,e147,e148,e149,e150,e151,e152,e153,e154,e155,e156,e157,e158,e159,e160,e161,e162,e163,e164,e165,e166,e167,e168,e169,e170,e171,e172,e173,e174,e175,e176,e177,e178,e179,e180,e181,e182,e183,e184,e185,e186,e187,e188,e189,e190,e191,e192,e193,e194,e195,e196,e197,e198,e199,e200,e201,e202,e203,e204,e205,e206,e207,e208,e209,e210,e211,e212,e213,e214,e215,e216,e217,e218,e219,e220,e221,e222,e223,e224,e225,e226,e227,e228,e229,e230,e231,e232,e233,e234,e235,e236,e237,e238,e239,e240,e241,e242,e243,e244,e245,e246,e247,e248,e249,e250,e251,e252,e253,e254,e255,e256,e257,e258,e259,e260,e261,e262,e263,e264,e265,e266,e267,e268,e269,e270,e271,e272,e273,e274,e275,e276,e277,e278,e279,e280,e281,e282,e283,e284,e285,e286,e287,e288,e289,e290,e291,e292],[]⟩ wd:=by
  conv => arg 2; whnf
  have HK:=Lib.hid hK
  have HN:=Lib.hid hn
  have HB:=Lib.hid hB
  have HBD:=Lib.hid hb
  have HLC:=Lib.hid hl
  have HRC:=Lib.hid hr
  have HPC:=Lib.hid hp
  have HCE:=Lib.hid (fun w' (b:Below wc.heap.size wc w') => (sw_cells hl hr hx k hk3).below b)
  have hsd:=hb.size
  obtain ⟨q,hq⟩:∃ q,k + 2=q:=⟨_,rfl⟩
  rw [hq] at HCE
  have HWC:=Lib.hid (fun w' (b:Below wd.heap.size wd w') => hb.trans (b.mono hsd))
  obtain ⟨m,hm⟩:∃ m:Nat,z3 % 5000=(m:Int):=⟨(z3 % 5000).toNat,by omega⟩
  have hm5:m < 5000:=by omega
  have HMOD:=Lib.hid (fun X => mod_any z3 5000 X (by omega) (by omega) hz3.1 hz3.2)
  rw [hm] at HMOD
  have k0i:(0:Int) ≤ (k:Int):=by omega
  have k3i:(k:Int) < 3:=by omega
  obtain ⟨⟨d10,d11,d12,d13,d14⟩,dnb,⟨x0,x1,x2,x3,x4⟩,r0,r1⟩:=HCE.out wd HBD.out
  by_cases hneg:z2 < 0
  · have HRD:=Lib.hid (fun X => fread_neg c X n k z2 hneg (m:Int))
    rw [hq] at HRD
    have HSW:=Lib.hid (fun w' (b:Below wd.heap.size wd w') => sw_same (nxt:=.slice (some ⟨ng,0,none⟩) 3 nc) hl hB (HWC.out w' b) (code:=1) (by rw [if_neg (by decide)]; exact hr.away (by decide) (Away.below (HWC.out w' b))) hp)
    clear hK hn hB hb hl hr hp hx hkd hm hq x0 x1 x4 r0 r1
    go_upto_region 49 with (first
      | (go_at_call 11
         refine (HMOD.out _).mono ?_
         rintro e w' ⟨rfl,rfl⟩))
    clear x3
    go_region_held3 (fun w' => w'.cell? ⟨gb,0,none⟩=some (.int .i64 (n:Int)) ∧ w'.cell? ⟨gb,1,none⟩=some (.int .i64 98) ∧ w'.cell? ⟨gb,2,none⟩=some (.int .i64 (ino n:Int)) ∧ w'.cell? ⟨gb,3,none⟩=some (.int .i64 (dat n:Int)) ∧ w'.cell? ⟨gb,4,none⟩=some (.int .i64 (cnt n:Int)) ∧ w'.cell? ⟨nb,k,none⟩=some (.int .i64 (q:Int)) ∧ w'.cell? ⟨bx,2,none⟩=some (.int .i64 z2)) (first | exact ⟨d10,d11,d12,d13,d14,dnb,x2⟩ | exact HSK.out) (first
      | (go_at_call 19
         refine (HRD.out _).mono ?_
         rintro e w1 ⟨rfl,hb1⟩
         have HB1:=Lib.hid ((Below.refl wd.heap.size wd).drew.trans (hb1.mono (Nat.le_refl _)))
         have HSK:=Lib.hid (HCE.out w1 (HWC.out w1 HB1.out)).call
         clear hb1))
    have x2b:=(HCE.out w1 (HWC.out w1 HB1.out)).call.2.2.2.2.2.2
    go_wp2_with fail
    exact HK.out _ _ _ _ _ _ _ _ _ _ _ _ _ _ _ _ _ _ _ _ _ _ _ _ _ _ _ _ _ _ _ _ _ _ _ _ _ _ _ _ _ _ _ _ _ _ _ _ _ _ _ _ _ _ _ _ _ _ _ _ _ _ _ _ _ _ _ _ _ _ _ _ _ _ _ _ _ _ _ _ _ _ _ _ _ _ _ _ _ _ _ _ _ _ _ _ _ _ _ _ _ _ _ _ _ _ _ _ _ _ _ _ _ _ _ _ _ _ _ _ _ w1 (HSW.out w1 HB1.out)
  · obtain ⟨off,rfl⟩:∃ off:Nat,z2=(off:Int):=⟨z2.toNat,by omega⟩
    have HRD:=Lib.hid (fun X (b:Below wd.heap.size wd X) => fread_any c X O T n (hl.hold.later (HWC.out X b)).env _ _ _ hl.hold.fs k hk3 off m (by omega) (by omega))
    rw [hq] at HRD
    have HPR:=Lib.hid (fun X (b:Below wd.heap.size wd X) => pread_at (hp.later (HWC.out X b)) k hk3 off m (by omega) (by omega))
    have HSW:=Lib.hid (fun w' (b:Below wd.heap.size wd w') => sw_same (lv:=.slice (some ⟨lg,0,none⟩) 3 lc) (nxt:=.slice (some ⟨ng,0,none⟩) 3 nc) hl hB (HWC.out w' b) (code:=0) (by rw [if_pos rfl]; exact hn.away (by decide) (Away.below b)) hp)
    obtain ⟨RD,hrd⟩:∃ RD:List UInt8,(Q k).rd off m=RD:=⟨_,rfl⟩
    rw [hrd] at HRD HPR
    clear hK hn hB hb hl hr hp hx hkd hm hq x0 x1 x4 r0 r1 hrd
    go_upto_region 49 with (first
      | (go_at_call 11
         refine (HMOD.out _).mono ?_
         rintro e w' ⟨rfl,rfl⟩))
    clear x3
    go_region_held3 (fun w' => w'.cell? ⟨gb,0,none⟩=some (.int .i64 (n:Int)) ∧ w'.cell? ⟨gb,1,none⟩=some (.int .i64 98) ∧ w'.cell? ⟨gb,2,none⟩=some (.int .i64 (ino n:Int)) ∧ w'.cell? ⟨gb,3,none⟩=some (.int .i64 (dat n:Int)) ∧ w'.cell? ⟨gb,4,none⟩=some (.int .i64 (cnt n:Int)) ∧ w'.cell? ⟨nb,k,none⟩=some (.int .i64 (q:Int)) ∧ w'.cell? ⟨bx,2,none⟩=some (.int .i64 (off:Int))) (first | exact ⟨d10,d11,d12,d13,d14,dnb,x2⟩ | exact HSK.out) (first
      | (go_at_call 19
         refine (HRD.out _ (Below.refl wd.heap.size wd).drew).mono ?_
         rintro e w1 ⟨rfl,hb1⟩
         have HB1:=Lib.hid ((Below.refl wd.heap.size wd).drew.trans (hb1.mono (Nat.le_refl _)))
         have HSK:=Lib.hid (HCE.out w1 (HWC.out w1 HB1.out)).call
         clear hb1))
    have hs1:=HB1.out.size
    obtain ⟨r0,r1,x2b⟩:=(HCE.out w1 (HWC.out w1 HB1.out)).row
    clear d10 d11 d12 d13 d14 dnb x2
    go_upto_region 52 with fail
    go_region_held3 (fun w' => w'.cell? ⟨lg,k * 2,none⟩=some (.map (some (ms k))) ∧ w'.cell? ⟨lg,k * 2 + 1,none⟩=some (.int .i64 ((Q k).size:Int)) ∧ w'.cell? ⟨bx,2,none⟩=some (.int .i64 (off:Int))) (first | exact ⟨r0,r1,x2b⟩ | exact HSL.out) (first
      | (go_at_call 20
         refine (HPR.out _ HB1.out.drew).mono ?_
         rintro e w2 ⟨rfl,hb2⟩
         have HB2:=Lib.hid (HB1.out.drew.trans (hb2.mono hs1))
         have HSL:=Lib.hid (HCE.out w2 (HWC.out w2 HB2.out)).row
         clear hb2))
    go_wp2_with fail
    exact HK.out _ _ _ _ _ _ _ _ _ _ _ _ _ _ _ _ _ _ _ _ _ _ _ _ _ _ _ _ _ _ _ _ _ _ _ _ _ _ _ _ _ _ _ _ _ _ _ _ _ _ _ _ _ _ _ _ _ _ _ _ _ _ _ _ _ _ _ _ _ _ _ _ _ _ _ _ _ _ _ _ _ _ _ _ _ _ _ _ _ _ _ _ _ _ _ _ _ _ _ _ _ _ _ _ _ _ _ _ _ _ _ _ _ _ _ _ _ _ _ _ _ w2 (HSW.out w2 HB2.out)
end Go.Proofs.YthkijogloebdoaaGreatDoor
end
section
set_option maxRecDepth 1000000
namespace Go.Proofs.YthkijogloebdoaaGreatDoor
open Go.RowKit Go.Maps Rec Gp Fs
set_option maxHeartbeats 6400000 in
theorem kind3 (n ol oc og d gb nb nbc lg lc ng nc bx:Nat)(w0:World)(B a:Nat)(cs:List Value)(i k:Nat)(c:Cx)(O:Nat → Prop)(T:Tn)(X:Nat → Ino)(L:Nat → Nat → Nat)(Q:Nat → Pl)(S:List Nat)(ms:Nat → Nat)(z z1 z2 z3 z4:Int)(wc wd:World)(K':Act → World → Prop)(Q':Exit → Act → World → Prop)
    (e2 e3 e4 e6 e8 e9 e14 e15 e16 e23 e24 e25 e26 e27 e28 e29 e30 e31 e32 e33 e34 e35 e36 e37 e38 e39 e40 e41 e42 e43 e44 e45 e46 e47 e48 e49 e50 e51 e52 e53 e54 e55 e56 e57 e58 e59 e60 e61 e62 e63 e64 e65 e66 e67 e68 e69 e70 e71 e72 e73 e74 e75 e76 e77 e78 e79 e80 e81 e82 e83 e84 e85 e86 e87 e88 e89 e90 e91 e92 e93 e94 e95 e96 e97 e98 e99 e100 e101 e102 e103 e104 e105 e106 e107 e108 e109 e110 e111 e112 e113 e114 e115 e116 e117 e118 e120 e121 e122 e123 e124 e125 e126 e127 e128 e129 e130 e131 e132 e133 e134 e135 e136 e137 e138 e139 e140 e141 e142 e143 e144 e145 e146 e147 e148 e149 e150 e151 e152 e153 e154 e155 e156 e157 e158 e159 e160 e161 e162 e163 e164 e165 e166 e167 e168 e169 e170 e171 e172 e173 e174 e175 e176 e177 e178 e179 e180 e181 e182 e183 e184 e185 e186 e187 e188 e189 e190 e191 e192 e193 e194 e195 e196 e197 e198 e199 e200 e201 e202 e203 e204 e205 e206 e207 e208 e209 e210 e211 e212 e213 e214 e215 e216 e217 e218 e219 e220 e221 e222 e223 e224 e225 e226 e227 e228 e229 e230 e231 e232 e233 e234 e235 e236 e237 e238 e239 e240 e241 e242 e243 e244 e245 e246 e247 e248 e249 e250 e251 e252 e253 e254 e255 e256 e257 e258 e259 e260 e261 e262 e263 e264 e265 e266 e267 e268 e269 e270 e271 e272 e273 e274 e275 e276 e277 e278 e279 e280 e281 e282 e283 e284 e285 e286 e287 e288 e289 e290 e291 e292:Value)
    (hB:w0.heap.size ≤ B)(hi40:i < 40)(hk3:k < 3)
    (hl:Loop n w0 B a d gb (.slice (some ⟨nb,0,none⟩) 3 nbc) (.slice (some ⟨og,0,none⟩) (ol + 1) oc) cs ol i wc c O T X L Q S)
    (hr:RF wc O w0.heap.size 47 2 (.slice (some ⟨lg,0,none⟩) 3 lc) 3 (plC ms Q))(hp:PQ wc O ms Q)
    (hx:Is wc bx 49 #[.int .i64 z,.int .i64 z1,.int .i64 z2,.int .i64 z3,.int .i64 z4])
    (hb:Below wc.heap.size wc wd)(hn:RF wd O w0.heap.size 47 2 (.slice (some ⟨ng,0,none⟩) 3 nc) 3 (plC ms Q))(hng:wc.heap.size ≤ ng)
    (hkd:3=3 ∨ ∃ S2,T.Cov S2 ∧ S2.length ≤ 40)
    (hz2 : -9223372036854775808 ≤ z2 ∧ z2 ≤ 9223372036854775807)(hz3 : -9223372036854775808 ≤ z3 ∧ z3 ≤ 9223372036854775807)(hz4 : -9223372036854775808 ≤ z4 ∧ z4 ≤ 9223372036854775807)
    (hK:∀ (v11 v21 v22 v23 v24 v25 v26 v120 v121 v122 v123 v124 v125 v126 v127 v128 v129 v130 v131 v132 v133 v134 v135 v136 v137 v138 v139 v140 v141 v142 v143 v144 v145 v146 v147 v148 v149 v150 v151 v152 v153 v154 v155 v156 v157 v158 v159 v160 v161 v162 v163 v164 v165 v166 v167 v168 v169 v170 v171 v172 v173 v174 v175 v176 v177 v178 v179 v180 v181 v182 v183 v184 v185 v186 v187 v188 v189 v190 v191 v192 v193 v194 v195 v196 v197 v198 v199 v200 v201 v202 v203 v204 v205 v206 v207 v208 v209 v210 v211 v212 v213 v214 v215 v216 v217 v218 v219 v220 v221 v222 v223 v224 v225 v226 v227 v228 v229 v230 v231 v232 v233:Value)(w':World),Switched n w0 B a d gb (.slice (some ⟨nb,0,none⟩) 3 nbc) (.slice (some ⟨og,0,none⟩) (ol + 1) oc) cs ol i (.slice (some ⟨lg,0,none⟩) 3 lc) (.slice (some ⟨ng,0,none⟩) 3 nc) v11 v21 v22 w' → K' ⟨#[.int .i64 (n:Int),.slice (some ⟨og,0,none⟩) (ol + 1) oc,e2,e3,e4,.pointer (some ⟨d,0,none⟩),e6,.pointer (some ⟨gb,0,none⟩),e8,e9,.int .i64 (dat n:Int),v11,.slice (some ⟨lg,0,none⟩) 3 lc,.slice (some ⟨nb,0,none⟩) 3 nbc,e14,e15,e16,.int .i64 (i:Int),.pointer (some ⟨bx,0,none⟩),.int .i64 (k:Int),.slice (some ⟨ng,0,none⟩) 3 nc,v21,v22,v23,v24,v25,v26,e27,e28,e29,e30,e31,e32,e33,e34,e35,e36,e37,e38,e39,e40,e41,e42,e43,e44,e45,e46,e47,e48,e49,e50,e51,e52,e53,e54,e55,e56,e57,e58,e59,e60,e61,e62,e63,e64,e65,e66,e67,e68,e69,e70,e71,e72,e73,e74,e75,e76,e77,e78,e79,e80,e81,e82,e83,e84,e85,e86,e87,e88,e89,e90,e91,e92,e93,e94,e95,e96,e97,e98,e99,e100,e101,e102,e103,e104,e105,e106,e107,e108,e109,e110,e111,e112,e113,e114,e115,e116,e117,e118,.int .i64 ((3:Nat):Int),v120,v121,v122,v123,v124,v125,v126,v127,v128,v129,v130,v131,v132,v133,v134,v135,v136,v137,v138,v139,v140,v141,v142,v143,v144,v145,v146,v147,v148,v149,v150,v151,v152,v153,v154,v155,v156,v157,v158,v159,v160,v161,v162,v163,v164,v165,v166,v167,v168,v169,v170,v171,v172,v173,v174,v175,v176,v177,v178,v179,v180,v181,v182,v183,v184,v185,v186,v187,v188,v189,v190,v191,v192,v193,v194,v195,v196,v197,v198,v199,v200,v201,v202,v203,v204,v205,v206,v207,v208,v209,v210,v211,v212,v213,v214,v215,v216,v217,v218,v219,v220,v221,v222,v223,v224,v225,v226,v227,v228,v229,v230,v231,v232,v233,e234,e235,e236,e237,e238,e239,e240,e241,e242,e243,e244,e245,e246,e247,e248,e249,e250,e251,e252,e253,e254,e255,e256,e257,e258,e259,e260,e261,e262,e263,e264,e265,e266,e267,e268,e269,e270,e271,e272,e273,e274,e275,e276,e277,e278,e279,e280,e281,e282,e283,e284,e285,e286,e287,e288,e289,e290,e291,e292],[]⟩ w') :
    Code.wp Tryz.prog switch4 (Exit.then K' Q') ⟨#[.int .i64 (n:Int),.slice (some ⟨og,0,none⟩) (ol + 1) oc,e2,e3,e4,.pointer (some ⟨d,0,none⟩),e6,.pointer (some ⟨gb,0,none⟩),e8,e9,.int .i64 (dat n:Int),.pointer (some ⟨c.t,0,none⟩),.slice (some ⟨lg,0,none⟩) 3 lc,.slice (some ⟨nb,0,none⟩) 3 nbc,e14,e15,e16,.int .i64 (i:Int),.pointer (some ⟨bx,0,none⟩),.int .i64 (k:Int),.slice (some ⟨ng,0,none⟩) 3 nc,.int .i64 0,.int .i64 0,e23,e24,e25,e26,e27,e28,e29,e30,e31,e32,e33,e34,e35,e36,e37,e38,e39,e40,e41,e42,e43,e44,e45,e46,e47,e48,e49,e50,e51,e52,e53,e54,e55,e56,e57,e58,e59,e60,e61,e62,e63,e64,e65,e66,e67,e68,e69,e70,e71,e72,e73,e74,e75,e76,e77,e78,e79,e80,e81,e82,e83,e84,e85,e86,e87,e88,e89,e90,e91,e92,e93,e94,e95,e96,e97,e98,e99,e100,e101,e102,e103,e104,e105,e106,e107,e108,e109,e110,e111,e112,e113,e114,e115,e116,e117,e118,.int .i64 ((3:Nat):Int),e120,e121,e122,e123,e124,e125,e126,e127,e128,e129,e130,e131,e132,e133,e134,e135,e136,e137,e138,e139,e140,e141,e142,e143,e144,e145,e146,e147,e148,e149,e150,e151,e152,e153,e154,e155,e156,e157,e158,e159,e160,e161,e162,e163,e164,e165,e166,e167,e168,e169,e170,e171,e172,e173,e174,e175,e176,e177,e178,e179,e180,e181,e182,e183,e184,e185,e186,e187,e188,e189,e190,e191,e192,e193,e194,e195,e196,e197,e198,e199,e200,e201,e202,e203,e204,e205,e206,e207,e208,e209,e210,e211,e212,e213,e214,e215,e216,e217,e218,e219,e220,e221,e222,e223,e224,e225,e226,e227,e228,e229,e230,e231,e232,e233,e234,e235,e236,e237,e238,e239,e240,e241,e242,e243,e244,e245,e246,e247,e248,e249,e250,e251,e252,e253,e254,e255,e256,e257,e258,e259,e260,e261,e262,e263,e264,e265,e266,e267,e268,e269,e270,e271,e272,e273,e274,e275,e276,e277,e278,e279,e280,e281,e282,e283,e284,e285,e286,e287,e288,e289,e290,e291,e292],[]⟩ wd:=by
  conv => arg 2; whnf
  have HK:=Lib.hid hK
  have HN:=Lib.hid hn
  have HB:=Lib.hid hB
  have HBD:=Lib.hid hb
  have HLC:=Lib.hid hl
  have HRC:=Lib.hid hr
  have HPC:=Lib.hid hp
  have HCE:=Lib.hid (fun w' (b:Below wc.heap.size wc w') => (sw_cells hl hr hx k hk3).below b)
  have hsd:=hb.size
  have HCM:=Lib.hid (lcommit_any (hl.later hb) hB (by omega))
  have HLD:=Lib.hid (hl.later hb)
  have HPD:=Lib.hid (hp.later hb)
  clear hK hn hB hb hl hr hp hx hkd
  go_wp2_with (first
    | (go_at_call 21
       refine HCM.out.mono ?_
       rintro e w1 ⟨rfl,F,D,hla,haw,hbw⟩
       have HLA:=Lib.hid hla
       have HAW:=Lib.hid haw
       have HBW:=Lib.hid hbw
       clear hla haw hbw)
    | (go_at_call 9
       refine (lbegin_any HLA.out).mono ?_
       rintro e w2 ⟨c2,O2,T2,rfl,hho,hcx,hlo,haw2,hbw2⟩
       have HSW:=Lib.hid (sw_begun (lv:=.slice (some ⟨lg,0,none⟩) 3 lc) HLD.out (Nat.le_refl _) HAW.out HBW.out hho hcx hlo haw2 hbw2 HN.out HPD.out)
       clear hho hcx hlo haw2 hbw2))
  exact HK.out _ _ _ _ _ _ _ _ _ _ _ _ _ _ _ _ _ _ _ _ _ _ _ _ _ _ _ _ _ _ _ _ _ _ _ _ _ _ _ _ _ _ _ _ _ _ _ _ _ _ _ _ _ _ _ _ _ _ _ _ _ _ _ _ _ _ _ _ _ _ _ _ _ _ _ _ _ _ _ _ _ _ _ _ _ _ _ _ _ _ _ _ _ _ _ _ _ _ _ _ _ _ _ _ _ _ _ _ _ _ _ _ _ _ _ _ _ _ _ _ _ w2 HSW.out
end Go.Proofs.YthkijogloebdoaaGreatDoor
end
